/- The numbers of the functions; the variables that are never written. -/
import Derived.Test.YtfhilbdpejljdaaGreatDoorA5
set_option linter.all false
namespace Go.Am
abbrev n_main_main : Nat := 0
abbrev n_gosem_cut : Nat := 1
abbrev n_gosem_cut_init : Nat := 2
abbrev n_pandectlaw38_OrdersetPairs : Nat := 3
abbrev n_pandectlaw38_OrdersetMonotonicity : Nat := 4
abbrev n_pandectlaw38_OrdersetMinimum : Nat := 5
abbrev n_pandectlaw38_OrdersetLimit : Nat := 6
abbrev n_pandectlaw38_awake : Nat := 7
abbrev n_pandectref38_Few : Nat := 8
abbrev n_enact_ApplyAct : Nat := 9
abbrev n_orderset_Minimum : Nat := 10
abbrev n_pandectref06_Same : Nat := 11
abbrev n_orderset_CountOutcomes : Nat := 12
abbrev n_pandectref38_Ints : Nat := 13
abbrev n_orderset_Sufficient : Nat := 14
abbrev n_pandectref38_Given : Nat := 15
abbrev n_orderset_Orders : Nat := 16
abbrev n_pandectlaw38_done : Nat := 17
abbrev n_unit_Equal : Nat := 18
abbrev n_pandectlaw38_head : Nat := 19
abbrev n_pandectref38_Lists : Nat := 20
abbrev n_pandectref26_Few : Nat := 21
abbrev n_pandectref26_Book : Nat := 22
abbrev n_pandectref18_Few : Nat := 23
abbrev n_enact_ApplyAll : Nat := 24
abbrev n_orderset_rows : Nat := 25
abbrev n_slices_Compare___int_int_ : Nat := 26
abbrev n_orderset_enough : Nat := 27
abbrev n_orderset_kept : Nat := 28
abbrev n_pandectref06_Rows : Nat := 29
abbrev n_api_Unit_ : Nat := 30
abbrev n_orderset_CountOutcomes_1 : Nat := 31
abbrev n_slices_Sorted_int_ : Nat := 32
abbrev n_slices_Values___int_int_ : Nat := 33
abbrev n_slices_Equal___int_int_ : Nat := 34
abbrev n_orderset_given : Nat := 35
abbrev n_orderset_orders : Nat := 36
abbrev n_orderset_keeps : Nat := 37
abbrev n_slices_Clone___int_int_ : Nat := 38
abbrev n_api_Word_ : Nat := 39
abbrev n_api_Unit__40 : Nat := 40
abbrev n_pandectref06_Few : Nat := 41
abbrev n_pandectref08_Stands : Nat := 42
abbrev n_pandectref17_Few : Nat := 43
abbrev n_syntax_IsAmendment : Nat := 44
abbrev n_enact_Apply : Nat := 45
abbrev n_orderset_book : Nat := 46
abbrev n_cmp_Compare_int_ : Nat := 47
abbrev n_api_Unit__48 : Nat := 48
abbrev n_slices_Collect_int_ : Nat := 49
abbrev n_slices_Sort___int_int_ : Nat := 50
abbrev n_slices_Values___int_int__1 : Nat := 51
abbrev n_orderset_orders_1 : Nat := 52
abbrev n_slices_Reverse___int_int_ : Nat := 53
abbrev n_orderset_places : Nat := 54
abbrev n_pandectref06_size : Nat := 55
abbrev n_pandectref06_words : Nat := 56
abbrev n_pandectref06_May : Nat := 57
abbrev n_pandectref08_named : Nat := 58
abbrev n_enact_doers : Nat := 59
abbrev n_syntax_Valid : Nat := 60
abbrev n_address_FindOne : Nat := 61
abbrev n_unit_Find : Nat := 62
abbrev n_cmp_isNaN_int_ : Nat := 63
abbrev n_slices_AppendSeq___int_int_ : Nat := 64
abbrev n_slices_pdqsortOrdered_int_ : Nat := 65
abbrev n_math_bits_Len : Nat := 66
abbrev n_pandectref06_short : Nat := 67
abbrev n_pandectref06_Right : Nat := 68
abbrev n_pandectref06_Depth : Nat := 69
abbrev n_pandectref06_Count : Nat := 70
abbrev n_pandectref06_Ids : Nat := 71
abbrev n_enact_insert : Nat := 72
abbrev n_enact_repeal : Nat := 73
abbrev n_enact_words : Nat := 74
abbrev n_enact_put : Nat := 75
abbrev n_enact_heading : Nat := 76
abbrev n_enact_relabel : Nat := 77
abbrev n_enact_move : Nat := 78
abbrev n_syntax_rules : Nat := 79
abbrev n_address_Valid : Nat := 80
abbrev n_syntax_isName : Nat := 81
abbrev n_syntax_begins : Nat := 82
abbrev n_syntax_Equal : Nat := 83
abbrev n_address_FindAll : Nat := 84
abbrev n_unit_way : Nat := 85
abbrev n_unit_copied : Nat := 86
abbrev n_slices_insertionSortOrdered_int_ : Nat := 87
abbrev n_slices_heapSortOrdered_int_ : Nat := 88
abbrev n_slices_breakPatternsOrdered_int_ : Nat := 89
abbrev n_slices_choosePivotOrdered_int_ : Nat := 90
abbrev n_slices_reverseRangeOrdered_int_ : Nat := 91
abbrev n_slices_partialInsertionSortOrdered_int_ : Nat := 92
abbrev n_cmp_Less_int_ : Nat := 93
abbrev n_slices_partitionEqualOrdered_int_ : Nat := 94
abbrev n_slices_partitionOrdered_int_ : Nat := 95
abbrev n_math_bits_Len32 : Nat := 96
abbrev n_math_bits_Len64 : Nat := 97
abbrev n_pandectref06_alone : Nat := 98
abbrev n_pandectref06_Nests : Nat := 99
abbrev n_pandectref06_All : Nat := 100
abbrev n_target_Destination : Nat := 101
abbrev n_wording_Stamp : Nat := 102
abbrev n_enact_takes : Nat := 103
abbrev n_enact_deep : Nat := 104
abbrev n_unit_Count : Nat := 105
abbrev n_unit_IDs : Nat := 106
abbrev n_api_Id_ : Nat := 107
abbrev n_enact_insert_1 : Nat := 108
abbrev n_api_Id__109 : Nat := 109
abbrev n_enact_with : Nat := 110
abbrev n_enact_insert_2 : Nat := 111
abbrev n_api_Unit__112 : Nat := 112
abbrev n_enact_without : Nat := 113
abbrev n_wording_Replace : Nat := 114
abbrev n_enact_words_1 : Nat := 115
abbrev n_wording_InsertAfter : Nat := 116
abbrev n_enact_put_1 : Nat := 117
abbrev n_wording_Mark : Nat := 118
abbrev n_enact_heading_1 : Nat := 119
abbrev n_unit_Parent : Nat := 120
abbrev n_enact_relabel_1 : Nat := 121
abbrev n_enact_move_1 : Nat := 122
abbrev n_syntax_rules_1 : Nat := 123
abbrev n_syntax_rules_2 : Nat := 124
abbrev n_syntax_where : Nat := 125
abbrev n_syntax_isUnit : Nat := 126
abbrev n_syntax_rules_3 : Nat := 127
abbrev n_syntax_rules_4 : Nat := 128
abbrev n_syntax_rules_5 : Nat := 129
abbrev n_syntax_rules_6 : Nat := 130
abbrev n_syntax_row : Nat := 131
abbrev n_syntax_nth : Nat := 132
abbrev n_syntax_rules_7 : Nat := 133
abbrev n_syntax_rules_8 : Nat := 134
abbrev n_syntax_rules_9 : Nat := 135
abbrev n_syntax_rules_10 : Nat := 136
abbrev n_syntax_rules_11 : Nat := 137
abbrev n_syntax_rules_12 : Nat := 138
abbrev n_label_Valid : Nat := 139
abbrev n_syntax_rules_13 : Nat := 140
abbrev n_syntax_rules_14 : Nat := 141
abbrev n_syntax_rules_15 : Nat := 142
abbrev n_syntax_rules_16 : Nat := 143
abbrev n_syntax_within : Nat := 144
abbrev n_syntax_rules_17 : Nat := 145
abbrev n_syntax_rules_18 : Nat := 146
abbrev n_syntax_aims : Nat := 147
abbrev n_address_book : Nat := 148
abbrev n_strings_Trim : Nat := 149
abbrev n_api_Step_ : Nat := 150
abbrev n_slices_Equal___string_string_ : Nat := 151
abbrev n_api_Item_ : Nat := 152
abbrev n_address_found : Nat := 153
abbrev n_api_Word__154 : Nat := 154
abbrev n_slices_siftDownOrdered_int_ : Nat := 155
abbrev n_slices_nextPowerOfTwo : Nat := 156
abbrev n_slices_xorshift_Next : Nat := 157
abbrev n_slices_medianAdjacentOrdered_int_ : Nat := 158
abbrev n_slices_medianOrdered_int_ : Nat := 159
abbrev n_pandectref06_row : Nat := 160
abbrev n_pandectref03_May : Nat := 161
abbrev n_target_InsertionPoint : Nat := 162
abbrev n_target_isWhere : Nat := 163
abbrev n_target_goes : Nat := 164
abbrev n_wording_stamper_tree : Nat := 165
abbrev n_unit_CanContain : Nat := 166
abbrev n_enact_takes_1 : Nat := 167
abbrev n_unit_Ancestors : Nat := 168
abbrev n_unit_Depth : Nat := 169
abbrev n_unit_every : Nat := 170
abbrev n_unit_Count_1 : Nat := 171
abbrev n_unit_IDs_1 : Nat := 172
abbrev n_api_Id__173 : Nat := 173
abbrev n_api_Id__174 : Nat := 174
abbrev n_api_Unit__175 : Nat := 175
abbrev n_api_Unit__176 : Nat := 176
abbrev n_api_Unit__177 : Nat := 177
abbrev n_enact_without_1 : Nat := 178
abbrev n_api_Unit__179 : Nat := 179
abbrev n_wording_places : Nat := 180
abbrev n_wording_put : Nat := 181
abbrev n_unit_Parent_1 : Nat := 182
abbrev n_plaintext_Format : Nat := 183
abbrev n_unit_IsBare : Nat := 184
abbrev n_wordseq_Valid : Nat := 185
abbrev n_label_parted : Nat := 186
abbrev n_label_Valid_1 : Nat := 187
abbrev n_strings_ContainsFunc : Nat := 188
abbrev n_strings_trimLeftByte : Nat := 189
abbrev n_strings_trimRightByte : Nat := 190
abbrev n_strings_makeASCIISet : Nat := 191
abbrev n_strings_trimLeftASCII : Nat := 192
abbrev n_strings_trimRightASCII : Nat := 193
abbrev n_strings_trimLeftUnicode : Nat := 194
abbrev n_strings_trimRightUnicode : Nat := 195
abbrev n_address_each : Nat := 196
abbrev n_address_found_1 : Nat := 197
abbrev n_address_called : Nat := 198
abbrev n_slices_order2Ordered_int_ : Nat := 199
abbrev n_pandectref04_May : Nat := 200
abbrev n_pandectref06_Texts : Nat := 201
abbrev n_pandectref03_digits : Nat := 202
abbrev n_target_leads : Nat := 203
abbrev n_wording_stamper_row : Nat := 204
abbrev n_slices_Contains___int_int_ : Nat := 205
abbrev n_api_Unit__206 : Nat := 206
abbrev n_wordseq_FindAll : Nat := 207
abbrev n_wording_Strings : Nat := 208
abbrev n_plaintext_Lines : Nat := 209
abbrev n_strings_Join : Nat := 210
abbrev n_unit_Valid : Nat := 211
abbrev n_unit_IsBare_1 : Nat := 212
abbrev n_unit_IsBare_1_1 : Nat := 213
abbrev n_api_Word__214 : Nat := 214
abbrev n_slices_ContainsFunc___string_string_ : Nat := 215
abbrev n_wordseq_Valid_1 : Nat := 216
abbrev n_wordseq_word : Nat := 217
abbrev n_strings_IndexFunc : Nat := 218
abbrev n_label_parted_1 : Nat := 219
abbrev n_strings_asciiSet_contains : Nat := 220
abbrev n_unicode_utf8_DecodeRuneInString : Nat := 221
abbrev n_strings_ContainsRune : Nat := 222
abbrev n_unicode_utf8_DecodeLastRuneInString : Nat := 223
abbrev n_pandectref04_Word : Nat := 224
abbrev n_target_leads_1 : Nat := 225
abbrev n_target_into : Nat := 226
abbrev n_target_leads_1_1 : Nat := 227
abbrev n_target_leads_2 : Nat := 228
abbrev n_target_leads_2_1 : Nat := 229
abbrev n_target_leads_3 : Nat := 230
abbrev n_target_beside : Nat := 231
abbrev n_target_leads_4 : Nat := 232
abbrev n_slices_Index___int_int_ : Nat := 233
abbrev n_api_Unit__234 : Nat := 234
abbrev n_unit_Strip : Nat := 235
abbrev n_plaintext_Lines_1 : Nat := 236
abbrev n_plaintext_FormatLine : Nat := 237
abbrev n_strings_Builder_Grow : Nat := 238
abbrev n_strings_Builder_WriteString : Nat := 239
abbrev n_strings_Builder_String : Nat := 240
abbrev n_unit_alone : Nat := 241
abbrev n_unit_ids : Nat := 242
abbrev n_api_Word__243 : Nat := 243
abbrev n_slices_IndexFunc___string_string_ : Nat := 244
abbrev n_wordseq_word_1 : Nat := 245
abbrev n_slices_ContainsFunc___byte_byte_ : Nat := 246
abbrev n_strings_indexFunc : Nat := 247
abbrev n_unicode_utf8_decodeRuneInStringSlow : Nat := 248
abbrev n_strings_IndexRune : Nat := 249
abbrev n_unicode_utf8_RuneStart : Nat := 250
abbrev n_plaintext_may : Nat := 251
abbrev n_strings_Repeat : Nat := 252
abbrev n_unit_KindName : Nat := 253
abbrev n_plaintext_put : Nat := 254
abbrev n_strings_Builder_copyCheck : Nat := 255
abbrev n_strings_Builder_grow : Nat := 256
abbrev n_unit_row : Nat := 257
abbrev n_slices_IndexFunc___byte_byte_ : Nat := 258
abbrev n_strings_IndexByte : Nat := 259
abbrev n_unicode_utf8_ValidRune : Nat := 260
abbrev n_internal_bytealg_Cutover : Nat := 261
abbrev n_internal_bytealg_IndexString : Nat := 262
abbrev n_math_bits_Mul : Nat := 263
abbrev n_strings_HasPrefix : Nat := 264
abbrev n_strings_Builder_Len : Nat := 265
abbrev n_internal_abi_NoEscape : Nat := 266
abbrev n_internal_bytealg_MakeNoZero : Nat := 267
abbrev n_internal_stringslite_IndexByte : Nat := 268
abbrev n_math_bits_Mul32 : Nat := 269
abbrev n_math_bits_Mul64 : Nat := 270
abbrev n_internal_stringslite_HasPrefix : Nat := 271
abbrev n_internal_bytealg_IndexByteString : Nat := 272
abbrev n__runtime_boundsError_Error : Nat := 273
abbrev n__runtime_boundsError_RuntimeError : Nat := 274
abbrev n__runtime_errorString_Error : Nat := 275
abbrev n__runtime_errorString_RuntimeError : Nat := 276
abbrev n__runtime_plainError_Error : Nat := 277
abbrev n__runtime_plainError_RuntimeError : Nat := 278
abbrev n__runtime_errorAddressString_Error : Nat := 279
abbrev n__runtime_errorAddressString_RuntimeError : Nat := 280
abbrev n_runtime_TypeAssertionError_Error : Nat := 281
abbrev n_runtime_TypeAssertionError_RuntimeError : Nat := 282
abbrev n_runtime_PanicNilError_Error : Nat := 283
abbrev n_runtime_PanicNilError_RuntimeError : Nat := 284
abbrev n_internal_abi_Type_Align : Nat := 285
abbrev n__internal_runtime_maps_unhashableTypeError_Error : Nat := 286
abbrev n__internal_runtime_maps_unhashableTypeError_RuntimeError : Nat := 287
abbrev n_strings_Builder_Reset : Nat := 288
abbrev n__internal_abi_Kind_String : Nat := 289
abbrev n_syntax_order_1 : Nat := 290
abbrev n_syntax_order_2 : Nat := 291
abbrev n_var_s_door__gosem_cut_vars_holds_initialisers_alone__see_the_manifest_s_row_cutvarsword__look_11__test_files_too : Nat := 292
abbrev n_syntax_order_is_laid_by_its_own_initialiser__plain_data_and_functions_by_name__funcs_1 : Nat := 293
abbrev n_unit_below_is_laid_by_its_own_initialiser__plain_data_by_the_wider_look__data_2 : Nat := 294
abbrev n_unit_below_was_passed_by_the_deep_look__deep_1 : Nat := 295
abbrev n_unit_names_is_laid_by_its_own_initialiser__plain_data__look_11 : Nat := 296
abbrev n_var_s_door__the_look_of_gosem_cut_vars_went_over_the_folder_that_the_caller_named_as_the_repository_s_root__look_11 : Nat := 297
abbrev n_var_s_door__unicode_utf8_acceptRanges_is_laid_by_its_own_initialiser__plain_data__look_11 : Nat := 298
abbrev n_var_s_door__unicode_utf8_first_is_laid_by_its_text_alone__pinned_1 : Nat := 299
abbrev n_gosem_cut_vars : Nat := 300
def g_0 : List Av := [.fn n_syntax_order_1 [], .fn n_syntax_order_2 []]
def g_1 : List Av := [.sl [[.int .i64 1], [.int .i64 2]] .any, .sl [[.int .i64 2]] .any, .sl [[.int .i64 3], [.int .i64 4], [.int .i64 7]] .any, .sl [[.int .i64 3], [.int .i64 4], [.int .i64 7]] .any, .sl [[.int .i64 5]] .any, .sl [[.int .i64 6]] .any, .sl [] .nil, .sl [] .nil]
def g_2 : List Av := [.int .u8 240, .int .u8 240, .int .u8 240, .int .u8 240, .int .u8 240, .int .u8 240, .int .u8 240, .int .u8 240, .int .u8 240, .int .u8 240, .int .u8 240, .int .u8 240, .int .u8 240, .int .u8 240, .int .u8 240, .int .u8 240, .int .u8 240, .int .u8 240, .int .u8 240, .int .u8 240, .int .u8 240, .int .u8 240, .int .u8 240, .int .u8 240, .int .u8 240, .int .u8 240, .int .u8 240, .int .u8 240, .int .u8 240, .int .u8 240, .int .u8 240, .int .u8 240, .int .u8 240, .int .u8 240, .int .u8 240, .int .u8 240, .int .u8 240, .int .u8 240, .int .u8 240, .int .u8 240, .int .u8 240, .int .u8 240, .int .u8 240, .int .u8 240, .int .u8 240, .int .u8 240, .int .u8 240, .int .u8 240, .int .u8 240, .int .u8 240, .int .u8 240, .int .u8 240, .int .u8 240, .int .u8 240, .int .u8 240, .int .u8 240, .int .u8 240, .int .u8 240, .int .u8 240, .int .u8 240, .int .u8 240, .int .u8 240, .int .u8 240, .int .u8 240, .int .u8 240, .int .u8 240, .int .u8 240, .int .u8 240, .int .u8 240, .int .u8 240, .int .u8 240, .int .u8 240, .int .u8 240, .int .u8 240, .int .u8 240, .int .u8 240, .int .u8 240, .int .u8 240, .int .u8 240, .int .u8 240, .int .u8 240, .int .u8 240, .int .u8 240, .int .u8 240, .int .u8 240, .int .u8 240, .int .u8 240, .int .u8 240, .int .u8 240, .int .u8 240, .int .u8 240, .int .u8 240, .int .u8 240, .int .u8 240, .int .u8 240, .int .u8 240, .int .u8 240, .int .u8 240, .int .u8 240, .int .u8 240, .int .u8 240, .int .u8 240, .int .u8 240, .int .u8 240, .int .u8 240, .int .u8 240, .int .u8 240, .int .u8 240, .int .u8 240, .int .u8 240, .int .u8 240, .int .u8 240, .int .u8 240, .int .u8 240, .int .u8 240, .int .u8 240, .int .u8 240, .int .u8 240, .int .u8 240, .int .u8 240, .int .u8 240, .int .u8 240, .int .u8 240, .int .u8 240, .int .u8 240, .int .u8 240, .int .u8 240, .int .u8 240, .int .u8 241, .int .u8 241, .int .u8 241, .int .u8 241, .int .u8 241, .int .u8 241, .int .u8 241, .int .u8 241, .int .u8 241, .int .u8 241, .int .u8 241, .int .u8 241, .int .u8 241, .int .u8 241, .int .u8 241, .int .u8 241, .int .u8 241, .int .u8 241, .int .u8 241, .int .u8 241, .int .u8 241, .int .u8 241, .int .u8 241, .int .u8 241, .int .u8 241, .int .u8 241, .int .u8 241, .int .u8 241, .int .u8 241, .int .u8 241, .int .u8 241, .int .u8 241, .int .u8 241, .int .u8 241, .int .u8 241, .int .u8 241, .int .u8 241, .int .u8 241, .int .u8 241, .int .u8 241, .int .u8 241, .int .u8 241, .int .u8 241, .int .u8 241, .int .u8 241, .int .u8 241, .int .u8 241, .int .u8 241, .int .u8 241, .int .u8 241, .int .u8 241, .int .u8 241, .int .u8 241, .int .u8 241, .int .u8 241, .int .u8 241, .int .u8 241, .int .u8 241, .int .u8 241, .int .u8 241, .int .u8 241, .int .u8 241, .int .u8 241, .int .u8 241, .int .u8 241, .int .u8 241, .int .u8 2, .int .u8 2, .int .u8 2, .int .u8 2, .int .u8 2, .int .u8 2, .int .u8 2, .int .u8 2, .int .u8 2, .int .u8 2, .int .u8 2, .int .u8 2, .int .u8 2, .int .u8 2, .int .u8 2, .int .u8 2, .int .u8 2, .int .u8 2, .int .u8 2, .int .u8 2, .int .u8 2, .int .u8 2, .int .u8 2, .int .u8 2, .int .u8 2, .int .u8 2, .int .u8 2, .int .u8 2, .int .u8 2, .int .u8 2, .int .u8 19, .int .u8 3, .int .u8 3, .int .u8 3, .int .u8 3, .int .u8 3, .int .u8 3, .int .u8 3, .int .u8 3, .int .u8 3, .int .u8 3, .int .u8 3, .int .u8 3, .int .u8 35, .int .u8 3, .int .u8 3, .int .u8 52, .int .u8 4, .int .u8 4, .int .u8 4, .int .u8 68, .int .u8 241, .int .u8 241, .int .u8 241, .int .u8 241, .int .u8 241, .int .u8 241, .int .u8 241, .int .u8 241, .int .u8 241, .int .u8 241, .int .u8 241]
def g_3 : List Av := [.int .u8 128, .int .u8 191, .int .u8 160, .int .u8 191, .int .u8 128, .int .u8 159, .int .u8 144, .int .u8 191, .int .u8 128, .int .u8 143, .int .u8 0, .int .u8 0, .int .u8 0, .int .u8 0, .int .u8 0, .int .u8 0, .int .u8 0, .int .u8 0, .int .u8 0, .int .u8 0, .int .u8 0, .int .u8 0, .int .u8 0, .int .u8 0, .int .u8 0, .int .u8 0, .int .u8 0, .int .u8 0, .int .u8 0, .int .u8 0, .int .u8 0, .int .u8 0]
def g_4 : List Av := [.str [98, 111, 111, 107], .str [112, 97, 114, 116], .str [115, 101, 99, 116, 105, 111, 110], .str [112, 97, 114, 97, 103, 114, 97, 112, 104], .str [116, 97, 98, 108, 101], .str [114, 111, 119], .str [99, 101, 108, 108], .str [110, 111, 116, 101]]
end Go.Am

namespace Go.Am
set_option maxRecDepth 100000
def r_pandectlaw38_OrdersetLimit : List ResA := [.t 8]
def c_pandectlaw38_OrdersetLimit : AC := (.seq (some [2, 3, 4, 5]) (.reg none [
    ⟨(some 4), .box 8 (.t 0), [], none, []⟩
    , ⟨(some 5), .box 7 (.t 1), [], none, []⟩
    , ⟨(some 8), .mov (.c (.bool false)), [], none, []⟩])
  (.seq (some [2, 3, 4, 5]) (.seq (some [2, 3, 4, 5, 14]) (.reg none [
    ⟨(some 13), .call n_pandectlaw38_awake [], [], none, []⟩
    , ⟨(some 14), .un .not (.t 13), [], none, []⟩])
  (.cond (.t 14)
    (.seq (some [8]) (.reg none [
      ⟨(some 8), .mov (.c (.bool false)), [], none, []⟩])
    .ret)
    .skip))
  (.seq (some [2, 3, 4, 5]) (.seq (some [2, 3, 4, 5, 32]) (.reg none [
    ⟨(some 15), .ld (some 8) (.t 4), [], none, []⟩
    , ⟨(some 16), .ld (some 7) (.t 5), [], none, []⟩
    , ⟨(some 17), .lit 7 [(.int .i64 0), (.str []), (.int .i64 0), (.int .i64 0), (.int .i64 0), (.str []), (.sl [] .nil)] 1 [(0, (.t 16))], [], none, []⟩
    , ⟨(some 18), .call n_pandectref38_Few [(.t 15), (.t 17), (.c (.int .i64 1))], [], none, []⟩
    , ⟨(some 19), .un .not (.t 18), [], none, []⟩
    , ⟨(some 20), .mov (.t 19), [], none, []⟩
    , ⟨(some 21), .mov (.t 2), [], some (20, false), []⟩
    , ⟨(some 22), .bin .lss (.t 21) (.c (.int .i64 6)), [], some (20, false), []⟩
    , ⟨(some 23), .pick (.t 20) (.c (.bool true)) (.t 22), [], none, []⟩
    , ⟨(some 24), .mov (.t 23), [], none, []⟩
    , ⟨(some 25), .mov (.t 2), [], some (24, false), []⟩
    , ⟨(some 26), .bin .gtr (.t 25) (.c (.int .i64 40)), [], some (24, false), []⟩
    , ⟨(some 27), .pick (.t 24) (.c (.bool true)) (.t 26), [], none, []⟩
    , ⟨(some 28), .mov (.t 27), [], none, []⟩
    , ⟨(some 29), .mov (.t 3), [], some (28, false), []⟩
    , ⟨(some 30), .len (.t 29), [(.sl, (.t 29))], some (28, false), []⟩
    , ⟨(some 31), .bin .gtr (.t 30) (.c (.int .i64 20)), [], some (28, false), []⟩
    , ⟨(some 32), .pick (.t 28) (.c (.bool true)) (.t 31), [], none, []⟩])
  (.cond (.t 32)
    (.seq (some [8]) (.reg none [
      ⟨(some 8), .mov (.c (.bool true)), [], none, []⟩])
    .ret)
    .skip))
  (.seq (some [2, 3, 4, 5, 9]) (.reg none [
    ⟨(some 9), .mov (.c (.sl [] .nil)), [], none, []⟩])
  (.seq (some [2, 3, 4, 9]) (.seq (some [2, 3, 4, 5, 9, 10]) (.reg none [
    ⟨(some 10), .mov (.c (.int .i64 0)), [], none, []⟩])
  (.block 0
    (.loop (some [2, 3, 4, 5, 9, 10])
      (.seq (some [2, 3, 4, 5, 9, 10]) (.seq (some [2, 3, 4, 5, 9, 10, 35]) (.reg none [
        ⟨(some 33), .mov (.t 10), [], none, []⟩
        , ⟨(some 34), .mov (.t 2), [], none, []⟩
        , ⟨(some 35), .bin .lss (.t 33) (.t 34), [], none, []⟩])
      (.cond (.t 35)
        .skip
        (.exit 0)))
      (.seq (some [2, 3, 4, 5, 9, 10]) (.block 1
        (.reg none [
          ⟨(some 38), .mov (.t 9), [], none, []⟩
          , ⟨(some 39), .ld (some 7) (.t 5), [], none, []⟩
          , ⟨(some 40), .lit 7 [(.int .i64 0), (.str []), (.int .i64 0), (.int .i64 0), (.int .i64 0), (.str []), (.sl [] .nil)] 1 [(0, (.t 39))], [], none, []⟩
          , ⟨(some 41), .app 7 88 (.t 38) (.t 40), [], none, []⟩
          , ⟨(some 9), .mov (.t 41), [], none, []⟩]))
      (.reg none [
        ⟨(some 36), .mov (.t 10), [], none, []⟩
        , ⟨(some 37), .bin .add (.t 36) (.c (.int .i64 1)), [], none, []⟩
        , ⟨(some 10), .mov (.t 37), [], none, []⟩]))))))
  (.seq (some [2, 3, 4, 9, 11, 12]) (.reg none [
    ⟨(some 43), .ld (some 8) (.t 4), [], none, []⟩
    , ⟨(some 44), .mov (.t 9), [], none, []⟩
    , ⟨(some 45), .call n_orderset_Minimum [(.t 43), (.t 44)], [], none, []⟩
    , ⟨(some 42), .mov (.t 45), [], none, []⟩
    , ⟨(some 46), .ext (.t 42) 0, [], none, []⟩
    , ⟨(some 47), .ext (.t 42) 1, [], none, []⟩
    , ⟨(some 11), .mov (.t 46), [], none, []⟩
    , ⟨(some 12), .mov (.t 47), [], none, []⟩])
  (.seq (some [8]) (.reg none [
    ⟨(some 48), .mov (.t 11), [], none, []⟩
    , ⟨(some 49), .len (.t 48), [(.sl, (.t 48))], none, []⟩
    , ⟨(some 50), .bin .eql (.t 49) (.c (.int .i64 0)), [], none, []⟩
    , ⟨(some 51), .mov (.t 50), [], none, []⟩
    , ⟨(some 52), .mov (.t 12), [], some (51, true), []⟩
    , ⟨(some 53), .bin .eql (.t 52) (.c (.int .i64 6)), [], some (51, true), []⟩
    , ⟨(some 54), .pick (.t 51) (.t 53) (.c (.bool false)), [], none, []⟩
    , ⟨(some 55), .mov (.t 54), [], none, []⟩
    , ⟨(some 56), .ld (some 8) (.t 4), [], some (55, true), []⟩
    , ⟨(some 57), .mov (.t 3), [], some (55, true), []⟩
    , ⟨(some 58), .mov (.t 9), [], some (55, true), []⟩
    , ⟨(some 59), .call n_orderset_Sufficient [(.t 56), (.t 57), (.t 58)], [], some (55, true), []⟩
    , ⟨(some 60), .un .not (.t 59), [], some (55, true), []⟩
    , ⟨(some 61), .pick (.t 55) (.t 60) (.c (.bool false)), [], none, []⟩
    , ⟨(some 62), .mov (.t 61), [], none, []⟩
    , ⟨(some 63), .ld (some 8) (.t 4), [], some (62, true), []⟩
    , ⟨(some 64), .mov (.t 9), [], some (62, true), []⟩
    , ⟨(some 65), .call n_orderset_CountOutcomes [(.t 63), (.t 64)], [], some (62, true), []⟩
    , ⟨(some 66), .bin .eql (.t 65) (.c (.int .i64 0)), [], some (62, true), []⟩
    , ⟨(some 67), .pick (.t 62) (.t 66) (.c (.bool false)), [], none, []⟩
    , ⟨(some 68), .mov (.t 67), [], none, []⟩
    , ⟨(some 69), .mov (.t 2), [], some (68, true), []⟩
    , ⟨(some 70), .mov (.t 3), [], some (68, true), []⟩
    , ⟨(some 71), .mov (.t 2), [], some (68, true), []⟩
    , ⟨(some 72), .call n_pandectref38_Given [(.t 71)], [], some (68, true), []⟩
    , ⟨(some 73), .call n_orderset_Orders [(.t 69), (.t 70), (.t 72)], [], some (68, true), []⟩
    , ⟨(some 74), .len (.t 73), [(.sl, (.t 73))], some (68, true), []⟩
    , ⟨(some 75), .bin .eql (.t 74) (.c (.int .i64 0)), [], some (68, true), []⟩
    , ⟨(some 76), .pick (.t 68) (.t 75) (.c (.bool false)), [], none, []⟩
    , ⟨(some 8), .mov (.t 76), [], none, []⟩])
  .ret)))))))

def r_pandectlaw38_awake : List ResA := [.t 0]
def c_pandectlaw38_awake : AC := (.seq (some []) (.reg none [
    ⟨(some 0), .mov (.c (.bool false)), [], none, []⟩])
  (.seq (some [1]) (.reg none [
    ⟨(some 4), .build [(.int .i64 0), (.int .i64 0), (.int .i64 0)] [(0, 1, (.c (.int .i64 1))), (2, 1, (.c (.int .i64 1)))], [], none, []⟩
    , ⟨(some 5), .build [(.int .i64 0), (.int .i64 0), (.int .i64 0), (.int .i64 0), (.str []), (.sl [] .nil), (.sl [] .nil), (.sl [] .nil)] [(3, 1, (.c (.int .i64 2))), (4, 1, (.c (.str [49]))), (0, 3, (.t 4))], [], none, []⟩
    , ⟨(some 6), .build [(.int .i64 0), (.int .i64 0), (.int .i64 0)] [(0, 1, (.c (.int .i64 1))), (2, 1, (.c (.int .i64 2)))], [], none, []⟩
    , ⟨(some 7), .build [(.int .i64 0), (.int .i64 0), (.int .i64 0), (.int .i64 0), (.str []), (.sl [] .nil), (.sl [] .nil), (.sl [] .nil)] [(3, 1, (.c (.int .i64 2))), (4, 1, (.c (.str [50]))), (0, 3, (.t 6))], [], none, []⟩
    , ⟨(some 8), .lit 8 [(.int .i64 0), (.int .i64 0), (.int .i64 0), (.int .i64 0), (.str []), (.sl [] .nil), (.sl [] .nil), (.sl [] .nil)] 2 [(0, (.t 5)), (1, (.t 7))], [], none, []⟩
    , ⟨(some 9), .build [(.int .i64 0), (.int .i64 0), (.int .i64 0), (.int .i64 0), (.str []), (.sl [] .nil), (.sl [] .nil), (.sl [] .nil)] [(7, 1, (.t 8))], [], none, []⟩
    , ⟨(some 1), .alloc [(.int .i64 0), (.int .i64 0), (.int .i64 0), (.int .i64 0), (.str []), (.sl [] .nil), (.sl [] .nil), (.sl [] .nil)], [], none, []⟩
    , ⟨none, .st 8 (.t 1) (.t 9), [], none, []⟩])
  (.seq (some [1, 2, 3]) (.reg (some [[], [], [1], [2], [1, 2, 3], [0, 4, 3], [5], [6], [6], [7, 5, 0, 1, 2, 3, 4, 5, 6, 7], [8, 9, 0, 1, 2, 3, 4, 5, 6, 7, 8, 9]]) [
    ⟨(some 11), .ld (some 8) (.t 1), [], none, []⟩
    , ⟨(some 12), .call n_pandectlaw38_head [(.c (.int .i64 2)), (.c (.str [49]))], [], none, []⟩
    , ⟨(some 13), .call n_pandectlaw38_head [(.c (.int .i64 3)), (.c (.str [49]))], [], none, []⟩
    , ⟨(some 14), .call n_pandectlaw38_head [(.c (.int .i64 4)), (.c (.str [50]))], [], none, []⟩
    , ⟨(some 15), .lit 7 [(.int .i64 0), (.str []), (.int .i64 0), (.int .i64 0), (.int .i64 0), (.str []), (.sl [] .nil)] 3 [(0, (.t 12)), (1, (.t 13)), (2, (.t 14))], [], none, []⟩
    , ⟨(some 16), .call n_orderset_Minimum [(.t 11), (.t 15)], [], none, []⟩
    , ⟨(some 10), .mov (.t 16), [], none, []⟩
    , ⟨(some 17), .ext (.t 10) 0, [], none, []⟩
    , ⟨(some 18), .ext (.t 10) 1, [], none, []⟩
    , ⟨(some 2), .mov (.t 17), [], none, []⟩
    , ⟨(some 3), .mov (.t 18), [], none, []⟩])
  (.seq (some [0]) (.reg (some [[], [0], [1], [2], [2], [3, 4, 2, 2], [2, 5], [6, 5], [7], [7, 7], [9, 7], [10, 7], [9, 10, 11, 7], [8, 12, 11, 7], [13, 7], [7, 14], [15, 13], [16], [16], [17, 18, 16, 16], [16], [20, 16], [19, 21, 19, 16], [16, 22], [23, 22, 0, 1, 2, 3, 4, 5, 6, 7, 8, 9, 10, 11, 12, 13, 14, 15, 16, 17, 18, 19, 20, 21, 22, 23]]) [
    ⟨(some 19), .mov (.t 3), [], none, []⟩
    , ⟨(some 20), .bin .eql (.t 19) (.c (.int .i64 0)), [], none, []⟩
    , ⟨(some 21), .mov (.t 20), [], none, []⟩
    , ⟨(some 22), .mov (.t 2), [], some (21, true), []⟩
    , ⟨(some 23), .lit 1 [(.int .i64 0)] 1 [(0, (.c (.int .i64 0)))], [], some (21, true), []⟩
    , ⟨(some 24), .call n_pandectref38_Ints [(.t 22), (.t 23)], [], some (21, true), []⟩
    , ⟨(some 25), .pick (.t 21) (.t 24) (.c (.bool false)), [], none, []⟩
    , ⟨(some 26), .mov (.t 25), [], none, []⟩
    , ⟨(some 27), .ld (some 8) (.t 1), [], some (26, true), []⟩
    , ⟨(some 28), .call n_pandectlaw38_head [(.c (.int .i64 2)), (.c (.str [49]))], [], some (26, true), []⟩
    , ⟨(some 29), .call n_pandectlaw38_head [(.c (.int .i64 3)), (.c (.str [49]))], [], some (26, true), []⟩
    , ⟨(some 30), .call n_pandectlaw38_head [(.c (.int .i64 4)), (.c (.str [50]))], [], some (26, true), []⟩
    , ⟨(some 31), .lit 7 [(.int .i64 0), (.str []), (.int .i64 0), (.int .i64 0), (.int .i64 0), (.str []), (.sl [] .nil)] 3 [(0, (.t 28)), (1, (.t 29)), (2, (.t 30))], [], some (26, true), []⟩
    , ⟨(some 32), .call n_orderset_CountOutcomes [(.t 27), (.t 31)], [], some (26, true), []⟩
    , ⟨(some 33), .bin .eql (.t 32) (.c (.int .i64 2)), [], some (26, true), []⟩
    , ⟨(some 34), .pick (.t 26) (.t 33) (.c (.bool false)), [], none, []⟩
    , ⟨(some 35), .mov (.t 34), [], none, []⟩
    , ⟨(some 36), .lit 1 [(.int .i64 0)] 1 [(0, (.c (.int .i64 0)))], [], some (35, true), []⟩
    , ⟨(some 37), .lit 1 [(.int .i64 0)] 3 [(0, (.c (.int .i64 1))), (1, (.c (.int .i64 0))), (2, (.c (.int .i64 2)))], [], some (35, true), []⟩
    , ⟨(some 38), .call n_orderset_Orders [(.c (.int .i64 3)), (.t 36), (.t 37)], [], some (35, true), []⟩
    , ⟨(some 39), .lit 1 [(.int .i64 0)] 3 [(0, (.c (.int .i64 1))), (1, (.c (.int .i64 0))), (2, (.c (.int .i64 2)))], [], some (35, true), []⟩
    , ⟨(some 40), .lit 1 [(.sl [] .nil)] 1 [(0, (.t 39))], [], some (35, true), []⟩
    , ⟨(some 41), .call n_pandectref38_Lists [(.t 38), (.t 40)], [], some (35, true), []⟩
    , ⟨(some 42), .pick (.t 35) (.t 41) (.c (.bool false)), [], none, []⟩
    , ⟨(some 0), .mov (.t 42), [], none, []⟩])
  .ret))))

def r_pandectref38_Few : List ResA := [.t 6]
def c_pandectref38_Few : AC := (.seq (some [1, 2, 3]) (.reg none [
    ⟨(some 3), .box 8 (.t 0), [], none, []⟩
    , ⟨(some 6), .mov (.c (.bool false)), [], none, []⟩])
  (.seq (some [1]) (.seq (some [1, 21]) (.reg none [
    ⟨(some 8), .ld (some 8) (.t 3), [], none, []⟩
    , ⟨(some 9), .call n_pandectref26_Few [(.t 8), (.c (.sl [] .nil)), (.c (.int .i64 0))], [], none, []⟩
    , ⟨(some 10), .un .not (.t 9), [], none, []⟩
    , ⟨(some 11), .mov (.t 10), [], none, []⟩
    , ⟨(some 12), .ld (some 8) (.t 3), [], some (11, false), []⟩
    , ⟨(some 13), .call n_pandectref26_Book [(.t 12)], [], some (11, false), []⟩
    , ⟨(some 14), .un .not (.t 13), [], some (11, false), []⟩
    , ⟨(some 15), .pick (.t 11) (.c (.bool true)) (.t 14), [], none, []⟩
    , ⟨(some 16), .mov (.t 15), [], none, []⟩
    , ⟨(some 17), .mov (.t 1), [], some (16, false), []⟩
    , ⟨(some 18), .len (.t 17), [(.sl, (.t 17))], some (16, false), []⟩
    , ⟨(some 19), .mov (.t 2), [], some (16, false), []⟩
    , ⟨(some 20), .bin .gtr (.t 18) (.t 19), [], some (16, false), []⟩
    , ⟨(some 21), .pick (.t 16) (.c (.bool true)) (.t 20), [], none, []⟩])
  (.cond (.t 21)
    (.seq (some [6]) (.reg none [
      ⟨(some 6), .mov (.c (.bool false)), [], none, []⟩])
    .ret)
    .skip))
  (.seq (some []) (.seq (some [1, 7]) (.reg none [
    ⟨(some 7), .mov (.c (.int .i64 0)), [], none, []⟩])
  (.block 0
    (.loop (some [1, 7])
      (.seq (some [1, 7]) (.seq (some [1, 7, 25]) (.reg none [
        ⟨(some 22), .mov (.t 7), [], none, []⟩
        , ⟨(some 23), .mov (.t 1), [], none, []⟩
        , ⟨(some 24), .len (.t 23), [(.sl, (.t 23))], none, []⟩
        , ⟨(some 25), .bin .lss (.t 22) (.t 24), [], none, []⟩])
      (.cond (.t 25)
        .skip
        (.exit 0)))
      (.seq (some [1, 7]) (.block 1
        (.seq (some [1, 7, 42]) (.reg none [
          ⟨(some 28), .mov (.t 1), [], none, []⟩
          , ⟨(some 29), .mov (.t 7), [], none, []⟩
          , ⟨(some 30), .ixs 7 (.t 28) (.t 29), [], none, []⟩
          , ⟨(some 31), .ld (some 7) (.t 30), [], none, []⟩
          , ⟨(some 32), .call n_pandectref18_Few [(.t 31)], [], none, []⟩
          , ⟨(some 33), .un .not (.t 32), [], none, []⟩
          , ⟨(some 34), .mov (.t 33), [], none, []⟩
          , ⟨(some 35), .mov (.t 1), [], some (34, false), []⟩
          , ⟨(some 36), .mov (.t 7), [], some (34, false), []⟩
          , ⟨(some 37), .ixs 7 (.t 35) (.t 36), [], some (34, false), []⟩
          , ⟨(some 38), .fad 6 (.t 37), [], some (34, false), []⟩
          , ⟨(some 39), .ld none (.t 38), [], some (34, false), []⟩
          , ⟨(some 40), .len (.t 39), [(.sl, (.t 39))], some (34, false), []⟩
          , ⟨(some 41), .bin .gtr (.t 40) (.c (.int .i64 3)), [], some (34, false), []⟩
          , ⟨(some 42), .pick (.t 34) (.c (.bool true)) (.t 41), [], none, []⟩])
        (.cond (.t 42)
          (.seq (some [6]) (.reg none [
            ⟨(some 6), .mov (.c (.bool false)), [], none, []⟩])
          .ret)
          .skip)))
      (.reg none [
        ⟨(some 26), .mov (.t 7), [], none, []⟩
        , ⟨(some 27), .bin .add (.t 26) (.c (.int .i64 1)), [], none, []⟩
        , ⟨(some 7), .mov (.t 27), [], none, []⟩]))))))
  (.seq (some [6]) (.reg none [
    ⟨(some 6), .mov (.c (.bool true)), [], none, []⟩])
  .ret))))

def r_enact_ApplyAct : List ResA := [.c (some 8) 4, .t 5]
def c_enact_ApplyAct : AC := (.seq (some [2, 3, 4]) (.reg none [
    ⟨(some 2), .box 8 (.t 0), [], none, []⟩
    , ⟨(some 3), .box 7 (.t 1), [], none, []⟩
    , ⟨(some 4), .alloc [(.int .i64 0), (.int .i64 0), (.int .i64 0), (.int .i64 0), (.str []), (.sl [] .nil), (.sl [] .nil), (.sl [] .nil)], [], none, []⟩
    , ⟨(some 5), .mov (.c (.sl [] .nil)), [], none, []⟩])
  (.seq (some [2, 3, 4, 6]) (.reg none [
    ⟨(some 6), .mov (.c (.sl [] .nil)), [], none, []⟩])
  (.seq (some [2, 4, 6]) (.seq (some [2, 3, 4, 6, 10, 11, 12]) (.reg none [
    ⟨(some 9), .fad 6 (.t 3), [], none, []⟩
    , ⟨(some 10), .ld none (.t 9), [], none, []⟩
    , ⟨(some 11), .len (.t 10), [(.sl, (.t 10))], none, []⟩
    , ⟨(some 12), .mov (.c (.int .i64 0)), [], none, []⟩])
  (.block 0
    (.loop (some [2, 3, 4, 6, 10, 11, 12])
      (.seq (some [2, 3, 4, 6, 10, 11, 12, 13]) (.reg none [
        ⟨(some 13), .bin .lss (.t 12) (.t 11), [], none, []⟩])
      (.seq (some [2, 3, 4, 6, 10, 11, 12]) (.cond (.t 13)
        .skip
        (.exit 0))
      (.seq (some [2, 3, 4, 6, 10, 11, 12]) (.block 1
        (.seq (some [2, 3, 4, 6, 7, 8, 10, 11, 12]) (.reg none [
          ⟨(some 14), .mov (.t 12), [], none, []⟩
          , ⟨(some 15), .ixs 25 (.t 10) (.t 12), [], none, []⟩
          , ⟨(some 16), .ld (some 25) (.t 15), [], none, []⟩
          , ⟨(some 8), .alloc [(.int .i64 0), (.sl [] .nil), (.sl [] .nil), (.int .i64 0), (.int .i64 0), (.int .i64 0), (.int .i64 0), (.int .i64 0), (.int .i64 0), (.str []), (.sl [] .nil), (.sl [] .nil), (.sl [] .nil), (.sl [] .nil), (.sl [] .nil), (.str []), (.str []), (.int .i64 0), (.int .i64 0), (.str []), (.int .i64 0), (.int .i64 0), (.int .i64 0), (.str []), (.sl [] .nil)], [], none, []⟩
          , ⟨(some 7), .mov (.t 14), [], none, []⟩
          , ⟨none, .st 25 (.t 8) (.t 16), [], none, []⟩])
        (.reg none [
          ⟨(some 17), .mov (.t 6), [], none, []⟩
          , ⟨(some 18), .fad 0 (.t 3), [], none, []⟩
          , ⟨(some 19), .ld none (.t 18), [], none, []⟩
          , ⟨(some 20), .mov (.t 7), [], none, []⟩
          , ⟨(some 21), .fad 2 (.t 3), [], none, []⟩
          , ⟨(some 22), .ld none (.t 21), [], none, []⟩
          , ⟨(some 23), .ld (some 25) (.t 8), [], none, []⟩
          , ⟨(some 24), .build [(.int .i64 0), (.int .i64 0), (.int .i64 0), (.int .i64 0), (.sl [] .nil), (.sl [] .nil), (.int .i64 0), (.int .i64 0), (.int .i64 0), (.int .i64 0), (.int .i64 0), (.int .i64 0), (.str []), (.sl [] .nil), (.sl [] .nil), (.sl [] .nil), (.sl [] .nil), (.sl [] .nil), (.str []), (.str []), (.int .i64 0), (.int .i64 0), (.str []), (.int .i64 0), (.int .i64 0), (.int .i64 0), (.str []), (.sl [] .nil)] [(0, 1, (.t 19)), (1, 1, (.t 20)), (2, 1, (.t 22)), (3, 25, (.t 23))], [], none, []⟩
          , ⟨(some 25), .lit 28 [(.int .i64 0), (.int .i64 0), (.int .i64 0), (.int .i64 0), (.sl [] .nil), (.sl [] .nil), (.int .i64 0), (.int .i64 0), (.int .i64 0), (.int .i64 0), (.int .i64 0), (.int .i64 0), (.str []), (.sl [] .nil), (.sl [] .nil), (.sl [] .nil), (.sl [] .nil), (.sl [] .nil), (.str []), (.str []), (.int .i64 0), (.int .i64 0), (.str []), (.int .i64 0), (.int .i64 0), (.int .i64 0), (.str []), (.sl [] .nil)] 1 [(0, (.t 24))], [], none, []⟩
          , ⟨(some 26), .app 28 392 (.t 17) (.t 25), [], none, []⟩
          , ⟨(some 6), .mov (.t 26), [], none, []⟩])))
      (.reg none [
        ⟨(some 27), .bin .add (.t 12) (.c (.int .i64 1)), [], none, []⟩
        , ⟨(some 12), .mov (.t 27), [], none, []⟩])))))))
  (.seq (some [4, 5]) (.reg none [
    ⟨(some 28), .ld (some 8) (.t 2), [], none, []⟩
    , ⟨(some 29), .mov (.t 6), [], none, []⟩
    , ⟨(some 30), .call n_enact_ApplyAll [(.t 28), (.t 29)], [], none, []⟩
    , ⟨(some 31), .ext (.t 30) 0, [], none, []⟩
    , ⟨(some 32), .ext (.t 30) 1, [], none, []⟩
    , ⟨none, .st 8 (.t 4) (.t 31), [], none, []⟩
    , ⟨(some 5), .mov (.t 32), [], none, []⟩])
  .ret))))

def r_orderset_Minimum : List ResA := [.t 4, .t 5]
def c_orderset_Minimum : AC := (.seq (some [1, 2]) (.reg none [
    ⟨(some 2), .box 8 (.t 0), [], none, []⟩
    , ⟨(some 4), .mov (.c (.sl [] .nil)), [], none, []⟩
    , ⟨(some 5), .mov (.c (.int .i64 0)), [], none, []⟩])
  (.seq (some [1, 2]) (.seq (some [1, 2, 16]) (.reg none [
    ⟨(some 14), .mov (.t 1), [], none, []⟩
    , ⟨(some 15), .len (.t 14), [(.sl, (.t 14))], none, []⟩
    , ⟨(some 16), .bin .gtr (.t 15) (.c (.int .i64 5)), [], none, []⟩])
  (.cond (.t 16)
    (.seq (some [4, 5]) (.reg none [
      ⟨(some 4), .mov (.c (.sl [] .nil)), [], none, []⟩
      , ⟨(some 5), .mov (.c (.int .i64 6)), [], none, []⟩])
    .ret)
    .skip))
  (.seq (some [1, 6, 7]) (.reg none [
    ⟨(some 18), .ld (some 8) (.t 2), [], none, []⟩
    , ⟨(some 19), .mov (.t 1), [], none, []⟩
    , ⟨(some 20), .call n_orderset_rows [(.t 18), (.t 19)], [], none, []⟩
    , ⟨(some 17), .mov (.t 20), [], none, []⟩
    , ⟨(some 21), .ext (.t 17) 0, [], none, []⟩
    , ⟨(some 22), .ext (.t 17) 1, [], none, []⟩
    , ⟨(some 6), .mov (.t 21), [], none, []⟩
    , ⟨(some 7), .mov (.t 22), [], none, []⟩])
  (.seq (some [1, 6, 7, 8]) (.reg none [
    ⟨(some 8), .mov (.c (.sl [] .nil)), [], none, []⟩])
  (.seq (some [1, 6, 7, 8, 9]) (.reg none [
    ⟨(some 9), .mov (.c (.bool false)), [], none, []⟩])
  (.seq (some [8]) (.seq (some [1, 6, 7, 8, 9, 25, 26]) (.reg none [
    ⟨(some 23), .mov (.t 1), [], none, []⟩
    , ⟨(some 24), .len (.t 23), [(.sl, (.t 23))], none, []⟩
    , ⟨(some 25), .bin .shl (.c (.int .i64 1)) (.t 24), [], none, []⟩
    , ⟨(some 26), .mov (.c (.int .i64 0)), [], none, []⟩])
  (.block 0
    (.loop (some [1, 6, 7, 8, 9, 25, 26])
      (.seq (some [1, 6, 7, 8, 9, 25, 26, 27]) (.reg none [
        ⟨(some 27), .bin .lss (.t 26) (.t 25), [], none, []⟩])
      (.seq (some [1, 6, 7, 8, 9, 25, 26]) (.cond (.t 27)
        .skip
        (.exit 0))
      (.seq (some [1, 6, 7, 8, 9, 25, 26]) (.block 1
        (.seq (some [1, 6, 7, 8, 9, 10, 25, 26]) (.reg none [
          ⟨(some 28), .mov (.t 26), [], none, []⟩
          , ⟨(some 10), .mov (.t 28), [], none, []⟩])
        (.seq (some [1, 6, 7, 8, 9, 10, 11, 25, 26]) (.reg none [
          ⟨(some 11), .mov (.c (.sl [] .nil)), [], none, []⟩])
        (.seq (some [1, 6, 7, 8, 9, 11, 25, 26]) (.seq (some [1, 6, 7, 8, 9, 10, 11, 25, 26, 30, 31]) (.reg none [
          ⟨(some 29), .mov (.t 1), [], none, []⟩
          , ⟨(some 30), .len (.t 29), [(.sl, (.t 29))], none, []⟩
          , ⟨(some 31), .mov (.c (.int .i64 0)), [], none, []⟩])
        (.block 2
          (.loop (some [1, 6, 7, 8, 9, 10, 11, 25, 26, 30, 31])
            (.seq (some [1, 6, 7, 8, 9, 10, 11, 25, 26, 30, 31, 32]) (.reg none [
              ⟨(some 32), .bin .lss (.t 31) (.t 30), [], none, []⟩])
            (.seq (some [1, 6, 7, 8, 9, 10, 11, 25, 26, 30, 31]) (.cond (.t 32)
              .skip
              (.exit 2))
            (.seq (some [1, 6, 7, 8, 9, 10, 11, 25, 26, 30, 31]) (.block 3
              (.seq (some [1, 6, 7, 8, 9, 10, 11, 12, 25, 26, 30, 31]) (.reg none [
                ⟨(some 33), .mov (.t 31), [], none, []⟩
                , ⟨(some 12), .mov (.t 33), [], none, []⟩])
              (.seq (some [1, 6, 7, 8, 9, 10, 11, 12, 25, 26, 30, 31, 38]) (.reg none [
                ⟨(some 34), .mov (.t 10), [], none, []⟩
                , ⟨(some 35), .mov (.t 12), [], none, []⟩
                , ⟨(some 36), .bin .shr (.t 34) (.t 35), [], none, []⟩
                , ⟨(some 37), .bin .and (.t 36) (.c (.int .i64 1)), [], none, []⟩
                , ⟨(some 38), .bin .eql (.t 37) (.c (.int .i64 1)), [], none, []⟩])
              (.cond (.t 38)
                (.reg none [
                  ⟨(some 39), .mov (.t 11), [], none, []⟩
                  , ⟨(some 40), .mov (.t 12), [], none, []⟩
                  , ⟨(some 41), .lit 1 [(.int .i64 0)] 1 [(0, (.t 40))], [], none, []⟩
                  , ⟨(some 42), .app 1 8 (.t 39) (.t 41), [], none, []⟩
                  , ⟨(some 11), .mov (.t 42), [], none, []⟩])
                .skip))))
            (.reg none [
              ⟨(some 43), .bin .add (.t 31) (.c (.int .i64 1)), [], none, []⟩
              , ⟨(some 31), .mov (.t 43), [], none, []⟩])))))))
        (.seq (some [1, 6, 7, 8, 9, 11, 13, 25, 26]) (.reg none [
          ⟨(some 44), .mov (.t 9), [], none, []⟩
          , ⟨(some 45), .un .not (.t 44), [], none, []⟩
          , ⟨(some 46), .mov (.t 45), [], none, []⟩
          , ⟨(some 47), .mov (.t 11), [], some (46, false), []⟩
          , ⟨(some 48), .len (.t 47), [(.sl, (.t 47))], some (46, false), []⟩
          , ⟨(some 49), .mov (.t 8), [], some (46, false), []⟩
          , ⟨(some 50), .len (.t 49), [(.sl, (.t 49))], some (46, false), []⟩
          , ⟨(some 51), .bin .lss (.t 48) (.t 50), [], some (46, false), []⟩
          , ⟨(some 52), .pick (.t 46) (.c (.bool true)) (.t 51), [], none, []⟩
          , ⟨(some 53), .mov (.t 52), [], none, []⟩
          , ⟨(some 54), .mov (.t 11), [], some (53, false), []⟩
          , ⟨(some 55), .len (.t 54), [(.sl, (.t 54))], some (53, false), []⟩
          , ⟨(some 56), .mov (.t 8), [], some (53, false), []⟩
          , ⟨(some 57), .len (.t 56), [(.sl, (.t 56))], some (53, false), []⟩
          , ⟨(some 58), .bin .eql (.t 55) (.t 57), [], some (53, false), []⟩
          , ⟨(some 59), .mov (.t 58), [], some (53, false), []⟩
          , ⟨(some 60), .mov (.t 11), [], some (59, true), []⟩
          , ⟨(some 61), .mov (.t 8), [], some (59, true), []⟩
          , ⟨(some 62), .call n_slices_Compare___int_int_ [(.t 60), (.t 61)], [], some (59, true), []⟩
          , ⟨(some 63), .bin .lss (.t 62) (.c (.int .i64 0)), [], some (59, true), []⟩
          , ⟨(some 64), .pick (.t 59) (.t 63) (.c (.bool false)), [], some (53, false), []⟩
          , ⟨(some 65), .pick (.t 53) (.c (.bool true)) (.t 64), [], none, []⟩
          , ⟨(some 13), .mov (.t 65), [], none, []⟩])
        (.seq (some [1, 6, 7, 8, 9, 11, 25, 26, 73]) (.reg none [
          ⟨(some 66), .mov (.t 13), [], none, []⟩
          , ⟨(some 67), .mov (.t 66), [], none, []⟩
          , ⟨(some 68), .mov (.t 6), [], some (67, true), []⟩
          , ⟨(some 69), .mov (.t 7), [], some (67, true), []⟩
          , ⟨(some 70), .mov (.t 11), [], some (67, true), []⟩
          , ⟨(some 71), .call n_orderset_kept [(.t 70)], [], some (67, true), []⟩
          , ⟨(some 72), .call n_orderset_enough [(.t 68), (.t 69), (.t 71)], [], some (67, true), []⟩
          , ⟨(some 73), .pick (.t 67) (.t 72) (.c (.bool false)), [], none, []⟩])
        (.cond (.t 73)
          (.reg none [
            ⟨(some 74), .mov (.t 11), [], none, []⟩
            , ⟨(some 8), .mov (.t 74), [], none, []⟩
            , ⟨(some 9), .mov (.c (.bool true)), [], none, []⟩])
          .skip)))))))
      (.reg none [
        ⟨(some 75), .bin .add (.t 26) (.c (.int .i64 1)), [], none, []⟩
        , ⟨(some 26), .mov (.t 75), [], none, []⟩])))))))
  (.seq (some [4, 5]) (.reg none [
    ⟨(some 76), .mov (.t 8), [], none, []⟩
    , ⟨(some 4), .mov (.t 76), [], none, []⟩
    , ⟨(some 5), .mov (.c (.int .i64 0)), [], none, []⟩])
  .ret)))))))

def r_orderset_CountOutcomes : List ResA := [.t 4]
def c_orderset_CountOutcomes : AC := (.seq (some [1, 2]) (.reg none [
    ⟨(some 2), .box 8 (.t 0), [], none, []⟩
    , ⟨(some 4), .mov (.c (.int .i64 0)), [], none, []⟩])
  (.seq (some [1, 2]) (.seq (some [1, 2, 12]) (.reg none [
    ⟨(some 10), .mov (.t 1), [], none, []⟩
    , ⟨(some 11), .len (.t 10), [(.sl, (.t 10))], none, []⟩
    , ⟨(some 12), .bin .gtr (.t 11) (.c (.int .i64 5)), [], none, []⟩])
  (.cond (.t 12)
    (.seq (some [4]) (.reg none [
      ⟨(some 4), .mov (.c (.int .i64 0)), [], none, []⟩])
    .ret)
    .skip))
  (.seq (some [6]) (.reg none [
    ⟨(some 14), .ld (some 8) (.t 2), [], none, []⟩
    , ⟨(some 15), .mov (.t 1), [], none, []⟩
    , ⟨(some 16), .call n_orderset_rows [(.t 14), (.t 15)], [], none, []⟩
    , ⟨(some 13), .mov (.t 16), [], none, []⟩
    , ⟨(some 17), .ext (.t 13) 0, [], none, []⟩
    , ⟨(some 18), .ext (.t 13) 1, [], none, []⟩
    , ⟨(some 5), .mov (.t 17), [], none, []⟩
    , ⟨(some 6), .mov (.t 18), [], none, []⟩])
  (.seq (some [6, 7]) (.reg none [
    ⟨(some 7), .mov (.c (.sl [] .nil)), [], none, []⟩])
  (.seq (some [7]) (.seq (some [7, 19, 20, 21]) (.reg none [
    ⟨(some 19), .mov (.t 6), [], none, []⟩
    , ⟨(some 20), .len (.t 19), [(.sl, (.t 19))], none, []⟩
    , ⟨(some 21), .mov (.c (.int .i64 0)), [], none, []⟩])
  (.block 0
    (.loop (some [7, 19, 20, 21])
      (.seq (some [7, 19, 20, 21, 22]) (.reg none [
        ⟨(some 22), .bin .lss (.t 21) (.t 20), [], none, []⟩])
      (.seq (some [7, 19, 20, 21]) (.cond (.t 22)
        .skip
        (.exit 0))
      (.seq (some [7, 19, 20, 21]) (.block 1
        (.seq (some [7, 9, 19, 20, 21]) (.reg none [
          ⟨(some 23), .ixs 8 (.t 19) (.t 21), [], none, []⟩
          , ⟨(some 24), .ld (some 8) (.t 23), [], none, []⟩
          , ⟨(some 9), .alloc [(.int .i64 0), (.int .i64 0), (.int .i64 0), (.int .i64 0), (.str []), (.sl [] .nil), (.sl [] .nil), (.sl [] .nil)], [], none, []⟩
          , ⟨none, .st 8 (.t 9) (.t 24), [], none, []⟩])
        (.seq (some [7, 9, 19, 20, 21, 28]) (.reg none [
          ⟨(some 25), .mov (.t 7), [], none, []⟩
          , ⟨(some 26), .fnc n_orderset_CountOutcomes_1 [(.t 9)], [], none, []⟩
          , ⟨(some 27), .call n_api_Unit_ [(.t 25), (.t 26)], [], none, []⟩
          , ⟨(some 28), .un .not (.t 27), [], none, []⟩])
        (.cond (.t 28)
          (.reg none [
            ⟨(some 29), .mov (.t 7), [], none, []⟩
            , ⟨(some 30), .ld (some 8) (.t 9), [], none, []⟩
            , ⟨(some 31), .lit 8 [(.int .i64 0), (.int .i64 0), (.int .i64 0), (.int .i64 0), (.str []), (.sl [] .nil), (.sl [] .nil), (.sl [] .nil)] 1 [(0, (.t 30))], [], none, []⟩
            , ⟨(some 32), .app 8 120 (.t 29) (.t 31), [], none, []⟩
            , ⟨(some 7), .mov (.t 32), [], none, []⟩])
          .skip))))
      (.reg none [
        ⟨(some 33), .bin .add (.t 21) (.c (.int .i64 1)), [], none, []⟩
        , ⟨(some 21), .mov (.t 33), [], none, []⟩])))))))
  (.seq (some [4]) (.reg none [
    ⟨(some 34), .mov (.t 7), [], none, []⟩
    , ⟨(some 35), .len (.t 34), [(.sl, (.t 34))], none, []⟩
    , ⟨(some 4), .mov (.t 35), [], none, []⟩])
  .ret))))))

def r_pandectref38_Ints : List ResA := [.t 4]
def c_pandectref38_Ints : AC := (.seq (some [0, 1]) (.reg none [
    ⟨(some 4), .mov (.c (.bool false)), [], none, []⟩])
  (.seq (some [0, 1]) (.seq (some [0, 1, 10]) (.reg none [
    ⟨(some 6), .mov (.t 0), [], none, []⟩
    , ⟨(some 7), .len (.t 6), [(.sl, (.t 6))], none, []⟩
    , ⟨(some 8), .mov (.t 1), [], none, []⟩
    , ⟨(some 9), .len (.t 8), [(.sl, (.t 8))], none, []⟩
    , ⟨(some 10), .bin .neq (.t 7) (.t 9), [], none, []⟩])
  (.cond (.t 10)
    (.seq (some [4]) (.reg none [
      ⟨(some 4), .mov (.c (.bool false)), [], none, []⟩])
    .ret)
    .skip))
  (.seq (some []) (.seq (some [0, 1, 5]) (.reg none [
    ⟨(some 5), .mov (.c (.int .i64 0)), [], none, []⟩])
  (.block 0
    (.loop (some [0, 1, 5])
      (.seq (some [0, 1, 5]) (.seq (some [0, 1, 5, 14]) (.reg none [
        ⟨(some 11), .mov (.t 5), [], none, []⟩
        , ⟨(some 12), .mov (.t 0), [], none, []⟩
        , ⟨(some 13), .len (.t 12), [(.sl, (.t 12))], none, []⟩
        , ⟨(some 14), .bin .lss (.t 11) (.t 13), [], none, []⟩])
      (.cond (.t 14)
        .skip
        (.exit 0)))
      (.seq (some [0, 1, 5]) (.block 1
        (.seq (some [0, 1, 5, 25]) (.reg (some [[], [], [0, 1], [2], [], [], [4, 5], [6], [3, 7]]) [
          ⟨(some 17), .mov (.t 0), [], none, []⟩
          , ⟨(some 18), .mov (.t 5), [], none, []⟩
          , ⟨(some 19), .ixs 1 (.t 17) (.t 18), [], none, []⟩
          , ⟨(some 20), .ld none (.t 19), [], none, []⟩
          , ⟨(some 21), .mov (.t 1), [], none, []⟩
          , ⟨(some 22), .mov (.t 5), [], none, []⟩
          , ⟨(some 23), .ixs 1 (.t 21) (.t 22), [], none, []⟩
          , ⟨(some 24), .ld none (.t 23), [], none, []⟩
          , ⟨(some 25), .bin .neq (.t 20) (.t 24), [], none, []⟩])
        (.cond (.t 25)
          (.seq (some [4]) (.reg none [
            ⟨(some 4), .mov (.c (.bool false)), [], none, []⟩])
          .ret)
          .skip)))
      (.reg none [
        ⟨(some 15), .mov (.t 5), [], none, []⟩
        , ⟨(some 16), .bin .add (.t 15) (.c (.int .i64 1)), [], none, []⟩
        , ⟨(some 5), .mov (.t 16), [], none, []⟩]))))))
  (.seq (some [4]) (.reg none [
    ⟨(some 4), .mov (.c (.bool true)), [], none, []⟩])
  .ret))))

def r_orderset_Sufficient : List ResA := [.t 6]
def c_orderset_Sufficient : AC := (.seq (some [1, 2, 3]) (.reg none [
    ⟨(some 3), .box 8 (.t 0), [], none, []⟩
    , ⟨(some 6), .mov (.c (.bool false)), [], none, []⟩])
  (.seq (some [1, 2, 3]) (.seq (some [1, 2, 3, 11]) (.reg none [
    ⟨(some 9), .mov (.t 2), [], none, []⟩
    , ⟨(some 10), .len (.t 9), [(.sl, (.t 9))], none, []⟩
    , ⟨(some 11), .bin .gtr (.t 10) (.c (.int .i64 5)), [], none, []⟩])
  (.cond (.t 11)
    (.seq (some [6]) (.reg none [
      ⟨(some 6), .mov (.c (.bool false)), [], none, []⟩])
    .ret)
    .skip))
  (.seq (some [1, 7, 8]) (.reg none [
    ⟨(some 13), .ld (some 8) (.t 3), [], none, []⟩
    , ⟨(some 14), .mov (.t 2), [], none, []⟩
    , ⟨(some 15), .call n_orderset_rows [(.t 13), (.t 14)], [], none, []⟩
    , ⟨(some 12), .mov (.t 15), [], none, []⟩
    , ⟨(some 16), .ext (.t 12) 0, [], none, []⟩
    , ⟨(some 17), .ext (.t 12) 1, [], none, []⟩
    , ⟨(some 7), .mov (.t 16), [], none, []⟩
    , ⟨(some 8), .mov (.t 17), [], none, []⟩])
  (.seq (some [6]) (.reg none [
    ⟨(some 18), .mov (.t 7), [], none, []⟩
    , ⟨(some 19), .mov (.t 8), [], none, []⟩
    , ⟨(some 20), .mov (.t 1), [], none, []⟩
    , ⟨(some 21), .call n_orderset_kept [(.t 20)], [], none, []⟩
    , ⟨(some 22), .call n_orderset_enough [(.t 18), (.t 19), (.t 21)], [], none, []⟩
    , ⟨(some 6), .mov (.t 22), [], none, []⟩])
  .ret))))

def r_pandectref38_Given : List ResA := [.t 2]
def c_pandectref38_Given : AC := (.seq (some [0]) (.reg none [
    ⟨(some 2), .mov (.c (.sl [] .nil)), [], none, []⟩])
  (.seq (some [0, 3]) (.reg none [
    ⟨(some 5), .lit 1 [(.int .i64 0)] 0 [], [], none, []⟩
    , ⟨(some 3), .mov (.t 5), [], none, []⟩])
  (.seq (some [3]) (.seq (some [0, 3, 4]) (.reg none [
    ⟨(some 4), .mov (.c (.int .i64 0)), [], none, []⟩])
  (.block 0
    (.loop (some [0, 3, 4])
      (.seq (some [0, 3, 4]) (.seq (some [0, 3, 4, 8]) (.reg none [
        ⟨(some 6), .mov (.t 4), [], none, []⟩
        , ⟨(some 7), .mov (.t 0), [], none, []⟩
        , ⟨(some 8), .bin .lss (.t 6) (.t 7), [], none, []⟩])
      (.cond (.t 8)
        .skip
        (.exit 0)))
      (.seq (some [0, 3, 4]) (.block 1
        (.reg none [
          ⟨(some 11), .mov (.t 3), [], none, []⟩
          , ⟨(some 12), .mov (.t 4), [], none, []⟩
          , ⟨(some 13), .lit 1 [(.int .i64 0)] 1 [(0, (.t 12))], [], none, []⟩
          , ⟨(some 14), .app 1 8 (.t 11) (.t 13), [], none, []⟩
          , ⟨(some 3), .mov (.t 14), [], none, []⟩]))
      (.reg none [
        ⟨(some 9), .mov (.t 4), [], none, []⟩
        , ⟨(some 10), .bin .add (.t 9) (.c (.int .i64 1)), [], none, []⟩
        , ⟨(some 4), .mov (.t 10), [], none, []⟩]))))))
  (.seq (some [2]) (.reg none [
    ⟨(some 15), .mov (.t 3), [], none, []⟩
    , ⟨(some 2), .mov (.t 15), [], none, []⟩])
  .ret))))

def r_orderset_Orders : List ResA := [.t 6]
def c_orderset_Orders : AC := (.seq (some [0, 4, 5, 6]) (.reg none [
    ⟨(some 4), .box 1 (.t 1), [], none, []⟩
    , ⟨(some 5), .box 1 (.t 2), [], none, []⟩
    , ⟨(some 6), .mov (.c (.sl [] .nil)), [], none, []⟩])
  (.seq (some [0, 4, 5, 6]) (.seq (some [0, 4, 5, 6, 7]) (.reg none [
    ⟨(some 10), .ld none (.t 5), [], none, []⟩
    , ⟨(some 11), .call n_slices_Values___int_int_ [(.t 10)], [], none, []⟩
    , ⟨(some 12), .call n_slices_Sorted_int_ [(.t 11)], [], none, []⟩
    , ⟨(some 7), .mov (.t 12), [], none, []⟩])
  (.seq (some [0, 4, 5, 6, 25]) (.reg none [
    ⟨(some 13), .mov (.t 0), [], none, []⟩
    , ⟨(some 14), .bin .lss (.t 13) (.c (.int .i64 0)), [], none, []⟩
    , ⟨(some 15), .mov (.t 14), [], none, []⟩
    , ⟨(some 16), .mov (.t 0), [], some (15, false), []⟩
    , ⟨(some 17), .bin .gtr (.t 16) (.c (.int .i64 5)), [], some (15, false), []⟩
    , ⟨(some 18), .pick (.t 15) (.c (.bool true)) (.t 17), [], none, []⟩
    , ⟨(some 19), .mov (.t 18), [], none, []⟩
    , ⟨(some 20), .mov (.t 7), [], some (19, false), []⟩
    , ⟨(some 21), .mov (.t 0), [], some (19, false), []⟩
    , ⟨(some 22), .call n_orderset_given [(.t 21)], [], some (19, false), []⟩
    , ⟨(some 23), .call n_slices_Equal___int_int_ [(.t 20), (.t 22)], [], some (19, false), [.shr]⟩
    , ⟨(some 24), .un .not (.t 23), [], some (19, false), []⟩
    , ⟨(some 25), .pick (.t 19) (.c (.bool true)) (.t 24), [], none, []⟩])
  (.cond (.t 25)
    (.seq (some [6]) (.reg none [
      ⟨(some 6), .mov (.c (.sl [] .nil)), [], none, []⟩])
    .ret)
    .skip)))
  (.seq (some [0, 4, 5, 6, 8]) (.reg none [
    ⟨(some 8), .alloc [(.sl [] .nil)], [], none, []⟩])
  (.seq (some [8]) (.seq (some [4, 5, 6, 8, 27]) (.reg none [
    ⟨(some 26), .mov (.t 0), [], none, []⟩
    , ⟨(some 27), .call n_orderset_orders [(.t 26)], [], none, []⟩])
  (.block 0
    (.rfn (some [4, 5, 8]) (.t 27) [28]
      (.reg none [
        ⟨(some 9), .mov (.t 28), [], none, []⟩])
      (.block 1
        (.seq (some [8, 9, 33]) (.reg (some [[], [], [], [2], [0, 1, 3, 3]]) [
          ⟨(some 29), .mov (.t 9), [], none, []⟩
          , ⟨(some 30), .ld none (.t 5), [], none, []⟩
          , ⟨(some 31), .ld none (.t 4), [], none, []⟩
          , ⟨(some 32), .call n_orderset_kept [(.t 31)], [], none, []⟩
          , ⟨(some 33), .call n_orderset_keeps [(.t 29), (.t 30), (.t 32)], [], none, [.shr]⟩])
        (.cond (.t 33)
          (.reg (some [[], [], [1], [2], [0, 3, 2], [4, 4, 0, 1, 2, 3, 4]]) [
            ⟨(some 34), .ld none (.t 8), [], none, []⟩
            , ⟨(some 35), .mov (.t 9), [], none, []⟩
            , ⟨(some 36), .call n_slices_Clone___int_int_ [(.t 35)], [], none, [.shr, .hk]⟩
            , ⟨(some 37), .lit 1 [(.sl [] .nil)] 1 [(0, (.t 36))], [], none, []⟩
            , ⟨(some 38), .app 1 24 (.t 34) (.t 37), [], none, []⟩
            , ⟨none, .st 1 (.t 8) (.t 38), [], none, []⟩])
          .skip))))))
  (.seq (some [6]) (.reg none [
    ⟨(some 39), .ld none (.t 8), [], none, []⟩
    , ⟨(some 6), .mov (.t 39), [], none, []⟩])
  .ret)))))

def r_unit_Equal : List ResA := [.t 4]
def c_unit_Equal : AC := (.seq (some [2, 3]) (.reg none [
    ⟨(some 2), .box 8 (.t 0), [], none, []⟩
    , ⟨(some 3), .box 8 (.t 1), [], none, []⟩
    , ⟨(some 4), .mov (.c (.bool false)), [], none, []⟩])
  (.seq (some [4]) (.reg none [
    ⟨(some 5), .fad 0 (.t 2), [], none, []⟩
    , ⟨(some 6), .ld (some 3) (.t 5), [], none, []⟩
    , ⟨(some 7), .fad 0 (.t 3), [], none, []⟩
    , ⟨(some 8), .ld (some 3) (.t 7), [], none, []⟩
    , ⟨(some 9), .eqA false [.i .i64, .i .i64, .i .i64] (.t 6) (.t 8), [], none, []⟩
    , ⟨(some 10), .mov (.t 9), [], none, []⟩
    , ⟨(some 11), .fad 3 (.t 2), [], some (10, true), []⟩
    , ⟨(some 12), .ld none (.t 11), [], some (10, true), []⟩
    , ⟨(some 13), .fad 3 (.t 3), [], some (10, true), []⟩
    , ⟨(some 14), .ld none (.t 13), [], some (10, true), []⟩
    , ⟨(some 15), .bin .eql (.t 12) (.t 14), [], some (10, true), []⟩
    , ⟨(some 16), .pick (.t 10) (.t 15) (.c (.bool false)), [], none, []⟩
    , ⟨(some 17), .mov (.t 16), [], none, []⟩
    , ⟨(some 18), .fad 4 (.t 2), [], some (17, true), []⟩
    , ⟨(some 19), .ld none (.t 18), [], some (17, true), []⟩
    , ⟨(some 20), .fad 4 (.t 3), [], some (17, true), []⟩
    , ⟨(some 21), .ld none (.t 20), [], some (17, true), []⟩
    , ⟨(some 22), .bin .eql (.t 19) (.t 21), [], some (17, true), []⟩
    , ⟨(some 23), .pick (.t 17) (.t 22) (.c (.bool false)), [], none, []⟩
    , ⟨(some 24), .mov (.t 23), [], none, []⟩
    , ⟨(some 25), .fad 5 (.t 2), [], some (24, true), []⟩
    , ⟨(some 26), .ld none (.t 25), [], some (24, true), []⟩
    , ⟨(some 27), .fad 5 (.t 3), [], some (24, true), []⟩
    , ⟨(some 28), .ld none (.t 27), [], some (24, true), []⟩
    , ⟨(some 29), .call n_api_Word_ [(.t 26), (.t 28)], [], some (24, true), []⟩
    , ⟨(some 30), .pick (.t 24) (.t 29) (.c (.bool false)), [], none, []⟩
    , ⟨(some 31), .mov (.t 30), [], none, []⟩
    , ⟨(some 32), .fad 6 (.t 2), [], some (31, true), []⟩
    , ⟨(some 33), .ld none (.t 32), [], some (31, true), []⟩
    , ⟨(some 34), .fad 6 (.t 3), [], some (31, true), []⟩
    , ⟨(some 35), .ld none (.t 34), [], some (31, true), []⟩
    , ⟨(some 36), .call n_api_Word_ [(.t 33), (.t 35)], [], some (31, true), []⟩
    , ⟨(some 37), .pick (.t 31) (.t 36) (.c (.bool false)), [], none, []⟩
    , ⟨(some 38), .mov (.t 37), [], none, []⟩
    , ⟨(some 39), .fad 7 (.t 2), [], some (38, true), []⟩
    , ⟨(some 40), .ld none (.t 39), [], some (38, true), []⟩
    , ⟨(some 41), .fad 7 (.t 3), [], some (38, true), []⟩
    , ⟨(some 42), .ld none (.t 41), [], some (38, true), []⟩
    , ⟨(some 43), .call n_api_Unit__40 [(.t 40), (.t 42), (.c (.fn n_unit_Equal []))], [], some (38, true), []⟩
    , ⟨(some 44), .pick (.t 38) (.t 43) (.c (.bool false)), [], none, []⟩
    , ⟨(some 4), .mov (.t 44), [], none, []⟩])
  .ret))

def r_pandectlaw38_head : List ResA := [.c (some 7) 4]
def c_pandectlaw38_head : AC := (.seq (some [0, 1, 4]) (.reg none [
    ⟨(some 4), .alloc [(.int .i64 0), (.str []), (.int .i64 0), (.int .i64 0), (.int .i64 0), (.str []), (.sl [] .nil)], [], none, []⟩])
  (.seq (some [4]) (.reg none [
    ⟨(some 5), .mov (.t 0), [], none, []⟩
    , ⟨(some 6), .mov (.t 1), [], none, []⟩
    , ⟨(some 7), .build [(.int .i64 0), (.str [])] [(0, 1, (.c (.int .i64 2))), (1, 1, (.t 6))], [], none, []⟩
    , ⟨(some 8), .lit 2 [(.int .i64 0), (.str [])] 1 [(0, (.t 7))], [], none, []⟩
    , ⟨(some 9), .lit 1 [(.str [])] 1 [(0, (.c (.str [104])))], [], none, []⟩
    , ⟨(some 10), .build [(.int .i64 0), (.sl [] .nil), (.sl [] .nil), (.int .i64 0), (.int .i64 0), (.int .i64 0), (.int .i64 0), (.int .i64 0), (.int .i64 0), (.str []), (.sl [] .nil), (.sl [] .nil), (.sl [] .nil), (.sl [] .nil), (.sl [] .nil), (.str []), (.str []), (.int .i64 0), (.int .i64 0), (.str []), (.int .i64 0), (.int .i64 0), (.int .i64 0), (.str []), (.sl [] .nil)] [(0, 1, (.c (.int .i64 4))), (1, 1, (.t 8)), (14, 1, (.t 9))], [], none, []⟩
    , ⟨(some 11), .lit 25 [(.int .i64 0), (.sl [] .nil), (.sl [] .nil), (.int .i64 0), (.int .i64 0), (.int .i64 0), (.int .i64 0), (.int .i64 0), (.int .i64 0), (.str []), (.sl [] .nil), (.sl [] .nil), (.sl [] .nil), (.sl [] .nil), (.sl [] .nil), (.str []), (.str []), (.int .i64 0), (.int .i64 0), (.str []), (.int .i64 0), (.int .i64 0), (.int .i64 0), (.str []), (.sl [] .nil)] 1 [(0, (.t 10))], [], none, []⟩
    , ⟨(some 12), .build [(.int .i64 0), (.str []), (.int .i64 0), (.int .i64 0), (.int .i64 0), (.str []), (.sl [] .nil)] [(0, 1, (.t 5)), (1, 1, (.c (.str [116]))), (6, 1, (.t 11))], [], none, []⟩
    , ⟨none, .st 7 (.t 4) (.t 12), [], none, []⟩])
  .ret))

def r_pandectref38_Lists : List ResA := [.t 4]
def c_pandectref38_Lists : AC := (.seq (some [0, 1]) (.reg none [
    ⟨(some 4), .mov (.c (.bool false)), [], none, []⟩])
  (.seq (some [0, 1]) (.seq (some [0, 1, 10]) (.reg none [
    ⟨(some 6), .mov (.t 0), [], none, []⟩
    , ⟨(some 7), .len (.t 6), [(.sl, (.t 6))], none, []⟩
    , ⟨(some 8), .mov (.t 1), [], none, []⟩
    , ⟨(some 9), .len (.t 8), [(.sl, (.t 8))], none, []⟩
    , ⟨(some 10), .bin .neq (.t 7) (.t 9), [], none, []⟩])
  (.cond (.t 10)
    (.seq (some [4]) (.reg none [
      ⟨(some 4), .mov (.c (.bool false)), [], none, []⟩])
    .ret)
    .skip))
  (.seq (some []) (.seq (some [0, 1, 5]) (.reg none [
    ⟨(some 5), .mov (.c (.int .i64 0)), [], none, []⟩])
  (.block 0
    (.loop (some [0, 1, 5])
      (.seq (some [0, 1, 5]) (.seq (some [0, 1, 5, 14]) (.reg none [
        ⟨(some 11), .mov (.t 5), [], none, []⟩
        , ⟨(some 12), .mov (.t 0), [], none, []⟩
        , ⟨(some 13), .len (.t 12), [(.sl, (.t 12))], none, []⟩
        , ⟨(some 14), .bin .lss (.t 11) (.t 13), [], none, []⟩])
      (.cond (.t 14)
        .skip
        (.exit 0)))
      (.seq (some [0, 1, 5]) (.block 1
        (.seq (some [0, 1, 5, 26]) (.reg (some [[], [], [0, 1], [2], [], [], [4, 5], [6], [3, 7], [8]]) [
          ⟨(some 17), .mov (.t 0), [], none, []⟩
          , ⟨(some 18), .mov (.t 5), [], none, []⟩
          , ⟨(some 19), .ixs 1 (.t 17) (.t 18), [], none, []⟩
          , ⟨(some 20), .ld none (.t 19), [], none, []⟩
          , ⟨(some 21), .mov (.t 1), [], none, []⟩
          , ⟨(some 22), .mov (.t 5), [], none, []⟩
          , ⟨(some 23), .ixs 1 (.t 21) (.t 22), [], none, []⟩
          , ⟨(some 24), .ld none (.t 23), [], none, []⟩
          , ⟨(some 25), .call n_pandectref38_Ints [(.t 20), (.t 24)], [], none, []⟩
          , ⟨(some 26), .un .not (.t 25), [], none, []⟩])
        (.cond (.t 26)
          (.seq (some [4]) (.reg none [
            ⟨(some 4), .mov (.c (.bool false)), [], none, []⟩])
          .ret)
          .skip)))
      (.reg none [
        ⟨(some 15), .mov (.t 5), [], none, []⟩
        , ⟨(some 16), .bin .add (.t 15) (.c (.int .i64 1)), [], none, []⟩
        , ⟨(some 5), .mov (.t 16), [], none, []⟩]))))))
  (.seq (some [4]) (.reg none [
    ⟨(some 4), .mov (.c (.bool true)), [], none, []⟩])
  .ret))))

def r_pandectref26_Few : List ResA := [.t 6]
def c_pandectref26_Few : AC := (.seq (some [1, 2, 3]) (.reg none [
    ⟨(some 3), .box 8 (.t 0), [], none, []⟩
    , ⟨(some 6), .mov (.c (.bool false)), [], none, []⟩])
  (.seq (some [1]) (.seq (some [1, 16]) (.reg none [
    ⟨(some 8), .ld (some 8) (.t 3), [], none, []⟩
    , ⟨(some 9), .call n_pandectref06_Few [(.t 8), (.c (.int .i64 60))], [], none, []⟩
    , ⟨(some 10), .un .not (.t 9), [], none, []⟩
    , ⟨(some 11), .mov (.t 10), [], none, []⟩
    , ⟨(some 12), .mov (.t 1), [], some (11, false), []⟩
    , ⟨(some 13), .len (.t 12), [(.sl, (.t 12))], some (11, false), []⟩
    , ⟨(some 14), .mov (.t 2), [], some (11, false), []⟩
    , ⟨(some 15), .bin .gtr (.t 13) (.t 14), [], some (11, false), []⟩
    , ⟨(some 16), .pick (.t 11) (.c (.bool true)) (.t 15), [], none, []⟩])
  (.cond (.t 16)
    (.seq (some [6]) (.reg none [
      ⟨(some 6), .mov (.c (.bool false)), [], none, []⟩])
    .ret)
    .skip))
  (.seq (some []) (.seq (some [1, 7]) (.reg none [
    ⟨(some 7), .mov (.c (.int .i64 0)), [], none, []⟩])
  (.block 0
    (.loop (some [1, 7])
      (.seq (some [1, 7]) (.seq (some [1, 7, 20]) (.reg none [
        ⟨(some 17), .mov (.t 7), [], none, []⟩
        , ⟨(some 18), .mov (.t 1), [], none, []⟩
        , ⟨(some 19), .len (.t 18), [(.sl, (.t 18))], none, []⟩
        , ⟨(some 20), .bin .lss (.t 17) (.t 19), [], none, []⟩])
      (.cond (.t 20)
        .skip
        (.exit 0)))
      (.seq (some [1, 7]) (.block 1
        (.seq (some [1, 7, 31]) (.reg none [
          ⟨(some 23), .mov (.t 1), [], none, []⟩
          , ⟨(some 24), .mov (.t 7), [], none, []⟩
          , ⟨(some 25), .ixs 28 (.t 23) (.t 24), [], none, []⟩
          , ⟨(some 26), .fad 3 (.t 25), [], none, []⟩
          , ⟨(some 27), .ld (some 25) (.t 26), [], none, []⟩
          , ⟨(some 28), .lit 25 [(.int .i64 0), (.sl [] .nil), (.sl [] .nil), (.int .i64 0), (.int .i64 0), (.int .i64 0), (.int .i64 0), (.int .i64 0), (.int .i64 0), (.str []), (.sl [] .nil), (.sl [] .nil), (.sl [] .nil), (.sl [] .nil), (.sl [] .nil), (.str []), (.str []), (.int .i64 0), (.int .i64 0), (.str []), (.int .i64 0), (.int .i64 0), (.int .i64 0), (.str []), (.sl [] .nil)] 1 [(0, (.t 27))], [], none, []⟩
          , ⟨(some 29), .build [(.int .i64 0), (.str []), (.int .i64 0), (.int .i64 0), (.int .i64 0), (.str []), (.sl [] .nil)] [(6, 1, (.t 28))], [], none, []⟩
          , ⟨(some 30), .call n_pandectref18_Few [(.t 29)], [], none, []⟩
          , ⟨(some 31), .un .not (.t 30), [], none, []⟩])
        (.cond (.t 31)
          (.seq (some [6]) (.reg none [
            ⟨(some 6), .mov (.c (.bool false)), [], none, []⟩])
          .ret)
          .skip)))
      (.reg none [
        ⟨(some 21), .mov (.t 7), [], none, []⟩
        , ⟨(some 22), .bin .add (.t 21) (.c (.int .i64 1)), [], none, []⟩
        , ⟨(some 7), .mov (.t 22), [], none, []⟩]))))))
  (.seq (some [6]) (.reg none [
    ⟨(some 6), .mov (.c (.bool true)), [], none, []⟩])
  .ret))))

def r_pandectref26_Book : List ResA := [.t 2]
def c_pandectref26_Book : AC := (.seq (some [1]) (.reg none [
    ⟨(some 1), .box 8 (.t 0), [], none, []⟩
    , ⟨(some 2), .mov (.c (.bool false)), [], none, []⟩])
  (.seq (some [2]) (.reg none [
    ⟨(some 3), .ld (some 8) (.t 1), [], none, []⟩
    , ⟨(some 4), .call n_pandectref08_Stands [(.t 3)], [], none, []⟩
    , ⟨(some 2), .mov (.t 4), [], none, []⟩])
  .ret))

def r_pandectref18_Few : List ResA := [.t 2]
def c_pandectref18_Few : AC := (.seq (some [1]) (.reg none [
    ⟨(some 1), .box 7 (.t 0), [], none, []⟩
    , ⟨(some 2), .mov (.c (.bool false)), [], none, []⟩])
  (.seq (some [1]) (.seq (some [1, 20]) (.reg none [
    ⟨(some 4), .fad 6 (.t 1), [], none, []⟩
    , ⟨(some 5), .ld none (.t 4), [], none, []⟩
    , ⟨(some 6), .len (.t 5), [(.sl, (.t 5))], none, []⟩
    , ⟨(some 7), .bin .gtr (.t 6) (.c (.int .i64 40)), [], none, []⟩
    , ⟨(some 8), .mov (.t 7), [], none, []⟩
    , ⟨(some 9), .fad 1 (.t 1), [], some (8, false), []⟩
    , ⟨(some 10), .ld none (.t 9), [], some (8, false), []⟩
    , ⟨(some 11), .len (.t 10), [(.st, (.t 10))], some (8, false), []⟩
    , ⟨(some 12), .bin .gtr (.t 11) (.c (.int .i64 300)), [], some (8, false), []⟩
    , ⟨(some 13), .pick (.t 8) (.c (.bool true)) (.t 12), [], none, []⟩
    , ⟨(some 14), .mov (.t 13), [], none, []⟩
    , ⟨(some 15), .fad 3 (.t 1), [], some (14, false), []⟩
    , ⟨(some 16), .fad 2 (.t 15), [], some (14, false), []⟩
    , ⟨(some 17), .ld none (.t 16), [], some (14, false), []⟩
    , ⟨(some 18), .len (.t 17), [(.st, (.t 17))], some (14, false), []⟩
    , ⟨(some 19), .bin .gtr (.t 18) (.c (.int .i64 100)), [], some (14, false), []⟩
    , ⟨(some 20), .pick (.t 14) (.c (.bool true)) (.t 19), [], none, []⟩])
  (.cond (.t 20)
    (.seq (some [2]) (.reg none [
      ⟨(some 2), .mov (.c (.bool false)), [], none, []⟩])
    .ret)
    .skip))
  (.seq (some []) (.seq (some [1, 3]) (.reg none [
    ⟨(some 3), .mov (.c (.int .i64 0)), [], none, []⟩])
  (.block 0
    (.loop (some [1, 3])
      (.seq (some [1, 3]) (.seq (some [1, 3, 25]) (.reg none [
        ⟨(some 21), .mov (.t 3), [], none, []⟩
        , ⟨(some 22), .fad 6 (.t 1), [], none, []⟩
        , ⟨(some 23), .ld none (.t 22), [], none, []⟩
        , ⟨(some 24), .len (.t 23), [(.sl, (.t 23))], none, []⟩
        , ⟨(some 25), .bin .lss (.t 21) (.t 24), [], none, []⟩])
      (.cond (.t 25)
        .skip
        (.exit 0)))
      (.seq (some [1, 3]) (.block 1
        (.seq (some [1, 3, 34]) (.reg none [
          ⟨(some 28), .fad 6 (.t 1), [], none, []⟩
          , ⟨(some 29), .ld none (.t 28), [], none, []⟩
          , ⟨(some 30), .mov (.t 3), [], none, []⟩
          , ⟨(some 31), .ixs 25 (.t 29) (.t 30), [], none, []⟩
          , ⟨(some 32), .ld (some 25) (.t 31), [], none, []⟩
          , ⟨(some 33), .call n_pandectref17_Few [(.t 32)], [], none, []⟩
          , ⟨(some 34), .un .not (.t 33), [], none, []⟩])
        (.cond (.t 34)
          (.seq (some [2]) (.reg none [
            ⟨(some 2), .mov (.c (.bool false)), [], none, []⟩])
          .ret)
          .skip)))
      (.reg none [
        ⟨(some 26), .mov (.t 3), [], none, []⟩
        , ⟨(some 27), .bin .add (.t 26) (.c (.int .i64 1)), [], none, []⟩
        , ⟨(some 3), .mov (.t 27), [], none, []⟩]))))))
  (.seq (some [2]) (.reg none [
    ⟨(some 2), .mov (.c (.bool true)), [], none, []⟩])
  .ret))))

def r_enact_ApplyAll : List ResA := [.c (some 8) 4, .t 5]
def c_enact_ApplyAll : AC := (.seq (some [1, 2, 4]) (.reg none [
    ⟨(some 2), .box 8 (.t 0), [], none, []⟩
    , ⟨(some 4), .alloc [(.int .i64 0), (.int .i64 0), (.int .i64 0), (.int .i64 0), (.str []), (.sl [] .nil), (.sl [] .nil), (.sl [] .nil)], [], none, []⟩
    , ⟨(some 5), .mov (.c (.sl [] .nil)), [], none, []⟩])
  (.seq (some [1, 2, 4, 6]) (.reg none [
    ⟨(some 6), .mov (.c (.sl [] .nil)), [], none, []⟩])
  (.seq (some [2, 4, 6]) (.seq (some [2, 4, 6, 11, 12, 13]) (.reg none [
    ⟨(some 11), .mov (.t 1), [], none, []⟩
    , ⟨(some 12), .len (.t 11), [(.sl, (.t 11))], none, []⟩
    , ⟨(some 13), .mov (.c (.int .i64 0)), [], none, []⟩])
  (.block 0
    (.loop (some [2, 4, 6, 11, 12, 13])
      (.seq (some [2, 4, 6, 11, 12, 13, 14]) (.reg none [
        ⟨(some 14), .bin .lss (.t 13) (.t 12), [], none, []⟩])
      (.seq (some [2, 4, 6, 11, 12, 13]) (.cond (.t 14)
        .skip
        (.exit 0))
      (.seq (some [2, 4, 6, 11, 12, 13]) (.block 1
        (.seq (some [2, 4, 6, 8, 11, 12, 13]) (.reg none [
          ⟨(some 15), .ixs 28 (.t 11) (.t 13), [], none, []⟩
          , ⟨(some 16), .ld (some 28) (.t 15), [], none, []⟩
          , ⟨(some 8), .alloc [(.int .i64 0), (.int .i64 0), (.int .i64 0), (.int .i64 0), (.sl [] .nil), (.sl [] .nil), (.int .i64 0), (.int .i64 0), (.int .i64 0), (.int .i64 0), (.int .i64 0), (.int .i64 0), (.str []), (.sl [] .nil), (.sl [] .nil), (.sl [] .nil), (.sl [] .nil), (.sl [] .nil), (.str []), (.str []), (.int .i64 0), (.int .i64 0), (.str []), (.int .i64 0), (.int .i64 0), (.int .i64 0), (.str []), (.sl [] .nil)], [], none, []⟩
          , ⟨none, .st 28 (.t 8) (.t 16), [], none, []⟩])
        (.seq (some [2, 4, 6, 8, 11, 12, 13]) (.seq (some [2, 4, 6, 8, 11, 12, 13, 21]) (.reg none [
          ⟨(some 17), .fad 3 (.t 8), [], none, []⟩
          , ⟨(some 18), .fad 0 (.t 17), [], none, []⟩
          , ⟨(some 19), .ld none (.t 18), [], none, []⟩
          , ⟨(some 20), .call n_syntax_IsAmendment [(.t 19)], [], none, []⟩
          , ⟨(some 21), .un .not (.t 20), [], none, []⟩])
        (.cond (.t 21)
          (.exit 1)
          .skip))
        (.seq (some [2, 4, 6, 8, 9, 10, 11, 12, 13]) (.reg none [
          ⟨(some 23), .ld (some 8) (.t 2), [], none, []⟩
          , ⟨(some 24), .ld (some 28) (.t 8), [], none, []⟩
          , ⟨(some 25), .call n_enact_Apply [(.t 23), (.t 24)], [], none, []⟩
          , ⟨(some 22), .mov (.t 25), [], none, []⟩
          , ⟨(some 26), .ext (.t 22) 0, [], none, []⟩
          , ⟨(some 27), .ext (.t 22) 1, [], none, []⟩
          , ⟨(some 9), .alloc [(.int .i64 0), (.int .i64 0), (.int .i64 0), (.int .i64 0), (.str []), (.sl [] .nil), (.sl [] .nil), (.sl [] .nil)], [], none, []⟩
          , ⟨none, .st 8 (.t 9) (.t 26), [], none, []⟩
          , ⟨(some 10), .mov (.t 27), [], none, []⟩])
        (.seq (some [2, 4, 6, 9, 11, 12, 13]) (.seq (some [2, 4, 6, 8, 9, 10, 11, 12, 13, 29]) (.reg none [
          ⟨(some 28), .mov (.t 10), [], none, []⟩
          , ⟨(some 29), .bin .neq (.t 28) (.c (.int .i64 0)), [], none, []⟩])
        (.cond (.t 29)
          (.reg none [
            ⟨(some 30), .mov (.t 6), [], none, []⟩
            , ⟨(some 31), .fad 0 (.t 8), [], none, []⟩
            , ⟨(some 32), .ld none (.t 31), [], none, []⟩
            , ⟨(some 33), .fad 1 (.t 8), [], none, []⟩
            , ⟨(some 34), .ld none (.t 33), [], none, []⟩
            , ⟨(some 35), .mov (.t 10), [], none, []⟩
            , ⟨(some 36), .build [(.int .i64 0), (.int .i64 0), (.int .i64 0)] [(0, 1, (.t 32)), (1, 1, (.t 34)), (2, 1, (.t 35))], [], none, []⟩
            , ⟨(some 37), .lit 3 [(.int .i64 0), (.int .i64 0), (.int .i64 0)] 1 [(0, (.t 36))], [], none, []⟩
            , ⟨(some 38), .app 3 24 (.t 30) (.t 37), [], none, []⟩
            , ⟨(some 6), .mov (.t 38), [], none, []⟩])
          .skip))
        (.reg none [
          ⟨(some 39), .ld (some 8) (.t 9), [], none, []⟩
          , ⟨none, .st 8 (.t 2) (.t 39), [], none, []⟩]))))))
      (.reg none [
        ⟨(some 40), .bin .add (.t 13) (.c (.int .i64 1)), [], none, []⟩
        , ⟨(some 13), .mov (.t 40), [], none, []⟩])))))))
  (.seq (some [4, 5]) (.reg none [
    ⟨(some 41), .ld (some 8) (.t 2), [], none, []⟩
    , ⟨(some 42), .mov (.t 6), [], none, []⟩
    , ⟨none, .st 8 (.t 4) (.t 41), [], none, []⟩
    , ⟨(some 5), .mov (.t 42), [], none, []⟩])
  .ret))))

def r_orderset_rows : List ResA := [.t 4, .t 5]
def c_orderset_rows : AC := (.seq (some [1, 2]) (.reg none [
    ⟨(some 2), .box 8 (.t 0), [], none, []⟩
    , ⟨(some 4), .mov (.c (.sl [] .nil)), [], none, []⟩
    , ⟨(some 5), .mov (.c (.sl [] .nil)), [], none, []⟩])
  (.seq (some [1, 2, 6]) (.reg none [
    ⟨(some 10), .mov (.t 1), [], none, []⟩
    , ⟨(some 11), .len (.t 10), [(.sl, (.t 10))], none, []⟩
    , ⟨(some 12), .mov (.t 1), [], none, []⟩
    , ⟨(some 13), .len (.t 12), [(.sl, (.t 12))], none, []⟩
    , ⟨(some 14), .call n_orderset_given [(.t 13)], [], none, []⟩
    , ⟨(some 15), .call n_orderset_Orders [(.t 11), (.c (.sl [] .nil)), (.t 14)], [], none, []⟩
    , ⟨(some 6), .mov (.t 15), [], none, []⟩])
  (.seq (some [1, 2, 6, 7]) (.reg none [
    ⟨(some 7), .mov (.c (.sl [] .nil)), [], none, []⟩])
  (.seq (some [6, 7]) (.seq (some [1, 2, 6, 7, 16, 17, 18]) (.reg none [
    ⟨(some 16), .mov (.t 6), [], none, []⟩
    , ⟨(some 17), .len (.t 16), [(.sl, (.t 16))], none, []⟩
    , ⟨(some 18), .mov (.c (.int .i64 0)), [], none, []⟩])
  (.block 0
    (.loop (some [1, 2, 6, 7, 16, 17, 18])
      (.seq (some [1, 2, 6, 7, 16, 17, 18, 19]) (.reg none [
        ⟨(some 19), .bin .lss (.t 18) (.t 17), [], none, []⟩])
      (.seq (some [1, 2, 6, 7, 16, 17, 18]) (.cond (.t 19)
        .skip
        (.exit 0))
      (.seq (some [1, 2, 6, 7, 16, 17, 18]) (.block 1
        (.seq (some [1, 2, 6, 7, 9, 16, 17, 18]) (.reg none [
          ⟨(some 20), .ixs 1 (.t 16) (.t 18), [], none, []⟩
          , ⟨(some 21), .ld none (.t 20), [], none, []⟩
          , ⟨(some 9), .mov (.t 21), [], none, []⟩])
        (.reg none [
          ⟨(some 22), .mov (.t 7), [], none, []⟩
          , ⟨(some 23), .ld (some 8) (.t 2), [], none, []⟩
          , ⟨(some 24), .mov (.t 9), [], none, []⟩
          , ⟨(some 25), .mov (.t 1), [], none, []⟩
          , ⟨(some 26), .call n_orderset_book [(.t 23), (.t 24), (.t 25)], [], none, []⟩
          , ⟨(some 27), .lit 8 [(.int .i64 0), (.int .i64 0), (.int .i64 0), (.int .i64 0), (.str []), (.sl [] .nil), (.sl [] .nil), (.sl [] .nil)] 1 [(0, (.t 26))], [], none, []⟩
          , ⟨(some 28), .app 8 120 (.t 22) (.t 27), [], none, []⟩
          , ⟨(some 7), .mov (.t 28), [], none, []⟩])))
      (.reg none [
        ⟨(some 29), .bin .add (.t 18) (.c (.int .i64 1)), [], none, []⟩
        , ⟨(some 18), .mov (.t 29), [], none, []⟩])))))))
  (.seq (some [4, 5]) (.reg none [
    ⟨(some 30), .mov (.t 6), [], none, []⟩
    , ⟨(some 31), .mov (.t 7), [], none, []⟩
    , ⟨(some 4), .mov (.t 30), [], none, []⟩
    , ⟨(some 5), .mov (.t 31), [], none, []⟩])
  .ret)))))

def r_slices_Compare___int_int_ : List ResA := [.t 4]
def c_slices_Compare___int_int_ : AC := (.seq (some [0, 1]) (.reg none [
    ⟨(some 4), .mov (.c (.int .i64 0)), [], none, []⟩])
  (.seq (some [0, 1]) (.seq (some [0, 1, 9, 10, 11]) (.reg none [
    ⟨(some 9), .mov (.t 0), [], none, []⟩
    , ⟨(some 10), .len (.t 9), [(.sl, (.t 9))], none, []⟩
    , ⟨(some 11), .mov (.c (.int .i64 0)), [], none, []⟩])
  (.block 0
    (.loop (some [0, 1, 9, 10, 11])
      (.seq (some [0, 1, 9, 10, 11, 12]) (.reg none [
        ⟨(some 12), .bin .lss (.t 11) (.t 10), [], none, []⟩])
      (.seq (some [0, 1, 9, 10, 11]) (.cond (.t 12)
        .skip
        (.exit 0))
      (.seq (some [0, 1, 9, 10, 11]) (.block 1
        (.seq (some [0, 1, 5, 6, 9, 10, 11]) (.reg none [
          ⟨(some 13), .mov (.t 11), [], none, []⟩
          , ⟨(some 14), .ixs 1 (.t 9) (.t 11), [], none, []⟩
          , ⟨(some 15), .ld none (.t 14), [], none, []⟩
          , ⟨(some 5), .mov (.t 13), [], none, []⟩
          , ⟨(some 6), .mov (.t 15), [], none, []⟩])
        (.seq (some [0, 1, 5, 6, 9, 10, 11]) (.seq (some [0, 1, 5, 6, 9, 10, 11, 19]) (.reg none [
          ⟨(some 16), .mov (.t 5), [], none, []⟩
          , ⟨(some 17), .mov (.t 1), [], none, []⟩
          , ⟨(some 18), .len (.t 17), [(.sl, (.t 17))], none, []⟩
          , ⟨(some 19), .bin .geq (.t 16) (.t 18), [], none, []⟩])
        (.cond (.t 19)
          (.seq (some [4]) (.reg none [
            ⟨(some 4), .mov (.c (.int .i64 1)), [], none, []⟩])
          .ret)
          .skip))
        (.seq (some [0, 1, 6, 7, 9, 10, 11]) (.reg none [
          ⟨(some 20), .mov (.t 1), [], none, []⟩
          , ⟨(some 21), .mov (.t 5), [], none, []⟩
          , ⟨(some 22), .ixs 1 (.t 20) (.t 21), [], none, []⟩
          , ⟨(some 23), .ld none (.t 22), [], none, []⟩
          , ⟨(some 7), .mov (.t 23), [], none, []⟩])
        (.seq (some [0, 1, 8, 9, 10, 11]) (.reg none [
          ⟨(some 24), .mov (.t 6), [], none, []⟩
          , ⟨(some 25), .mov (.t 7), [], none, []⟩
          , ⟨(some 26), .call n_cmp_Compare_int_ [(.t 24), (.t 25)], [], none, []⟩
          , ⟨(some 8), .mov (.t 26), [], none, []⟩])
        (.seq (some [0, 1, 8, 9, 10, 11, 28]) (.reg none [
          ⟨(some 27), .mov (.t 8), [], none, []⟩
          , ⟨(some 28), .bin .neq (.t 27) (.c (.int .i64 0)), [], none, []⟩])
        (.cond (.t 28)
          (.seq (some [4]) (.reg none [
            ⟨(some 29), .mov (.t 8), [], none, []⟩
            , ⟨(some 4), .mov (.t 29), [], none, []⟩])
          .ret)
          .skip)))))))
      (.reg none [
        ⟨(some 30), .bin .add (.t 11) (.c (.int .i64 1)), [], none, []⟩
        , ⟨(some 11), .mov (.t 30), [], none, []⟩])))))))
  (.seq (some []) (.seq (some [35]) (.reg none [
    ⟨(some 31), .mov (.t 0), [], none, []⟩
    , ⟨(some 32), .len (.t 31), [(.sl, (.t 31))], none, []⟩
    , ⟨(some 33), .mov (.t 1), [], none, []⟩
    , ⟨(some 34), .len (.t 33), [(.sl, (.t 33))], none, []⟩
    , ⟨(some 35), .bin .lss (.t 32) (.t 34), [], none, []⟩])
  (.cond (.t 35)
    (.seq (some [4]) (.reg none [
      ⟨(some 4), .mov (.c (.int .i64 (-1))), [], none, []⟩])
    .ret)
    .skip))
  (.seq (some [4]) (.reg none [
    ⟨(some 4), .mov (.c (.int .i64 0)), [], none, []⟩])
  .ret))))

def r_orderset_enough : List ResA := [.t 6]
def c_orderset_enough : AC := (.seq (some [0, 1, 5]) (.reg none [
    ⟨(some 5), .box 5 (.t 2), [], none, []⟩
    , ⟨(some 6), .mov (.c (.bool false)), [], none, []⟩])
  (.seq (some []) (.seq (some [0, 1, 5, 9, 10, 11]) (.reg none [
    ⟨(some 9), .mov (.t 0), [], none, []⟩
    , ⟨(some 10), .len (.t 9), [(.sl, (.t 9))], none, []⟩
    , ⟨(some 11), .mov (.c (.int .i64 0)), [], none, []⟩])
  (.block 0
    (.loop (some [0, 1, 5, 9, 10, 11])
      (.seq (some [0, 1, 5, 9, 10, 11, 12]) (.reg none [
        ⟨(some 12), .bin .lss (.t 11) (.t 10), [], none, []⟩])
      (.seq (some [0, 1, 5, 9, 10, 11]) (.cond (.t 12)
        .skip
        (.exit 0))
      (.seq (some [0, 1, 5, 9, 10, 11]) (.block 1
        (.seq (some [0, 1, 5, 7, 8, 9, 10, 11]) (.reg none [
          ⟨(some 13), .mov (.t 11), [], none, []⟩
          , ⟨(some 14), .ixs 1 (.t 9) (.t 11), [], none, []⟩
          , ⟨(some 15), .ld none (.t 14), [], none, []⟩
          , ⟨(some 7), .mov (.t 13), [], none, []⟩
          , ⟨(some 8), .mov (.t 15), [], none, []⟩])
        (.seq (some [0, 1, 5, 9, 10, 11, 32]) (.reg (some [[], [], [1], [2], [], [0, 3, 4], [5, 5], [6], [6], [7, 8, 6], [9, 6], [6], [11, 6], [12, 6], [10, 13, 6, 6], [14, 6], [6, 15]]) [
          ⟨(some 16), .mov (.t 8), [], none, []⟩
          , ⟨(some 17), .mov (.t 0), [], none, []⟩
          , ⟨(some 18), .ixs 1 (.t 17) (.c (.int .i64 0)), [], none, []⟩
          , ⟨(some 19), .ld none (.t 18), [], none, []⟩
          , ⟨(some 20), .ld (some 5) (.t 5), [], none, []⟩
          , ⟨(some 21), .call n_orderset_keeps [(.t 16), (.t 19), (.t 20)], [], none, []⟩
          , ⟨(some 22), .mov (.t 21), [], none, []⟩
          , ⟨(some 23), .mov (.t 1), [], some (22, true), []⟩
          , ⟨(some 24), .mov (.t 7), [], some (22, true), []⟩
          , ⟨(some 25), .ixs 8 (.t 23) (.t 24), [], some (22, true), []⟩
          , ⟨(some 26), .ld (some 8) (.t 25), [], some (22, true), []⟩
          , ⟨(some 27), .mov (.t 1), [], some (22, true), []⟩
          , ⟨(some 28), .ixs 8 (.t 27) (.c (.int .i64 0)), [], some (22, true), []⟩
          , ⟨(some 29), .ld (some 8) (.t 28), [], some (22, true), []⟩
          , ⟨(some 30), .call n_unit_Equal [(.t 26), (.t 29)], [], some (22, true), []⟩
          , ⟨(some 31), .un .not (.t 30), [], some (22, true), []⟩
          , ⟨(some 32), .pick (.t 22) (.t 31) (.c (.bool false)), [], none, []⟩])
        (.cond (.t 32)
          (.seq (some [6]) (.reg none [
            ⟨(some 6), .mov (.c (.bool false)), [], none, []⟩])
          .ret)
          .skip))))
      (.reg none [
        ⟨(some 33), .bin .add (.t 11) (.c (.int .i64 1)), [], none, []⟩
        , ⟨(some 11), .mov (.t 33), [], none, []⟩])))))))
  (.seq (some [6]) (.reg none [
    ⟨(some 6), .mov (.c (.bool true)), [], none, []⟩])
  .ret)))

def r_orderset_kept : List ResA := [.c (some 5) 2]
def c_orderset_kept : AC := (.seq (some [0, 2]) (.reg none [
    ⟨(some 2), .alloc [(.bool false), (.bool false), (.bool false), (.bool false), (.bool false)], [], none, []⟩])
  (.seq (some [0, 2, 3]) (.reg none [
    ⟨(some 3), .alloc [(.bool false), (.bool false), (.bool false), (.bool false), (.bool false)], [], none, []⟩])
  (.seq (some [2, 3]) (.seq (some [2, 3, 6, 7, 8]) (.reg none [
    ⟨(some 6), .mov (.t 0), [], none, []⟩
    , ⟨(some 7), .len (.t 6), [(.sl, (.t 6))], none, []⟩
    , ⟨(some 8), .mov (.c (.int .i64 0)), [], none, []⟩])
  (.block 0
    (.loop (some [2, 3, 6, 7, 8])
      (.seq (some [2, 3, 6, 7, 8, 9]) (.reg none [
        ⟨(some 9), .bin .lss (.t 8) (.t 7), [], none, []⟩])
      (.seq (some [2, 3, 6, 7, 8]) (.cond (.t 9)
        .skip
        (.exit 0))
      (.seq (some [2, 3, 6, 7, 8]) (.block 1
        (.seq (some [2, 3, 5, 6, 7, 8]) (.reg none [
          ⟨(some 10), .ixs 1 (.t 6) (.t 8), [], none, []⟩
          , ⟨(some 11), .ld none (.t 10), [], none, []⟩
          , ⟨(some 5), .mov (.t 11), [], none, []⟩])
        (.seq (some [2, 3, 5, 6, 7, 8, 17]) (.reg none [
          ⟨(some 12), .mov (.t 5), [], none, []⟩
          , ⟨(some 13), .bin .geq (.t 12) (.c (.int .i64 0)), [], none, []⟩
          , ⟨(some 14), .mov (.t 13), [], none, []⟩
          , ⟨(some 15), .mov (.t 5), [], some (14, true), []⟩
          , ⟨(some 16), .bin .lss (.t 15) (.c (.int .i64 5)), [], some (14, true), []⟩
          , ⟨(some 17), .pick (.t 14) (.t 16) (.c (.bool false)), [], none, []⟩])
        (.cond (.t 17)
          (.reg none [
            ⟨(some 18), .mov (.t 5), [], none, []⟩
            , ⟨(some 19), .ixa 5 1 (.t 3) (.t 18), [], none, []⟩
            , ⟨none, .st 1 (.t 19) (.c (.bool true)), [], none, []⟩])
          .skip))))
      (.reg none [
        ⟨(some 20), .bin .add (.t 8) (.c (.int .i64 1)), [], none, []⟩
        , ⟨(some 8), .mov (.t 20), [], none, []⟩])))))))
  (.seq (some [2]) (.reg none [
    ⟨(some 21), .ld (some 5) (.t 3), [], none, []⟩
    , ⟨none, .st 5 (.t 2) (.t 21), [], none, []⟩])
  .ret))))

def r_api_Unit_ : List ResA := [.t 4]
def c_api_Unit_ : AC := (.seq (some [0, 1]) (.reg none [
    ⟨(some 4), .mov (.c (.bool false)), [], none, []⟩])
  (.seq (some [4]) (.reg none [
    ⟨(some 5), .mov (.t 0), [], none, []⟩
    , ⟨(some 6), .mov (.t 1), [], none, []⟩
    , ⟨(some 7), .call n_api_Unit__48 [(.t 5), (.t 6)], [], none, []⟩
    , ⟨(some 8), .bin .geq (.t 7) (.c (.int .i64 0)), [], none, []⟩
    , ⟨(some 4), .mov (.t 8), [], none, []⟩])
  .ret))

def r_orderset_CountOutcomes_1 : List ResA := [.t 3]
def c_orderset_CountOutcomes_1 : AC := (.seq (some [1, 2]) (.reg none [
    ⟨(some 2), .box 8 (.t 0), [], none, []⟩
    , ⟨(some 3), .mov (.c (.bool false)), [], none, []⟩])
  (.seq (some [3]) (.reg none [
    ⟨(some 4), .ld (some 8) (.t 2), [], none, []⟩
    , ⟨(some 5), .ld (some 8) (.t 1), [], none, []⟩
    , ⟨(some 6), .call n_unit_Equal [(.t 4), (.t 5)], [], none, []⟩
    , ⟨(some 3), .mov (.t 6), [], none, []⟩])
  .ret))

def r_slices_Sorted_int_ : List ResA := [.t 2]
def c_slices_Sorted_int_ : AC := (.seq (some [0]) (.reg none [
    ⟨(some 2), .mov (.c (.sl [] .nil)), [], none, []⟩])
  (.seq (some [3]) (.reg none [
    ⟨(some 4), .mov (.t 0), [], none, []⟩
    , ⟨(some 5), .call n_slices_Collect_int_ [(.t 4)], [], none, []⟩
    , ⟨(some 3), .mov (.t 5), [], none, []⟩])
  (.seq (some [3]) (.reg none [
    ⟨(some 6), .mov (.t 3), [], none, []⟩
    , ⟨(some 7), .call n_slices_Sort___int_int_ [(.t 6)], [], none, [.shr]⟩])
  (.seq (some [2]) (.reg none [
    ⟨(some 8), .mov (.t 3), [], none, []⟩
    , ⟨(some 2), .mov (.t 8), [], none, []⟩])
  .ret))))

def r_slices_Values___int_int_ : List ResA := [.t 2]
def c_slices_Values___int_int_ : AC := (.seq (some [1]) (.reg none [
    ⟨(some 1), .box 1 (.t 0), [], none, []⟩
    , ⟨(some 2), .mov (.c .nilfn), [], none, []⟩])
  (.seq (some [2]) (.reg none [
    ⟨(some 3), .fnc n_slices_Values___int_int__1 [(.t 1)], [], none, []⟩
    , ⟨(some 2), .mov (.t 3), [], none, []⟩])
  .ret))

def r_slices_Equal___int_int_ : List ResA := [.t 4]
def c_slices_Equal___int_int_ : AC := (.seq (some [0, 1]) (.reg none [
    ⟨(some 4), .mov (.c (.bool false)), [], none, []⟩])
  (.seq (some [0, 1]) (.seq (some [0, 1, 10]) (.reg none [
    ⟨(some 6), .mov (.t 0), [], none, []⟩
    , ⟨(some 7), .len (.t 6), [(.sl, (.t 6))], none, []⟩
    , ⟨(some 8), .mov (.t 1), [], none, []⟩
    , ⟨(some 9), .len (.t 8), [(.sl, (.t 8))], none, []⟩
    , ⟨(some 10), .bin .neq (.t 7) (.t 9), [], none, []⟩])
  (.cond (.t 10)
    (.seq (some [4]) (.reg none [
      ⟨(some 4), .mov (.c (.bool false)), [], none, []⟩])
    .ret)
    .skip))
  (.seq (some []) (.seq (some [0, 1, 12, 13]) (.reg none [
    ⟨(some 11), .mov (.t 0), [], none, []⟩
    , ⟨(some 12), .len (.t 11), [(.sl, (.t 11))], none, []⟩
    , ⟨(some 13), .mov (.c (.int .i64 0)), [], none, []⟩])
  (.block 0
    (.loop (some [0, 1, 12, 13])
      (.seq (some [0, 1, 12, 13, 14]) (.reg none [
        ⟨(some 14), .bin .lss (.t 13) (.t 12), [], none, []⟩])
      (.seq (some [0, 1, 12, 13]) (.cond (.t 14)
        .skip
        (.exit 0))
      (.seq (some [0, 1, 12, 13]) (.block 1
        (.seq (some [0, 1, 5, 12, 13]) (.reg none [
          ⟨(some 15), .mov (.t 13), [], none, []⟩
          , ⟨(some 5), .mov (.t 15), [], none, []⟩])
        (.seq (some [0, 1, 12, 13, 24]) (.reg (some [[], [], [0, 1], [2], [], [], [4, 5], [6], [3, 7]]) [
          ⟨(some 16), .mov (.t 0), [], none, []⟩
          , ⟨(some 17), .mov (.t 5), [], none, []⟩
          , ⟨(some 18), .ixs 1 (.t 16) (.t 17), [], none, []⟩
          , ⟨(some 19), .ld none (.t 18), [], none, []⟩
          , ⟨(some 20), .mov (.t 1), [], none, []⟩
          , ⟨(some 21), .mov (.t 5), [], none, []⟩
          , ⟨(some 22), .ixs 1 (.t 20) (.t 21), [], none, []⟩
          , ⟨(some 23), .ld none (.t 22), [], none, []⟩
          , ⟨(some 24), .bin .neq (.t 19) (.t 23), [], none, []⟩])
        (.cond (.t 24)
          (.seq (some [4]) (.reg none [
            ⟨(some 4), .mov (.c (.bool false)), [], none, []⟩])
          .ret)
          .skip))))
      (.reg none [
        ⟨(some 25), .bin .add (.t 13) (.c (.int .i64 1)), [], none, []⟩
        , ⟨(some 13), .mov (.t 25), [], none, []⟩])))))))
  (.seq (some [4]) (.reg none [
    ⟨(some 4), .mov (.c (.bool true)), [], none, []⟩])
  .ret))))

def r_orderset_given : List ResA := [.t 2]
def c_orderset_given : AC := (.seq (some [0]) (.reg none [
    ⟨(some 2), .mov (.c (.sl [] .nil)), [], none, []⟩])
  (.seq (some [0, 3]) (.reg none [
    ⟨(some 3), .mov (.c (.sl [] .nil)), [], none, []⟩])
  (.seq (some [3]) (.seq (some [3, 5, 6]) (.reg none [
    ⟨(some 5), .mov (.t 0), [], none, []⟩
    , ⟨(some 6), .mov (.c (.int .i64 0)), [], none, []⟩])
  (.block 0
    (.loop (some [3, 5, 6])
      (.seq (some [3, 5, 6, 7]) (.reg none [
        ⟨(some 7), .bin .lss (.t 6) (.t 5), [], none, []⟩])
      (.seq (some [3, 5, 6]) (.cond (.t 7)
        .skip
        (.exit 0))
      (.seq (some [3, 5, 6]) (.block 1
        (.seq (some [3, 4, 5, 6]) (.reg none [
          ⟨(some 8), .mov (.t 6), [], none, []⟩
          , ⟨(some 4), .mov (.t 8), [], none, []⟩])
        (.reg none [
          ⟨(some 9), .mov (.t 3), [], none, []⟩
          , ⟨(some 10), .mov (.t 4), [], none, []⟩
          , ⟨(some 11), .lit 1 [(.int .i64 0)] 1 [(0, (.t 10))], [], none, []⟩
          , ⟨(some 12), .appB 1 8 (.t 9) (.t 11), [], none, []⟩
          , ⟨(some 3), .mov (.t 12), [], none, []⟩])))
      (.reg none [
        ⟨(some 13), .bin .add (.t 6) (.c (.int .i64 1)), [], none, []⟩
        , ⟨(some 6), .mov (.t 13), [], none, []⟩])))))))
  (.seq (some [2]) (.reg none [
    ⟨(some 14), .mov (.t 3), [], none, []⟩
    , ⟨(some 2), .mov (.t 14), [], none, []⟩])
  .ret))))

def r_orderset_orders : List ResA := [.t 2]
def c_orderset_orders : AC := (.seq (some [1]) (.reg none [
    ⟨(some 1), .box 1 (.t 0), [], none, []⟩
    , ⟨(some 2), .mov (.c .nilfn), [], none, []⟩])
  (.seq (some [2]) (.reg none [
    ⟨(some 3), .fnc n_orderset_orders_1 [(.t 1)], [], none, []⟩
    , ⟨(some 2), .mov (.t 3), [], none, []⟩])
  .ret))

def r_orderset_keeps : List ResA := [.t 6]
def c_orderset_keeps : AC := (.seq (some [0, 1, 5]) (.reg none [
    ⟨(some 5), .box 5 (.t 2), [], none, []⟩
    , ⟨(some 6), .mov (.c (.bool false)), [], none, []⟩])
  (.seq (some [0, 5, 7, 8]) (.reg none [
    ⟨(some 11), .mov (.t 0), [], none, []⟩
    , ⟨(some 12), .call n_orderset_places [(.t 11)], [], none, [.shr]⟩
    , ⟨(some 13), .mov (.t 1), [], none, []⟩
    , ⟨(some 14), .call n_orderset_places [(.t 13)], [], none, [.shr]⟩
    , ⟨(some 7), .alloc [(.int .i64 0), (.int .i64 0), (.int .i64 0), (.int .i64 0), (.int .i64 0)], [], none, []⟩
    , ⟨(some 8), .alloc [(.int .i64 0), (.int .i64 0), (.int .i64 0), (.int .i64 0), (.int .i64 0)], [], none, []⟩
    , ⟨none, .st 5 (.t 7) (.t 12), [], none, []⟩
    , ⟨none, .st 5 (.t 8) (.t 14), [], none, []⟩])
  (.seq (some []) (.seq (some [5, 7, 8, 16, 17]) (.reg none [
    ⟨(some 15), .mov (.t 0), [], none, []⟩
    , ⟨(some 16), .len (.t 15), [(.sl, (.t 15))], none, []⟩
    , ⟨(some 17), .mov (.c (.int .i64 0)), [], none, []⟩])
  (.block 0
    (.loop (some [5, 7, 8, 16, 17])
      (.seq (some [5, 7, 8, 16, 17, 18]) (.reg none [
        ⟨(some 18), .bin .lss (.t 17) (.t 16), [], none, []⟩])
      (.seq (some [5, 7, 8, 16, 17]) (.cond (.t 18)
        .skip
        (.exit 0))
      (.seq (some [5, 7, 8, 16, 17]) (.block 1
        (.seq (some [5, 7, 8, 9, 16, 17]) (.reg none [
          ⟨(some 19), .mov (.t 17), [], none, []⟩
          , ⟨(some 9), .mov (.t 19), [], none, []⟩])
        (.seq (some [5, 7, 8, 9, 16, 17, 20, 21]) (.reg none [
          ⟨(some 20), .mov (.t 9), [], none, []⟩
          , ⟨(some 21), .mov (.c (.int .i64 0)), [], none, []⟩])
        (.block 2
          (.loop (some [5, 7, 8, 9, 16, 17, 20, 21])
            (.seq (some [5, 7, 8, 9, 16, 17, 20, 21, 22]) (.reg none [
              ⟨(some 22), .bin .lss (.t 21) (.t 20), [], none, []⟩])
            (.seq (some [5, 7, 8, 9, 16, 17, 20, 21]) (.cond (.t 22)
              .skip
              (.exit 2))
            (.seq (some [5, 7, 8, 9, 16, 17, 20, 21]) (.block 3
              (.seq (some [5, 7, 8, 9, 10, 16, 17, 20, 21]) (.reg none [
                ⟨(some 23), .mov (.t 21), [], none, []⟩
                , ⟨(some 10), .mov (.t 23), [], none, []⟩])
              (.seq (some [5, 7, 8, 9, 16, 17, 20, 21, 48]) (.reg (some [[], [0], [1], [2], [3], [4, 3], [5, 3], [3, 6], [7, 3], [8], [9, 8], [10, 8], [8], [12, 8], [13, 8], [11, 14, 8], [8], [16, 8], [17, 8], [8], [19, 8], [20, 8], [18, 21, 8], [15, 22, 8], [8, 23]]) [
                ⟨(some 24), .mov (.t 9), [], none, []⟩
                , ⟨(some 25), .ixa 5 1 (.t 5) (.t 24), [], none, []⟩
                , ⟨(some 26), .ld none (.t 25), [], none, []⟩
                , ⟨(some 27), .mov (.t 26), [], none, []⟩
                , ⟨(some 28), .mov (.t 10), [], some (27, false), []⟩
                , ⟨(some 29), .ixa 5 1 (.t 5) (.t 28), [], some (27, false), []⟩
                , ⟨(some 30), .ld none (.t 29), [], some (27, false), []⟩
                , ⟨(some 31), .pick (.t 27) (.c (.bool true)) (.t 30), [], none, []⟩
                , ⟨(some 32), .mov (.t 31), [], none, []⟩
                , ⟨(some 33), .mov (.t 9), [], some (32, true), []⟩
                , ⟨(some 34), .ixa 5 1 (.t 7) (.t 33), [], some (32, true), []⟩
                , ⟨(some 35), .ld none (.t 34), [], some (32, true), []⟩
                , ⟨(some 36), .mov (.t 10), [], some (32, true), []⟩
                , ⟨(some 37), .ixa 5 1 (.t 7) (.t 36), [], some (32, true), []⟩
                , ⟨(some 38), .ld none (.t 37), [], some (32, true), []⟩
                , ⟨(some 39), .bin .lss (.t 35) (.t 38), [], some (32, true), []⟩
                , ⟨(some 40), .mov (.t 9), [], some (32, true), []⟩
                , ⟨(some 41), .ixa 5 1 (.t 8) (.t 40), [], some (32, true), []⟩
                , ⟨(some 42), .ld none (.t 41), [], some (32, true), []⟩
                , ⟨(some 43), .mov (.t 10), [], some (32, true), []⟩
                , ⟨(some 44), .ixa 5 1 (.t 8) (.t 43), [], some (32, true), []⟩
                , ⟨(some 45), .ld none (.t 44), [], some (32, true), []⟩
                , ⟨(some 46), .bin .lss (.t 42) (.t 45), [], some (32, true), []⟩
                , ⟨(some 47), .binB true (.t 39) (.t 46), [], some (32, true), []⟩
                , ⟨(some 48), .pick (.t 32) (.t 47) (.c (.bool false)), [], none, []⟩])
              (.cond (.t 48)
                (.seq (some [6]) (.reg none [
                  ⟨(some 6), .mov (.c (.bool false)), [], none, []⟩])
                .ret)
                .skip))))
            (.reg none [
              ⟨(some 49), .bin .add (.t 21) (.c (.int .i64 1)), [], none, []⟩
              , ⟨(some 21), .mov (.t 49), [], none, []⟩])))))))))
      (.reg none [
        ⟨(some 50), .bin .add (.t 17) (.c (.int .i64 1)), [], none, []⟩
        , ⟨(some 17), .mov (.t 50), [], none, []⟩])))))))
  (.seq (some [6]) (.reg none [
    ⟨(some 6), .mov (.c (.bool true)), [], none, []⟩])
  .ret))))

def r_slices_Clone___int_int_ : List ResA := [.t 2]
def c_slices_Clone___int_int_ : AC := (.seq (some [0]) (.reg none [
    ⟨(some 2), .mov (.c (.sl [] .nil)), [], none, []⟩])
  (.seq (some [0]) (.seq (some [0, 4]) (.reg none [
    ⟨(some 3), .mov (.t 0), [], none, []⟩
    , ⟨(some 4), .binN false (.t 3) (.c (.sl [] .nil)), [(.sl, (.t 3)), (.sl, (.c (.sl [] .nil)))], none, []⟩])
  (.cond (.t 4)
    (.seq (some [2]) (.reg none [
      ⟨(some 2), .mov (.c (.sl [] .nil)), [], none, []⟩])
    .ret)
    .skip))
  (.seq (some [2]) (.reg none [
    ⟨(some 5), .lit 1 [(.int .i64 0)] 0 [], [], none, []⟩
    , ⟨(some 6), .mov (.t 0), [], none, []⟩
    , ⟨(some 7), .app 1 8 (.t 5) (.t 6), [], none, []⟩
    , ⟨(some 2), .mov (.t 7), [], none, []⟩])
  .ret)))

def r_api_Word_ : List ResA := [.t 4]
def c_api_Word_ : AC := (.seq (some [0, 1]) (.reg none [
    ⟨(some 4), .mov (.c (.bool false)), [], none, []⟩])
  (.seq (some [0, 1]) (.seq (some [0, 1, 10]) (.reg none [
    ⟨(some 6), .mov (.t 0), [], none, []⟩
    , ⟨(some 7), .len (.t 6), [(.sl, (.t 6))], none, []⟩
    , ⟨(some 8), .mov (.t 1), [], none, []⟩
    , ⟨(some 9), .len (.t 8), [(.sl, (.t 8))], none, []⟩
    , ⟨(some 10), .bin .neq (.t 7) (.t 9), [], none, []⟩])
  (.cond (.t 10)
    (.seq (some [4]) (.reg none [
      ⟨(some 4), .mov (.c (.bool false)), [], none, []⟩])
    .ret)
    .skip))
  (.seq (some []) (.seq (some [0, 1, 12, 13]) (.reg none [
    ⟨(some 11), .mov (.t 0), [], none, []⟩
    , ⟨(some 12), .len (.t 11), [(.sl, (.t 11))], none, []⟩
    , ⟨(some 13), .mov (.c (.int .i64 0)), [], none, []⟩])
  (.block 0
    (.loop (some [0, 1, 12, 13])
      (.seq (some [0, 1, 12, 13, 14]) (.reg none [
        ⟨(some 14), .bin .lss (.t 13) (.t 12), [], none, []⟩])
      (.seq (some [0, 1, 12, 13]) (.cond (.t 14)
        .skip
        (.exit 0))
      (.seq (some [0, 1, 12, 13]) (.block 1
        (.seq (some [0, 1, 5, 12, 13]) (.reg none [
          ⟨(some 15), .mov (.t 13), [], none, []⟩
          , ⟨(some 5), .mov (.t 15), [], none, []⟩])
        (.seq (some [0, 1, 12, 13, 24]) (.reg (some [[], [], [0, 1], [2], [], [], [4, 5], [6], [3, 7]]) [
          ⟨(some 16), .mov (.t 0), [], none, []⟩
          , ⟨(some 17), .mov (.t 5), [], none, []⟩
          , ⟨(some 18), .ixs 4 (.t 16) (.t 17), [], none, []⟩
          , ⟨(some 19), .ld (some 4) (.t 18), [], none, []⟩
          , ⟨(some 20), .mov (.t 1), [], none, []⟩
          , ⟨(some 21), .mov (.t 5), [], none, []⟩
          , ⟨(some 22), .ixs 4 (.t 20) (.t 21), [], none, []⟩
          , ⟨(some 23), .ld (some 4) (.t 22), [], none, []⟩
          , ⟨(some 24), .eqA true [.s, .i .i64, .i .i64, .i .i64] (.t 19) (.t 23), [], none, []⟩])
        (.cond (.t 24)
          (.seq (some [4]) (.reg none [
            ⟨(some 4), .mov (.c (.bool false)), [], none, []⟩])
          .ret)
          .skip))))
      (.reg none [
        ⟨(some 25), .bin .add (.t 13) (.c (.int .i64 1)), [], none, []⟩
        , ⟨(some 13), .mov (.t 25), [], none, []⟩])))))))
  (.seq (some [4]) (.reg none [
    ⟨(some 4), .mov (.c (.bool true)), [], none, []⟩])
  .ret))))

def r_api_Unit__40 : List ResA := [.t 6]
def c_api_Unit__40 : AC := (.seq (some [0, 1, 2]) (.reg none [
    ⟨(some 6), .mov (.c (.bool false)), [], none, []⟩])
  (.seq (some [0, 1, 2]) (.seq (some [0, 1, 2, 14]) (.reg none [
    ⟨(some 10), .mov (.t 0), [], none, []⟩
    , ⟨(some 11), .len (.t 10), [(.sl, (.t 10))], none, []⟩
    , ⟨(some 12), .mov (.t 1), [], none, []⟩
    , ⟨(some 13), .len (.t 12), [(.sl, (.t 12))], none, []⟩
    , ⟨(some 14), .bin .neq (.t 11) (.t 13), [], none, []⟩])
  (.cond (.t 14)
    (.seq (some [6]) (.reg none [
      ⟨(some 6), .mov (.c (.bool false)), [], none, []⟩])
    .ret)
    .skip))
  (.seq (some []) (.seq (some [1, 2, 15, 16, 17]) (.reg none [
    ⟨(some 15), .mov (.t 0), [], none, []⟩
    , ⟨(some 16), .len (.t 15), [(.sl, (.t 15))], none, []⟩
    , ⟨(some 17), .mov (.c (.int .i64 0)), [], none, []⟩])
  (.block 0
    (.loop (some [1, 2, 15, 16, 17])
      (.seq (some [1, 2, 15, 16, 17, 18]) (.reg none [
        ⟨(some 18), .bin .lss (.t 17) (.t 16), [], none, []⟩])
      (.seq (some [1, 2, 15, 16, 17]) (.cond (.t 18)
        .skip
        (.exit 0))
      (.seq (some [1, 2, 15, 16, 17]) (.block 1
        (.seq (some [1, 2, 7, 8, 15, 16, 17]) (.reg none [
          ⟨(some 19), .mov (.t 17), [], none, []⟩
          , ⟨(some 20), .ixs 8 (.t 15) (.t 17), [], none, []⟩
          , ⟨(some 21), .ld (some 8) (.t 20), [], none, []⟩
          , ⟨(some 8), .alloc [(.int .i64 0), (.int .i64 0), (.int .i64 0), (.int .i64 0), (.str []), (.sl [] .nil), (.sl [] .nil), (.sl [] .nil)], [], none, []⟩
          , ⟨(some 7), .mov (.t 19), [], none, []⟩
          , ⟨none, .st 8 (.t 8) (.t 21), [], none, []⟩])
        (.seq (some [1, 2, 8, 9, 15, 16, 17]) (.reg none [
          ⟨(some 22), .mov (.t 1), [], none, []⟩
          , ⟨(some 23), .mov (.t 7), [], none, []⟩
          , ⟨(some 24), .ixs 8 (.t 22) (.t 23), [], none, []⟩
          , ⟨(some 25), .ld (some 8) (.t 24), [], none, []⟩
          , ⟨(some 9), .alloc [(.int .i64 0), (.int .i64 0), (.int .i64 0), (.int .i64 0), (.str []), (.sl [] .nil), (.sl [] .nil), (.sl [] .nil)], [], none, []⟩
          , ⟨none, .st 8 (.t 9) (.t 25), [], none, []⟩])
        (.seq (some [1, 2, 15, 16, 17, 30]) (.reg none [
          ⟨(some 26), .mov (.t 2), [], none, []⟩
          , ⟨(some 27), .ld (some 8) (.t 8), [], none, []⟩
          , ⟨(some 28), .ld (some 8) (.t 9), [], none, []⟩
          , ⟨(some 29), .calld (.t 26) [(.t 27), (.t 28)], [], none, []⟩
          , ⟨(some 30), .un .not (.t 29), [], none, []⟩])
        (.cond (.t 30)
          (.seq (some [6]) (.reg none [
            ⟨(some 6), .mov (.c (.bool false)), [], none, []⟩])
          .ret)
          .skip)))))
      (.reg none [
        ⟨(some 31), .bin .add (.t 17) (.c (.int .i64 1)), [], none, []⟩
        , ⟨(some 17), .mov (.t 31), [], none, []⟩])))))))
  (.seq (some [6]) (.reg none [
    ⟨(some 6), .mov (.c (.bool true)), [], none, []⟩])
  .ret))))

def r_pandectref06_Few : List ResA := [.t 4]
def c_pandectref06_Few : AC := (.seq (some [1, 2]) (.reg none [
    ⟨(some 2), .box 8 (.t 0), [], none, []⟩
    , ⟨(some 4), .mov (.c (.bool false)), [], none, []⟩])
  (.seq (some [4]) (.reg none [
    ⟨(some 5), .ld (some 8) (.t 2), [], none, []⟩
    , ⟨(some 6), .mov (.t 1), [], none, []⟩
    , ⟨(some 7), .call n_pandectref06_size [(.t 5), (.c (.int .i64 0)), (.t 6)], [], none, []⟩
    , ⟨(some 8), .mov (.t 1), [], none, []⟩
    , ⟨(some 9), .bin .leq (.t 7) (.t 8), [], none, []⟩
    , ⟨(some 10), .mov (.t 9), [], none, []⟩
    , ⟨(some 11), .ld (some 8) (.t 2), [], some (10, true), []⟩
    , ⟨(some 12), .call n_pandectref06_words [(.t 11)], [], some (10, true), []⟩
    , ⟨(some 13), .pick (.t 10) (.t 12) (.c (.bool false)), [], none, []⟩
    , ⟨(some 4), .mov (.t 13), [], none, []⟩])
  .ret))

def r_pandectref08_Stands : List ResA := [.t 2]
def c_pandectref08_Stands : AC := (.seq (some [1]) (.reg none [
    ⟨(some 1), .box 8 (.t 0), [], none, []⟩
    , ⟨(some 2), .mov (.c (.bool false)), [], none, []⟩])
  (.seq (some [2]) (.reg none [
    ⟨(some 3), .ld (some 8) (.t 1), [], none, []⟩
    , ⟨(some 4), .call n_pandectref06_May [(.t 3)], [], none, []⟩
    , ⟨(some 5), .mov (.t 4), [], none, []⟩
    , ⟨(some 6), .ld (some 8) (.t 1), [], some (5, true), []⟩
    , ⟨(some 7), .call n_pandectref08_named [(.t 6)], [], some (5, true), []⟩
    , ⟨(some 8), .pick (.t 5) (.t 7) (.c (.bool false)), [], none, []⟩
    , ⟨(some 2), .mov (.t 8), [], none, []⟩])
  .ret))

def r_pandectref17_Few : List ResA := [.t 2]
def c_pandectref17_Few : AC := (.seq (some [1]) (.reg none [
    ⟨(some 1), .box 25 (.t 0), [], none, []⟩
    , ⟨(some 2), .mov (.c (.bool false)), [], none, []⟩])
  (.seq (some [1]) (.seq (some [1, 67]) (.reg none [
    ⟨(some 9), .fad 1 (.t 1), [], none, []⟩
    , ⟨(some 10), .ld none (.t 9), [], none, []⟩
    , ⟨(some 11), .len (.t 10), [(.sl, (.t 10))], none, []⟩
    , ⟨(some 12), .bin .gtr (.t 11) (.c (.int .i64 12)), [], none, []⟩
    , ⟨(some 13), .mov (.t 12), [], none, []⟩
    , ⟨(some 14), .fad 2 (.t 1), [], some (13, false), []⟩
    , ⟨(some 15), .ld none (.t 14), [], some (13, false), []⟩
    , ⟨(some 16), .len (.t 15), [(.sl, (.t 15))], some (13, false), []⟩
    , ⟨(some 17), .bin .gtr (.t 16) (.c (.int .i64 12)), [], some (13, false), []⟩
    , ⟨(some 18), .pick (.t 13) (.c (.bool true)) (.t 17), [], none, []⟩
    , ⟨(some 19), .mov (.t 18), [], none, []⟩
    , ⟨(some 20), .fad 13 (.t 1), [], some (19, false), []⟩
    , ⟨(some 21), .ld none (.t 20), [], some (19, false), []⟩
    , ⟨(some 22), .len (.t 21), [(.sl, (.t 21))], some (19, false), []⟩
    , ⟨(some 23), .bin .gtr (.t 22) (.c (.int .i64 300)), [], some (19, false), []⟩
    , ⟨(some 24), .pick (.t 19) (.c (.bool true)) (.t 23), [], none, []⟩
    , ⟨(some 25), .mov (.t 24), [], none, []⟩
    , ⟨(some 26), .fad 14 (.t 1), [], some (25, false), []⟩
    , ⟨(some 27), .ld none (.t 26), [], some (25, false), []⟩
    , ⟨(some 28), .len (.t 27), [(.sl, (.t 27))], some (25, false), []⟩
    , ⟨(some 29), .bin .gtr (.t 28) (.c (.int .i64 300)), [], some (25, false), []⟩
    , ⟨(some 30), .pick (.t 25) (.c (.bool true)) (.t 29), [], none, []⟩
    , ⟨(some 31), .mov (.t 30), [], none, []⟩
    , ⟨(some 32), .fad 15 (.t 1), [], some (31, false), []⟩
    , ⟨(some 33), .ld none (.t 32), [], some (31, false), []⟩
    , ⟨(some 34), .len (.t 33), [(.st, (.t 33))], some (31, false), []⟩
    , ⟨(some 35), .bin .gtr (.t 34) (.c (.int .i64 100)), [], some (31, false), []⟩
    , ⟨(some 36), .pick (.t 31) (.c (.bool true)) (.t 35), [], none, []⟩
    , ⟨(some 37), .mov (.t 36), [], none, []⟩
    , ⟨(some 38), .fad 16 (.t 1), [], some (37, false), []⟩
    , ⟨(some 39), .ld none (.t 38), [], some (37, false), []⟩
    , ⟨(some 40), .len (.t 39), [(.st, (.t 39))], some (37, false), []⟩
    , ⟨(some 41), .bin .gtr (.t 40) (.c (.int .i64 100)), [], some (37, false), []⟩
    , ⟨(some 42), .pick (.t 37) (.c (.bool true)) (.t 41), [], none, []⟩
    , ⟨(some 43), .mov (.t 42), [], none, []⟩
    , ⟨(some 44), .fad 17 (.t 1), [], some (43, false), []⟩
    , ⟨(some 45), .fad 2 (.t 44), [], some (43, false), []⟩
    , ⟨(some 46), .ld none (.t 45), [], some (43, false), []⟩
    , ⟨(some 47), .len (.t 46), [(.st, (.t 46))], some (43, false), []⟩
    , ⟨(some 48), .bin .gtr (.t 47) (.c (.int .i64 100)), [], some (43, false), []⟩
    , ⟨(some 49), .pick (.t 43) (.c (.bool true)) (.t 48), [], none, []⟩
    , ⟨(some 50), .mov (.t 49), [], none, []⟩
    , ⟨(some 51), .fad 23 (.t 1), [], some (50, false), []⟩
    , ⟨(some 52), .ld none (.t 51), [], some (50, false), []⟩
    , ⟨(some 53), .len (.t 52), [(.st, (.t 52))], some (50, false), []⟩
    , ⟨(some 54), .bin .gtr (.t 53) (.c (.int .i64 100)), [], some (50, false), []⟩
    , ⟨(some 55), .pick (.t 50) (.c (.bool true)) (.t 54), [], none, []⟩
    , ⟨(some 56), .mov (.t 55), [], none, []⟩
    , ⟨(some 57), .fad 24 (.t 1), [], some (56, false), []⟩
    , ⟨(some 58), .ld none (.t 57), [], some (56, false), []⟩
    , ⟨(some 59), .len (.t 58), [(.sl, (.t 58))], some (56, false), []⟩
    , ⟨(some 60), .bin .gtr (.t 59) (.c (.int .i64 2)), [], some (56, false), []⟩
    , ⟨(some 61), .pick (.t 56) (.c (.bool true)) (.t 60), [], none, []⟩
    , ⟨(some 62), .mov (.t 61), [], none, []⟩
    , ⟨(some 63), .fad 5 (.t 1), [], some (62, false), []⟩
    , ⟨(some 64), .ld (some 8) (.t 63), [], some (62, false), []⟩
    , ⟨(some 65), .call n_pandectref06_Few [(.t 64), (.c (.int .i64 30))], [], some (62, false), []⟩
    , ⟨(some 66), .un .not (.t 65), [], some (62, false), []⟩
    , ⟨(some 67), .pick (.t 62) (.c (.bool true)) (.t 66), [], none, []⟩])
  (.cond (.t 67)
    (.seq (some [2]) (.reg none [
      ⟨(some 2), .mov (.c (.bool false)), [], none, []⟩])
    .ret)
    .skip))
  (.seq (some [1]) (.seq (some [1, 3]) (.reg none [
    ⟨(some 3), .mov (.c (.int .i64 0)), [], none, []⟩])
  (.block 0
    (.loop (some [1, 3])
      (.seq (some [1, 3]) (.seq (some [1, 3, 72]) (.reg none [
        ⟨(some 68), .mov (.t 3), [], none, []⟩
        , ⟨(some 69), .fad 13 (.t 1), [], none, []⟩
        , ⟨(some 70), .ld none (.t 69), [], none, []⟩
        , ⟨(some 71), .len (.t 70), [(.sl, (.t 70))], none, []⟩
        , ⟨(some 72), .bin .lss (.t 68) (.t 71), [], none, []⟩])
      (.cond (.t 72)
        .skip
        (.exit 0)))
      (.seq (some [1, 3]) (.block 1
        (.seq (some [1, 3, 81]) (.reg none [
          ⟨(some 75), .fad 13 (.t 1), [], none, []⟩
          , ⟨(some 76), .ld none (.t 75), [], none, []⟩
          , ⟨(some 77), .mov (.t 3), [], none, []⟩
          , ⟨(some 78), .ixs 1 (.t 76) (.t 77), [], none, []⟩
          , ⟨(some 79), .ld none (.t 78), [], none, []⟩
          , ⟨(some 80), .len (.t 79), [(.st, (.t 79))], none, []⟩
          , ⟨(some 81), .bin .gtr (.t 80) (.c (.int .i64 100)), [], none, []⟩])
        (.cond (.t 81)
          (.seq (some [2]) (.reg none [
            ⟨(some 2), .mov (.c (.bool false)), [], none, []⟩])
          .ret)
          .skip)))
      (.reg none [
        ⟨(some 73), .mov (.t 3), [], none, []⟩
        , ⟨(some 74), .bin .add (.t 73) (.c (.int .i64 1)), [], none, []⟩
        , ⟨(some 3), .mov (.t 74), [], none, []⟩]))))))
  (.seq (some [1]) (.seq (some [1, 4]) (.reg none [
    ⟨(some 4), .mov (.c (.int .i64 0)), [], none, []⟩])
  (.block 2
    (.loop (some [1, 4])
      (.seq (some [1, 4]) (.seq (some [1, 4, 86]) (.reg none [
        ⟨(some 82), .mov (.t 4), [], none, []⟩
        , ⟨(some 83), .fad 14 (.t 1), [], none, []⟩
        , ⟨(some 84), .ld none (.t 83), [], none, []⟩
        , ⟨(some 85), .len (.t 84), [(.sl, (.t 84))], none, []⟩
        , ⟨(some 86), .bin .lss (.t 82) (.t 85), [], none, []⟩])
      (.cond (.t 86)
        .skip
        (.exit 2)))
      (.seq (some [1, 4]) (.block 3
        (.seq (some [1, 4, 95]) (.reg none [
          ⟨(some 89), .fad 14 (.t 1), [], none, []⟩
          , ⟨(some 90), .ld none (.t 89), [], none, []⟩
          , ⟨(some 91), .mov (.t 4), [], none, []⟩
          , ⟨(some 92), .ixs 1 (.t 90) (.t 91), [], none, []⟩
          , ⟨(some 93), .ld none (.t 92), [], none, []⟩
          , ⟨(some 94), .len (.t 93), [(.st, (.t 93))], none, []⟩
          , ⟨(some 95), .bin .gtr (.t 94) (.c (.int .i64 100)), [], none, []⟩])
        (.cond (.t 95)
          (.seq (some [2]) (.reg none [
            ⟨(some 2), .mov (.c (.bool false)), [], none, []⟩])
          .ret)
          .skip)))
      (.reg none [
        ⟨(some 87), .mov (.t 4), [], none, []⟩
        , ⟨(some 88), .bin .add (.t 87) (.c (.int .i64 1)), [], none, []⟩
        , ⟨(some 4), .mov (.t 88), [], none, []⟩]))))))
  (.seq (some [1]) (.seq (some [1, 5]) (.reg none [
    ⟨(some 5), .mov (.c (.int .i64 0)), [], none, []⟩])
  (.block 4
    (.loop (some [1, 5])
      (.seq (some [1, 5]) (.seq (some [1, 5, 100]) (.reg none [
        ⟨(some 96), .mov (.t 5), [], none, []⟩
        , ⟨(some 97), .fad 1 (.t 1), [], none, []⟩
        , ⟨(some 98), .ld none (.t 97), [], none, []⟩
        , ⟨(some 99), .len (.t 98), [(.sl, (.t 98))], none, []⟩
        , ⟨(some 100), .bin .lss (.t 96) (.t 99), [], none, []⟩])
      (.cond (.t 100)
        .skip
        (.exit 4)))
      (.seq (some [1, 5]) (.block 5
        (.seq (some [1, 5, 110]) (.reg none [
          ⟨(some 103), .fad 1 (.t 1), [], none, []⟩
          , ⟨(some 104), .ld none (.t 103), [], none, []⟩
          , ⟨(some 105), .mov (.t 5), [], none, []⟩
          , ⟨(some 106), .ixs 2 (.t 104) (.t 105), [], none, []⟩
          , ⟨(some 107), .fad 1 (.t 106), [], none, []⟩
          , ⟨(some 108), .ld none (.t 107), [], none, []⟩
          , ⟨(some 109), .len (.t 108), [(.st, (.t 108))], none, []⟩
          , ⟨(some 110), .bin .gtr (.t 109) (.c (.int .i64 100)), [], none, []⟩])
        (.cond (.t 110)
          (.seq (some [2]) (.reg none [
            ⟨(some 2), .mov (.c (.bool false)), [], none, []⟩])
          .ret)
          .skip)))
      (.reg none [
        ⟨(some 101), .mov (.t 5), [], none, []⟩
        , ⟨(some 102), .bin .add (.t 101) (.c (.int .i64 1)), [], none, []⟩
        , ⟨(some 5), .mov (.t 102), [], none, []⟩]))))))
  (.seq (some [1]) (.seq (some [1, 6]) (.reg none [
    ⟨(some 6), .mov (.c (.int .i64 0)), [], none, []⟩])
  (.block 6
    (.loop (some [1, 6])
      (.seq (some [1, 6]) (.seq (some [1, 6, 115]) (.reg none [
        ⟨(some 111), .mov (.t 6), [], none, []⟩
        , ⟨(some 112), .fad 2 (.t 1), [], none, []⟩
        , ⟨(some 113), .ld none (.t 112), [], none, []⟩
        , ⟨(some 114), .len (.t 113), [(.sl, (.t 113))], none, []⟩
        , ⟨(some 115), .bin .lss (.t 111) (.t 114), [], none, []⟩])
      (.cond (.t 115)
        .skip
        (.exit 6)))
      (.seq (some [1, 6]) (.block 7
        (.seq (some [1, 6, 125]) (.reg none [
          ⟨(some 118), .fad 2 (.t 1), [], none, []⟩
          , ⟨(some 119), .ld none (.t 118), [], none, []⟩
          , ⟨(some 120), .mov (.t 6), [], none, []⟩
          , ⟨(some 121), .ixs 2 (.t 119) (.t 120), [], none, []⟩
          , ⟨(some 122), .fad 1 (.t 121), [], none, []⟩
          , ⟨(some 123), .ld none (.t 122), [], none, []⟩
          , ⟨(some 124), .len (.t 123), [(.st, (.t 123))], none, []⟩
          , ⟨(some 125), .bin .gtr (.t 124) (.c (.int .i64 100)), [], none, []⟩])
        (.cond (.t 125)
          (.seq (some [2]) (.reg none [
            ⟨(some 2), .mov (.c (.bool false)), [], none, []⟩])
          .ret)
          .skip)))
      (.reg none [
        ⟨(some 116), .mov (.t 6), [], none, []⟩
        , ⟨(some 117), .bin .add (.t 116) (.c (.int .i64 1)), [], none, []⟩
        , ⟨(some 6), .mov (.t 117), [], none, []⟩]))))))
  (.seq (some []) (.seq (some [1, 7]) (.reg none [
    ⟨(some 7), .mov (.c (.int .i64 0)), [], none, []⟩])
  (.block 8
    (.loop (some [1, 7])
      (.seq (some [1, 7]) (.seq (some [1, 7, 130]) (.reg none [
        ⟨(some 126), .mov (.t 7), [], none, []⟩
        , ⟨(some 127), .fad 24 (.t 1), [], none, []⟩
        , ⟨(some 128), .ld none (.t 127), [], none, []⟩
        , ⟨(some 129), .len (.t 128), [(.sl, (.t 128))], none, []⟩
        , ⟨(some 130), .bin .lss (.t 126) (.t 129), [], none, []⟩])
      (.cond (.t 130)
        .skip
        (.exit 8)))
      (.seq (some [1, 7]) (.block 9
        (.seq (some [1, 7]) (.seq (some [1, 7, 8]) (.reg none [
          ⟨(some 8), .mov (.c (.int .i64 0)), [], none, []⟩])
        (.block 10
          (.loop (some [1, 7, 8])
            (.seq (some [1, 7, 8]) (.seq (some [1, 7, 8, 141]) (.reg none [
              ⟨(some 133), .mov (.t 8), [], none, []⟩
              , ⟨(some 134), .fad 24 (.t 1), [], none, []⟩
              , ⟨(some 135), .ld none (.t 134), [], none, []⟩
              , ⟨(some 136), .mov (.t 7), [], none, []⟩
              , ⟨(some 137), .ixs 25 (.t 135) (.t 136), [], none, []⟩
              , ⟨(some 138), .fad 24 (.t 137), [], none, []⟩
              , ⟨(some 139), .ld none (.t 138), [], none, []⟩
              , ⟨(some 140), .len (.t 139), [(.sl, (.t 139))], none, []⟩
              , ⟨(some 141), .bin .lss (.t 133) (.t 140), [], none, []⟩])
            (.cond (.t 141)
              .skip
              (.exit 10)))
            (.seq (some [1, 7, 8]) (.block 11
              (.seq (some [1, 7, 8, 155]) (.reg none [
                ⟨(some 144), .fad 24 (.t 1), [], none, []⟩
                , ⟨(some 145), .ld none (.t 144), [], none, []⟩
                , ⟨(some 146), .mov (.t 7), [], none, []⟩
                , ⟨(some 147), .ixs 25 (.t 145) (.t 146), [], none, []⟩
                , ⟨(some 148), .fad 24 (.t 147), [], none, []⟩
                , ⟨(some 149), .ld none (.t 148), [], none, []⟩
                , ⟨(some 150), .mov (.t 8), [], none, []⟩
                , ⟨(some 151), .ixs 25 (.t 149) (.t 150), [], none, []⟩
                , ⟨(some 152), .fad 24 (.t 151), [], none, []⟩
                , ⟨(some 153), .ld none (.t 152), [], none, []⟩
                , ⟨(some 154), .len (.t 153), [(.sl, (.t 153))], none, []⟩
                , ⟨(some 155), .bin .gtr (.t 154) (.c (.int .i64 0)), [], none, []⟩])
              (.cond (.t 155)
                (.seq (some [2]) (.reg none [
                  ⟨(some 2), .mov (.c (.bool false)), [], none, []⟩])
                .ret)
                .skip)))
            (.reg none [
              ⟨(some 142), .mov (.t 8), [], none, []⟩
              , ⟨(some 143), .bin .add (.t 142) (.c (.int .i64 1)), [], none, []⟩
              , ⟨(some 8), .mov (.t 143), [], none, []⟩]))))))
        (.seq (some [1, 7, 162]) (.reg none [
          ⟨(some 156), .fad 24 (.t 1), [], none, []⟩
          , ⟨(some 157), .ld none (.t 156), [], none, []⟩
          , ⟨(some 158), .mov (.t 7), [], none, []⟩
          , ⟨(some 159), .ixs 25 (.t 157) (.t 158), [], none, []⟩
          , ⟨(some 160), .ld (some 25) (.t 159), [], none, []⟩
          , ⟨(some 161), .call n_pandectref17_Few [(.t 160)], [], none, []⟩
          , ⟨(some 162), .un .not (.t 161), [], none, []⟩])
        (.cond (.t 162)
          (.seq (some [2]) (.reg none [
            ⟨(some 2), .mov (.c (.bool false)), [], none, []⟩])
          .ret)
          .skip))))
      (.reg none [
        ⟨(some 131), .mov (.t 7), [], none, []⟩
        , ⟨(some 132), .bin .add (.t 131) (.c (.int .i64 1)), [], none, []⟩
        , ⟨(some 7), .mov (.t 132), [], none, []⟩]))))))
  (.seq (some [2]) (.reg none [
    ⟨(some 2), .mov (.c (.bool true)), [], none, []⟩])
  .ret))))))))

def r_syntax_IsAmendment : List ResA := [.t 2]
def c_syntax_IsAmendment : AC := (.seq (some [0]) (.reg none [
    ⟨(some 2), .mov (.c (.bool false)), [], none, []⟩])
  (.seq (some [2]) (.reg none [
    ⟨(some 3), .mov (.t 0), [], none, []⟩
    , ⟨(some 4), .bin .geq (.t 3) (.c (.int .i64 0)), [], none, []⟩
    , ⟨(some 5), .mov (.t 4), [], none, []⟩
    , ⟨(some 6), .mov (.t 0), [], some (5, true), []⟩
    , ⟨(some 7), .bin .leq (.t 6) (.c (.int .i64 6)), [], some (5, true), []⟩
    , ⟨(some 8), .pick (.t 5) (.t 7) (.c (.bool false)), [], none, []⟩
    , ⟨(some 2), .mov (.t 8), [], none, []⟩])
  .ret))

def r_enact_Apply : List ResA := [.c (some 8) 4, .t 5]
def c_enact_Apply : AC := (.seq (some [2, 3, 4]) (.reg none [
    ⟨(some 2), .box 8 (.t 0), [], none, []⟩
    , ⟨(some 3), .box 28 (.t 1), [], none, []⟩
    , ⟨(some 4), .alloc [(.int .i64 0), (.int .i64 0), (.int .i64 0), (.int .i64 0), (.str []), (.sl [] .nil), (.sl [] .nil), (.sl [] .nil)], [], none, []⟩
    , ⟨(some 5), .mov (.c (.int .i64 0)), [], none, []⟩])
  (.seq (some [2, 3, 4, 6, 7]) (.reg (some [[], [], [1], [2], [0, 3], [4], [5], [5], [6, 0, 0, 1, 2, 3, 4, 5, 6], [7, 8, 0, 1, 2, 3, 4, 5, 6, 7, 8]]) [
    ⟨(some 15), .call n_enact_doers [], [], none, []⟩
    , ⟨(some 16), .fad 3 (.t 3), [], none, []⟩
    , ⟨(some 17), .fad 0 (.t 16), [], none, []⟩
    , ⟨(some 18), .ld none (.t 17), [], none, []⟩
    , ⟨(some 19), .look false [.i .i64] .nilfn true (.t 15) (.t 18), [], none, []⟩
    , ⟨(some 14), .mov (.t 19), [], none, []⟩
    , ⟨(some 20), .ext (.t 14) 0, [], none, []⟩
    , ⟨(some 21), .ext (.t 14) 1, [], none, []⟩
    , ⟨(some 6), .mov (.t 20), [], none, []⟩
    , ⟨(some 7), .mov (.t 21), [], none, []⟩])
  (.seq (some [2, 3, 4, 6]) (.seq (some [2, 3, 4, 6, 29]) (.reg none [
    ⟨(some 22), .mov (.t 7), [], none, []⟩
    , ⟨(some 23), .un .not (.t 22), [], none, []⟩
    , ⟨(some 24), .mov (.t 23), [], none, []⟩
    , ⟨(some 25), .fad 3 (.t 3), [], some (24, false), []⟩
    , ⟨(some 26), .ld (some 25) (.t 25), [], some (24, false), []⟩
    , ⟨(some 27), .call n_syntax_Valid [(.t 26)], [], some (24, false), []⟩
    , ⟨(some 28), .un .not (.t 27), [], some (24, false), []⟩
    , ⟨(some 29), .pick (.t 24) (.c (.bool true)) (.t 28), [], none, []⟩])
  (.cond (.t 29)
    (.seq (some [4, 5]) (.reg none [
      ⟨(some 30), .ld (some 8) (.t 2), [], none, []⟩
      , ⟨none, .st 8 (.t 4) (.t 30), [], none, []⟩
      , ⟨(some 5), .mov (.c (.int .i64 1)), [], none, []⟩])
    .ret)
    .skip))
  (.seq (some [2, 3, 4, 6, 8, 9]) (.reg none [
    ⟨(some 32), .ld (some 8) (.t 2), [], none, []⟩
    , ⟨(some 33), .fad 3 (.t 3), [], none, []⟩
    , ⟨(some 34), .fad 1 (.t 33), [], none, []⟩
    , ⟨(some 35), .ld none (.t 34), [], none, []⟩
    , ⟨(some 36), .call n_address_FindOne [(.t 32), (.t 35)], [], none, []⟩
    , ⟨(some 31), .mov (.t 36), [], none, []⟩
    , ⟨(some 37), .ext (.t 31) 0, [], none, []⟩
    , ⟨(some 38), .ext (.t 31) 1, [], none, []⟩
    , ⟨(some 8), .alloc [(.int .i64 0), (.int .i64 0), (.int .i64 0)], [], none, []⟩
    , ⟨none, .st 3 (.t 8) (.t 37), [], none, []⟩
    , ⟨(some 9), .mov (.t 38), [], none, []⟩])
  (.seq (some [2, 3, 4, 6, 8]) (.seq (some [2, 3, 4, 6, 8, 9, 40]) (.reg none [
    ⟨(some 39), .mov (.t 9), [], none, []⟩
    , ⟨(some 40), .bin .neq (.t 39) (.c (.int .i64 0)), [], none, []⟩])
  (.cond (.t 40)
    (.seq (some [4, 5]) (.reg none [
      ⟨(some 41), .ld (some 8) (.t 2), [], none, []⟩
      , ⟨(some 42), .mov (.t 9), [], none, []⟩
      , ⟨none, .st 8 (.t 4) (.t 41), [], none, []⟩
      , ⟨(some 5), .mov (.t 42), [], none, []⟩])
    .ret)
    .skip))
  (.seq (some [2, 3, 4, 6, 8, 10]) (.reg none [
    ⟨(some 44), .ld (some 8) (.t 2), [], none, []⟩
    , ⟨(some 45), .ld (some 3) (.t 8), [], none, []⟩
    , ⟨(some 46), .call n_unit_Find [(.t 44), (.t 45)], [], none, []⟩
    , ⟨(some 43), .mov (.t 46), [], none, []⟩
    , ⟨(some 47), .ext (.t 43) 0, [], none, []⟩
    , ⟨(some 48), .ext (.t 43) 1, [], none, []⟩
    , ⟨(some 10), .alloc [(.int .i64 0), (.int .i64 0), (.int .i64 0), (.int .i64 0), (.str []), (.sl [] .nil), (.sl [] .nil), (.sl [] .nil)], [], none, []⟩
    , ⟨none, .st 8 (.t 10) (.t 47), [], none, []⟩
    , ⟨(some 11), .mov (.t 48), [], none, []⟩])
  (.seq (some [2, 3, 4]) (.seq (some [2, 3, 4, 6, 10, 58]) (.reg none [
    ⟨(some 49), .ld (some 3) (.t 8), [], none, []⟩
    , ⟨(some 50), .fad 0 (.t 2), [], none, []⟩
    , ⟨(some 51), .ld (some 3) (.t 50), [], none, []⟩
    , ⟨(some 52), .eqA true [.i .i64, .i .i64, .i .i64] (.t 49) (.t 51), [], none, []⟩
    , ⟨(some 53), .mov (.t 52), [], none, []⟩
    , ⟨(some 54), .fad 3 (.t 3), [], some (53, false), []⟩
    , ⟨(some 55), .fad 0 (.t 54), [], some (53, false), []⟩
    , ⟨(some 56), .ld none (.t 55), [], some (53, false), []⟩
    , ⟨(some 57), .bin .eql (.t 56) (.c (.int .i64 0)), [], some (53, false), []⟩
    , ⟨(some 58), .pick (.t 53) (.c (.bool true)) (.t 57), [], none, []⟩])
  (.cond (.t 58)
    (.seq (some [4, 5]) (.reg none [
      ⟨(some 59), .mov (.t 6), [], none, []⟩
      , ⟨(some 60), .ld (some 8) (.t 2), [], none, []⟩
      , ⟨(some 61), .ld (some 8) (.t 10), [], none, []⟩
      , ⟨(some 62), .ld (some 28) (.t 3), [], none, []⟩
      , ⟨(some 63), .calld (.t 59) [(.t 60), (.t 61), (.t 62)], [], none, []⟩
      , ⟨(some 64), .ext (.t 63) 0, [], none, []⟩
      , ⟨(some 65), .ext (.t 63) 1, [], none, []⟩
      , ⟨none, .st 8 (.t 4) (.t 64), [], none, []⟩
      , ⟨(some 5), .mov (.t 65), [], none, []⟩])
    .ret)
    .skip))
  (.seq (some [2, 4]) (.seq (some [2, 3, 4, 69]) (.reg none [
    ⟨(some 66), .fad 3 (.t 3), [], none, []⟩
    , ⟨(some 67), .fad 0 (.t 66), [], none, []⟩
    , ⟨(some 68), .ld none (.t 67), [], none, []⟩
    , ⟨(some 69), .bin .eql (.t 68) (.c (.int .i64 6)), [], none, []⟩])
  (.cond (.t 69)
    (.seq (some [2, 4, 13]) (.reg none [
      ⟨(some 71), .ld (some 8) (.t 2), [], none, []⟩
      , ⟨(some 72), .fad 3 (.t 3), [], none, []⟩
      , ⟨(some 73), .fad 2 (.t 72), [], none, []⟩
      , ⟨(some 74), .ld none (.t 73), [], none, []⟩
      , ⟨(some 75), .call n_address_FindOne [(.t 71), (.t 74)], [], none, []⟩
      , ⟨(some 70), .mov (.t 75), [], none, []⟩
      , ⟨(some 76), .ext (.t 70) 0, [], none, []⟩
      , ⟨(some 77), .ext (.t 70) 1, [], none, []⟩
      , ⟨(some 12), .alloc [(.int .i64 0), (.int .i64 0), (.int .i64 0)], [], none, []⟩
      , ⟨none, .st 3 (.t 12) (.t 76), [], none, []⟩
      , ⟨(some 13), .mov (.t 77), [], none, []⟩])
    (.seq (some [2, 4, 13, 79]) (.reg none [
      ⟨(some 78), .mov (.t 13), [], none, []⟩
      , ⟨(some 79), .bin .neq (.t 78) (.c (.int .i64 0)), [], none, []⟩])
    (.cond (.t 79)
      (.seq (some [4, 5]) (.reg none [
        ⟨(some 80), .ld (some 8) (.t 2), [], none, []⟩
        , ⟨(some 81), .mov (.t 13), [], none, []⟩
        , ⟨none, .st 8 (.t 4) (.t 80), [], none, []⟩
        , ⟨(some 5), .mov (.t 81), [], none, []⟩])
      .ret)
      .skip)))
    .skip))
  (.seq (some [4, 5]) (.reg none [
    ⟨(some 82), .ld (some 8) (.t 2), [], none, []⟩
    , ⟨none, .st 8 (.t 4) (.t 82), [], none, []⟩
    , ⟨(some 5), .mov (.c (.int .i64 9)), [], none, []⟩])
  .ret)))))))))

def r_orderset_book : List ResA := [.c (some 8) 6]
def c_orderset_book : AC := (.seq (some [1, 2, 3, 6]) (.reg none [
    ⟨(some 3), .box 8 (.t 0), [], none, []⟩
    , ⟨(some 6), .alloc [(.int .i64 0), (.int .i64 0), (.int .i64 0), (.int .i64 0), (.str []), (.sl [] .nil), (.sl [] .nil), (.sl [] .nil)], [], none, []⟩])
  (.seq (some [3, 6]) (.seq (some [2, 3, 6, 9, 10, 11]) (.reg none [
    ⟨(some 9), .mov (.t 1), [], none, []⟩
    , ⟨(some 10), .len (.t 9), [(.sl, (.t 9))], none, []⟩
    , ⟨(some 11), .mov (.c (.int .i64 0)), [], none, []⟩])
  (.block 0
    (.loop (some [2, 3, 6, 9, 10, 11])
      (.seq (some [2, 3, 6, 9, 10, 11, 12]) (.reg none [
        ⟨(some 12), .bin .lss (.t 11) (.t 10), [], none, []⟩])
      (.seq (some [2, 3, 6, 9, 10, 11]) (.cond (.t 12)
        .skip
        (.exit 0))
      (.seq (some [2, 3, 6, 9, 10, 11]) (.block 1
        (.seq (some [2, 3, 6, 8, 9, 10, 11]) (.reg none [
          ⟨(some 13), .ixs 1 (.t 9) (.t 11), [], none, []⟩
          , ⟨(some 14), .ld none (.t 13), [], none, []⟩
          , ⟨(some 8), .mov (.t 14), [], none, []⟩])
        (.reg (some [[], [], [], [1, 2], [3], [0, 4], [5], [6], [6], [7, 5, 0, 1, 2, 3, 4, 5, 6, 7]]) [
          ⟨(some 16), .ld (some 8) (.t 3), [], none, []⟩
          , ⟨(some 17), .mov (.t 2), [], none, []⟩
          , ⟨(some 18), .mov (.t 8), [], none, []⟩
          , ⟨(some 19), .ixs 7 (.t 17) (.t 18), [], none, []⟩
          , ⟨(some 20), .ld (some 7) (.t 19), [], none, []⟩
          , ⟨(some 21), .call n_enact_ApplyAct [(.t 16), (.t 20)], [], none, []⟩
          , ⟨(some 15), .mov (.t 21), [], none, []⟩
          , ⟨(some 22), .ext (.t 15) 0, [], none, []⟩
          , ⟨(some 23), .ext (.t 15) 1, [], none, []⟩
          , ⟨none, .st 8 (.t 3) (.t 22), [], none, []⟩])))
      (.reg none [
        ⟨(some 24), .bin .add (.t 11) (.c (.int .i64 1)), [], none, []⟩
        , ⟨(some 11), .mov (.t 24), [], none, []⟩])))))))
  (.seq (some [6]) (.reg none [
    ⟨(some 25), .ld (some 8) (.t 3), [], none, []⟩
    , ⟨none, .st 8 (.t 6) (.t 25), [], none, []⟩])
  .ret)))

def r_cmp_Compare_int_ : List ResA := [.t 4]
def c_cmp_Compare_int_ : AC := (.seq (some [0, 1]) (.reg none [
    ⟨(some 4), .mov (.c (.int .i64 0)), [], none, []⟩])
  (.seq (some [0, 1, 5]) (.reg none [
    ⟨(some 7), .mov (.t 0), [], none, []⟩
    , ⟨(some 8), .call n_cmp_isNaN_int_ [(.t 7)], [], none, []⟩
    , ⟨(some 5), .mov (.t 8), [], none, []⟩])
  (.seq (some [0, 1, 5, 6]) (.reg none [
    ⟨(some 9), .mov (.t 1), [], none, []⟩
    , ⟨(some 10), .call n_cmp_isNaN_int_ [(.t 9)], [], none, []⟩
    , ⟨(some 6), .mov (.t 10), [], none, []⟩])
  (.seq (some [0, 1, 6]) (.seq (some [0, 1, 6, 11]) (.reg none [
    ⟨(some 11), .mov (.t 5), [], none, []⟩])
  (.cond (.t 11)
    (.seq (some []) (.seq (some [12]) (.reg none [
      ⟨(some 12), .mov (.t 6), [], none, []⟩])
    (.cond (.t 12)
      (.seq (some [4]) (.reg none [
        ⟨(some 4), .mov (.c (.int .i64 0)), [], none, []⟩])
      .ret)
      .skip))
    (.seq (some [4]) (.reg none [
      ⟨(some 4), .mov (.c (.int .i64 (-1))), [], none, []⟩])
    .ret))
    .skip))
  (.seq (some [0, 1]) (.seq (some [0, 1, 13]) (.reg none [
    ⟨(some 13), .mov (.t 6), [], none, []⟩])
  (.cond (.t 13)
    (.seq (some [4]) (.reg none [
      ⟨(some 4), .mov (.c (.int .i64 1)), [], none, []⟩])
    .ret)
    .skip))
  (.seq (some [0, 1]) (.seq (some [0, 1, 16]) (.reg none [
    ⟨(some 14), .mov (.t 0), [], none, []⟩
    , ⟨(some 15), .mov (.t 1), [], none, []⟩
    , ⟨(some 16), .bin .lss (.t 14) (.t 15), [], none, []⟩])
  (.cond (.t 16)
    (.seq (some [4]) (.reg none [
      ⟨(some 4), .mov (.c (.int .i64 (-1))), [], none, []⟩])
    .ret)
    .skip))
  (.seq (some []) (.seq (some [19]) (.reg none [
    ⟨(some 17), .mov (.t 0), [], none, []⟩
    , ⟨(some 18), .mov (.t 1), [], none, []⟩
    , ⟨(some 19), .bin .gtr (.t 17) (.t 18), [], none, []⟩])
  (.cond (.t 19)
    (.seq (some [4]) (.reg none [
      ⟨(some 4), .mov (.c (.int .i64 1)), [], none, []⟩])
    .ret)
    .skip))
  (.seq (some [4]) (.reg none [
    ⟨(some 4), .mov (.c (.int .i64 0)), [], none, []⟩])
  .ret))))))))

def r_api_Unit__48 : List ResA := [.t 4]
def c_api_Unit__48 : AC := (.seq (some [0, 1]) (.reg none [
    ⟨(some 4), .mov (.c (.int .i64 0)), [], none, []⟩])
  (.seq (some []) (.seq (some [0, 1, 7, 8]) (.reg none [
    ⟨(some 6), .mov (.t 0), [], none, []⟩
    , ⟨(some 7), .len (.t 6), [(.sl, (.t 6))], none, []⟩
    , ⟨(some 8), .mov (.c (.int .i64 0)), [], none, []⟩])
  (.block 0
    (.loop (some [0, 1, 7, 8])
      (.seq (some [0, 1, 7, 8, 9]) (.reg none [
        ⟨(some 9), .bin .lss (.t 8) (.t 7), [], none, []⟩])
      (.seq (some [0, 1, 7, 8]) (.cond (.t 9)
        .skip
        (.exit 0))
      (.seq (some [0, 1, 7, 8]) (.block 1
        (.seq (some [0, 1, 5, 7, 8]) (.reg none [
          ⟨(some 10), .mov (.t 8), [], none, []⟩
          , ⟨(some 5), .mov (.t 10), [], none, []⟩])
        (.seq (some [0, 1, 5, 7, 8, 16]) (.reg none [
          ⟨(some 11), .mov (.t 1), [], none, []⟩
          , ⟨(some 12), .mov (.t 0), [], none, []⟩
          , ⟨(some 13), .mov (.t 5), [], none, []⟩
          , ⟨(some 14), .ixs 8 (.t 12) (.t 13), [], none, []⟩
          , ⟨(some 15), .ld (some 8) (.t 14), [], none, []⟩
          , ⟨(some 16), .calld (.t 11) [(.t 15)], [], none, []⟩])
        (.cond (.t 16)
          (.seq (some [4]) (.reg none [
            ⟨(some 17), .mov (.t 5), [], none, []⟩
            , ⟨(some 4), .mov (.t 17), [], none, []⟩])
          .ret)
          .skip))))
      (.reg none [
        ⟨(some 18), .bin .add (.t 8) (.c (.int .i64 1)), [], none, []⟩
        , ⟨(some 8), .mov (.t 18), [], none, []⟩])))))))
  (.seq (some [4]) (.reg none [
    ⟨(some 4), .mov (.c (.int .i64 (-1))), [], none, []⟩])
  .ret)))

def r_slices_Collect_int_ : List ResA := [.t 2]
def c_slices_Collect_int_ : AC := (.seq (some [0]) (.reg none [
    ⟨(some 2), .mov (.c (.sl [] .nil)), [], none, []⟩])
  (.seq (some [2]) (.reg none [
    ⟨(some 3), .mov (.t 0), [], none, []⟩
    , ⟨(some 4), .call n_slices_AppendSeq___int_int_ [(.c (.sl [] .nil)), (.t 3)], [], none, []⟩
    , ⟨(some 2), .mov (.t 4), [], none, []⟩])
  .ret))

def r_slices_Sort___int_int_ : List ResA := []
def c_slices_Sort___int_int_ : AC := (.seq (some [0, 2]) (.reg none [
    ⟨(some 3), .mov (.t 0), [], none, []⟩
    , ⟨(some 4), .len (.t 3), [(.sl, (.t 3))], none, []⟩
    , ⟨(some 2), .mov (.t 4), [], none, []⟩])
  (.reg none [
    ⟨(some 5), .mov (.t 0), [], none, []⟩
    , ⟨(some 6), .mov (.t 2), [], none, []⟩
    , ⟨(some 7), .mov (.t 2), [], none, []⟩
    , ⟨(some 8), .cvt .u64 (.t 7), [], none, []⟩
    , ⟨(some 9), .call n_math_bits_Len [(.t 8)], [], none, []⟩
    , ⟨(some 10), .call n_slices_pdqsortOrdered_int_ [(.t 5), (.c (.int .i64 0)), (.t 6), (.t 9)], [], none, [.shr]⟩]))

def r_slices_Values___int_int__1 : List ResA := []
def c_slices_Values___int_int__1 : AC := (.seq (some [0, 5, 6, 7]) (.reg none [
    ⟨(some 5), .ld none (.t 1), [], none, []⟩
    , ⟨(some 6), .len (.t 5), [(.sl, (.t 5))], none, []⟩
    , ⟨(some 7), .mov (.c (.int .i64 0)), [], none, []⟩])
  (.block 0
    (.loop (some [0, 5, 6, 7])
      (.seq (some [0, 5, 6, 7, 8]) (.reg none [
        ⟨(some 8), .bin .lss (.t 7) (.t 6), [], none, []⟩])
      (.seq (some [0, 5, 6, 7]) (.cond (.t 8)
        .skip
        (.exit 0))
      (.seq (some [0, 5, 6, 7]) (.block 1
        (.seq (some [0, 4, 5, 6, 7]) (.reg none [
          ⟨(some 9), .ixs 1 (.t 5) (.t 7), [], none, []⟩
          , ⟨(some 10), .ld none (.t 9), [], none, []⟩
          , ⟨(some 4), .mov (.t 10), [], none, []⟩])
        (.seq (some [0, 5, 6, 7, 14]) (.reg none [
          ⟨(some 11), .mov (.t 0), [], none, []⟩
          , ⟨(some 12), .mov (.t 4), [], none, []⟩
          , ⟨(some 13), .calld (.t 11) [(.t 12)], [], none, []⟩
          , ⟨(some 14), .un .not (.t 13), [], none, []⟩])
        (.cond (.t 14)
          .ret
          .skip))))
      (.reg none [
        ⟨(some 15), .bin .add (.t 7) (.c (.int .i64 1)), [], none, []⟩
        , ⟨(some 7), .mov (.t 15), [], none, []⟩])))))))

def r_orderset_orders_1 : List ResA := []
def c_orderset_orders_1 : AC := (.seq (some [0, 1, 3]) (.reg none [
    ⟨(some 6), .ld none (.t 1), [], none, []⟩
    , ⟨(some 7), .call n_orderset_given [(.t 6)], [], none, [.shr]⟩
    , ⟨(some 3), .mov (.t 7), [], none, []⟩])
  (.block 0
    (.loop (some [0, 1, 3])
      (.block 1
        (.seq (some [0, 1, 3]) (.seq (some [0, 1, 3, 11]) (.reg none [
          ⟨(some 8), .mov (.t 0), [], none, []⟩
          , ⟨(some 9), .mov (.t 3), [], none, []⟩
          , ⟨(some 10), .calld (.t 8) [(.t 9)], [], none, []⟩
          , ⟨(some 11), .un .not (.t 10), [], none, []⟩])
        (.cond (.t 11)
          .ret
          .skip))
        (.seq (some [0, 1, 3, 4]) (.reg none [
          ⟨(some 12), .ld none (.t 1), [], none, []⟩
          , ⟨(some 13), .bin .sub (.t 12) (.c (.int .i64 2)), [], none, []⟩
          , ⟨(some 4), .mov (.t 13), [], none, []⟩])
        (.seq (some [0, 1, 3, 4]) (.block 2
          (.loop (some [0, 1, 3, 4])
            (.seq (some [0, 1, 3, 4]) (.seq (some [0, 1, 3, 4, 27]) (.reg (some [[], [0], [1], [2], [2], [3, 4, 2], [5, 2], [2], [2], [8, 2], [7, 9, 2], [10, 2], [6, 11, 2], [2, 12]]) [
              ⟨(some 14), .mov (.t 4), [], none, []⟩
              , ⟨(some 15), .bin .geq (.t 14) (.c (.int .i64 0)), [], none, []⟩
              , ⟨(some 16), .mov (.t 15), [], none, []⟩
              , ⟨(some 17), .mov (.t 3), [], some (16, true), []⟩
              , ⟨(some 18), .mov (.t 4), [], some (16, true), []⟩
              , ⟨(some 19), .ixs 1 (.t 17) (.t 18), [], some (16, true), []⟩
              , ⟨(some 20), .ld none (.t 19), [], some (16, true), []⟩
              , ⟨(some 21), .mov (.t 3), [], some (16, true), []⟩
              , ⟨(some 22), .mov (.t 4), [], some (16, true), []⟩
              , ⟨(some 23), .bin .add (.t 22) (.c (.int .i64 1)), [], some (16, true), []⟩
              , ⟨(some 24), .ixs 1 (.t 21) (.t 23), [], some (16, true), []⟩
              , ⟨(some 25), .ld none (.t 24), [], some (16, true), []⟩
              , ⟨(some 26), .bin .gtr (.t 20) (.t 25), [], some (16, true), []⟩
              , ⟨(some 27), .pick (.t 16) (.t 26) (.c (.bool false)), [], none, []⟩])
            (.cond (.t 27)
              .skip
              (.exit 2)))
            (.block 3
              (.reg none [
                ⟨(some 28), .mov (.t 4), [], none, []⟩
                , ⟨(some 29), .bin .sub (.t 28) (.c (.int .i64 1)), [], none, []⟩
                , ⟨(some 4), .mov (.t 29), [], none, []⟩])))))
        (.seq (some [0, 1, 3, 4]) (.seq (some [0, 1, 3, 4, 31]) (.reg none [
          ⟨(some 30), .mov (.t 4), [], none, []⟩
          , ⟨(some 31), .bin .lss (.t 30) (.c (.int .i64 0)), [], none, []⟩])
        (.cond (.t 31)
          .ret
          .skip))
        (.seq (some [0, 1, 3, 4, 5]) (.reg none [
          ⟨(some 32), .ld none (.t 1), [], none, []⟩
          , ⟨(some 33), .bin .sub (.t 32) (.c (.int .i64 1)), [], none, []⟩
          , ⟨(some 5), .mov (.t 33), [], none, []⟩])
        (.seq (some [0, 1, 3, 4, 5]) (.block 4
          (.loop (some [0, 1, 3, 4, 5])
            (.seq (some [0, 1, 3, 4, 5]) (.seq (some [0, 1, 3, 4, 5, 42]) (.reg (some [[], [], [0, 1], [2], [], [], [4, 5], [6], [3, 7]]) [
              ⟨(some 34), .mov (.t 3), [], none, []⟩
              , ⟨(some 35), .mov (.t 5), [], none, []⟩
              , ⟨(some 36), .ixs 1 (.t 34) (.t 35), [], none, []⟩
              , ⟨(some 37), .ld none (.t 36), [], none, []⟩
              , ⟨(some 38), .mov (.t 3), [], none, []⟩
              , ⟨(some 39), .mov (.t 4), [], none, []⟩
              , ⟨(some 40), .ixs 1 (.t 38) (.t 39), [], none, []⟩
              , ⟨(some 41), .ld none (.t 40), [], none, []⟩
              , ⟨(some 42), .bin .lss (.t 37) (.t 41), [], none, []⟩])
            (.cond (.t 42)
              .skip
              (.exit 4)))
            (.block 5
              (.reg none [
                ⟨(some 43), .mov (.t 5), [], none, []⟩
                , ⟨(some 44), .bin .sub (.t 43) (.c (.int .i64 1)), [], none, []⟩
                , ⟨(some 5), .mov (.t 44), [], none, []⟩])))))
        (.seq (some [0, 1, 3, 4]) (.reg (some [[], [], [], [], [], [], [4, 5], [6], [], [], [8, 9], [10], [0, 1, 0, 1, 4, 5, 6, 7, 11], [12, 7, 0, 1, 4, 5, 6, 7, 11], [2, 3, 0, 1, 2, 3, 4, 5, 6, 7, 8, 9, 10, 11, 12, 13], [14, 11, 13, 0, 1, 2, 3, 4, 5, 6, 7, 8, 9, 10, 11, 12, 13]]) [
          ⟨(some 45), .mov (.t 3), [], none, []⟩
          , ⟨(some 46), .mov (.t 4), [], none, []⟩
          , ⟨(some 47), .mov (.t 3), [], none, []⟩
          , ⟨(some 48), .mov (.t 5), [], none, []⟩
          , ⟨(some 49), .mov (.t 3), [], none, []⟩
          , ⟨(some 50), .mov (.t 5), [], none, []⟩
          , ⟨(some 51), .ixs 1 (.t 49) (.t 50), [], none, []⟩
          , ⟨(some 52), .ld none (.t 51), [], none, []⟩
          , ⟨(some 53), .mov (.t 3), [], none, []⟩
          , ⟨(some 54), .mov (.t 4), [], none, []⟩
          , ⟨(some 55), .ixs 1 (.t 53) (.t 54), [], none, []⟩
          , ⟨(some 56), .ld none (.t 55), [], none, []⟩
          , ⟨(some 57), .ixs 1 (.t 45) (.t 46), [], none, []⟩
          , ⟨none, .st 1 (.t 57) (.t 52), [], none, []⟩
          , ⟨(some 58), .ixs 1 (.t 47) (.t 48), [], none, []⟩
          , ⟨none, .st 1 (.t 58) (.t 56), [], none, []⟩])
        (.reg none [
          ⟨(some 59), .mov (.t 3), [], none, []⟩
          , ⟨(some 60), .mov (.t 4), [], none, []⟩
          , ⟨(some 61), .bin .add (.t 60) (.c (.int .i64 1)), [], none, []⟩
          , ⟨(some 62), .slc 1 (.t 59) (some (.t 61)) none none, [(.sl, (.t 59))], none, []⟩
          , ⟨(some 63), .call n_slices_Reverse___int_int_ [(.t 62)], [], none, [.shr]⟩]))))))))))))

def r_slices_Reverse___int_int_ : List ResA := []
def c_slices_Reverse___int_int_ : AC := (.seq (some [0, 2, 3]) (.reg none [
    ⟨(some 4), .mov (.t 0), [], none, []⟩
    , ⟨(some 5), .len (.t 4), [(.sl, (.t 4))], none, []⟩
    , ⟨(some 6), .bin .sub (.t 5) (.c (.int .i64 1)), [], none, []⟩
    , ⟨(some 2), .mov (.c (.int .i64 0)), [], none, []⟩
    , ⟨(some 3), .mov (.t 6), [], none, []⟩])
  (.block 0
    (.loop (some [0, 2, 3])
      (.seq (some [0, 2, 3]) (.seq (some [0, 2, 3, 9]) (.reg none [
        ⟨(some 7), .mov (.t 2), [], none, []⟩
        , ⟨(some 8), .mov (.t 3), [], none, []⟩
        , ⟨(some 9), .bin .lss (.t 7) (.t 8), [], none, []⟩])
      (.cond (.t 9)
        .skip
        (.exit 0)))
      (.seq (some [0, 2, 3]) (.block 1
        (.reg (some [[], [], [], [], [], [], [4, 5], [6], [], [], [8, 9], [10], [0, 1, 0, 1, 4, 5, 6, 7, 11], [12, 7, 0, 1, 4, 5, 6, 7, 11], [2, 3, 0, 1, 2, 3, 4, 5, 6, 7, 8, 9, 10, 11, 12, 13], [14, 11, 13, 0, 1, 2, 3, 4, 5, 6, 7, 8, 9, 10, 11, 12, 13]]) [
          ⟨(some 14), .mov (.t 0), [], none, []⟩
          , ⟨(some 15), .mov (.t 2), [], none, []⟩
          , ⟨(some 16), .mov (.t 0), [], none, []⟩
          , ⟨(some 17), .mov (.t 3), [], none, []⟩
          , ⟨(some 18), .mov (.t 0), [], none, []⟩
          , ⟨(some 19), .mov (.t 3), [], none, []⟩
          , ⟨(some 20), .ixs 1 (.t 18) (.t 19), [], none, []⟩
          , ⟨(some 21), .ld none (.t 20), [], none, []⟩
          , ⟨(some 22), .mov (.t 0), [], none, []⟩
          , ⟨(some 23), .mov (.t 2), [], none, []⟩
          , ⟨(some 24), .ixs 1 (.t 22) (.t 23), [], none, []⟩
          , ⟨(some 25), .ld none (.t 24), [], none, []⟩
          , ⟨(some 26), .ixs 1 (.t 14) (.t 15), [], none, []⟩
          , ⟨none, .st 1 (.t 26) (.t 21), [], none, []⟩
          , ⟨(some 27), .ixs 1 (.t 16) (.t 17), [], none, []⟩
          , ⟨none, .st 1 (.t 27) (.t 25), [], none, []⟩]))
      (.reg none [
        ⟨(some 10), .mov (.t 2), [], none, []⟩
        , ⟨(some 11), .bin .add (.t 10) (.c (.int .i64 1)), [], none, []⟩
        , ⟨(some 12), .mov (.t 3), [], none, []⟩
        , ⟨(some 13), .bin .sub (.t 12) (.c (.int .i64 1)), [], none, []⟩
        , ⟨(some 2), .mov (.t 11), [], none, []⟩
        , ⟨(some 3), .mov (.t 13), [], none, []⟩]))))))

def r_orderset_places : List ResA := [.c (some 5) 2]
def c_orderset_places : AC := (.seq (some [0, 2]) (.reg none [
    ⟨(some 2), .alloc [(.int .i64 0), (.int .i64 0), (.int .i64 0), (.int .i64 0), (.int .i64 0)], [], none, []⟩])
  (.seq (some [0, 2, 3]) (.reg none [
    ⟨(some 3), .alloc [(.int .i64 0), (.int .i64 0), (.int .i64 0), (.int .i64 0), (.int .i64 0)], [], none, []⟩])
  (.seq (some [2, 3]) (.seq (some [2, 3, 6, 7, 8]) (.reg none [
    ⟨(some 6), .mov (.t 0), [], none, []⟩
    , ⟨(some 7), .len (.t 6), [(.sl, (.t 6))], none, []⟩
    , ⟨(some 8), .mov (.c (.int .i64 0)), [], none, []⟩])
  (.block 0
    (.loop (some [2, 3, 6, 7, 8])
      (.seq (some [2, 3, 6, 7, 8, 9]) (.reg none [
        ⟨(some 9), .bin .lss (.t 8) (.t 7), [], none, []⟩])
      (.seq (some [2, 3, 6, 7, 8]) (.cond (.t 9)
        .skip
        (.exit 0))
      (.seq (some [2, 3, 6, 7, 8]) (.block 1
        (.seq (some [2, 3, 4, 5, 6, 7, 8]) (.reg none [
          ⟨(some 10), .mov (.t 8), [], none, []⟩
          , ⟨(some 11), .ixs 1 (.t 6) (.t 8), [], none, []⟩
          , ⟨(some 12), .ld none (.t 11), [], none, []⟩
          , ⟨(some 4), .mov (.t 10), [], none, []⟩
          , ⟨(some 5), .mov (.t 12), [], none, []⟩])
        (.reg none [
          ⟨(some 13), .mov (.t 5), [], none, []⟩
          , ⟨(some 14), .mov (.t 4), [], none, []⟩
          , ⟨(some 15), .ixa 5 1 (.t 3) (.t 13), [], none, []⟩
          , ⟨none, .st 1 (.t 15) (.t 14), [], none, []⟩])))
      (.reg none [
        ⟨(some 16), .bin .add (.t 8) (.c (.int .i64 1)), [], none, []⟩
        , ⟨(some 8), .mov (.t 16), [], none, []⟩])))))))
  (.seq (some [2]) (.reg none [
    ⟨(some 17), .ld (some 5) (.t 3), [], none, []⟩
    , ⟨none, .st 5 (.t 2) (.t 17), [], none, []⟩])
  .ret))))

def r_pandectref06_size : List ResA := [.t 6]
def c_pandectref06_size : AC := (.seq (some [1, 2, 3]) (.reg none [
    ⟨(some 3), .box 8 (.t 0), [], none, []⟩
    , ⟨(some 6), .mov (.c (.int .i64 0)), [], none, []⟩])
  (.seq (some [1, 2, 3]) (.seq (some [1, 2, 3, 10]) (.reg none [
    ⟨(some 9), .mov (.t 1), [], none, []⟩
    , ⟨(some 10), .bin .gtr (.t 9) (.c (.int .i64 20)), [], none, []⟩])
  (.cond (.t 10)
    (.seq (some [6]) (.reg none [
      ⟨(some 11), .mov (.t 2), [], none, []⟩
      , ⟨(some 12), .bin .add (.t 11) (.c (.int .i64 1)), [], none, []⟩
      , ⟨(some 6), .mov (.t 12), [], none, []⟩])
    .ret)
    .skip))
  (.seq (some [1, 2, 3, 7]) (.reg none [
    ⟨(some 7), .mov (.c (.int .i64 1)), [], none, []⟩])
  (.seq (some [7]) (.seq (some [1, 2, 3, 7, 8]) (.reg none [
    ⟨(some 8), .mov (.c (.int .i64 0)), [], none, []⟩])
  (.block 0
    (.loop (some [1, 2, 3, 7, 8])
      (.seq (some [1, 2, 3, 7, 8]) (.seq (some [1, 2, 3, 7, 8, 22]) (.reg none [
        ⟨(some 13), .mov (.t 8), [], none, []⟩
        , ⟨(some 14), .fad 7 (.t 3), [], none, []⟩
        , ⟨(some 15), .ld none (.t 14), [], none, []⟩
        , ⟨(some 16), .len (.t 15), [(.sl, (.t 15))], none, []⟩
        , ⟨(some 17), .bin .lss (.t 13) (.t 16), [], none, []⟩
        , ⟨(some 18), .mov (.t 17), [], none, []⟩
        , ⟨(some 19), .mov (.t 7), [], some (18, true), []⟩
        , ⟨(some 20), .mov (.t 2), [], some (18, true), []⟩
        , ⟨(some 21), .bin .leq (.t 19) (.t 20), [], some (18, true), []⟩
        , ⟨(some 22), .pick (.t 18) (.t 21) (.c (.bool false)), [], none, []⟩])
      (.cond (.t 22)
        .skip
        (.exit 0)))
      (.seq (some [1, 2, 3, 7, 8]) (.block 1
        (.reg none [
          ⟨(some 25), .mov (.t 7), [], none, []⟩
          , ⟨(some 26), .fad 7 (.t 3), [], none, []⟩
          , ⟨(some 27), .ld none (.t 26), [], none, []⟩
          , ⟨(some 28), .mov (.t 8), [], none, []⟩
          , ⟨(some 29), .ixs 8 (.t 27) (.t 28), [], none, []⟩
          , ⟨(some 30), .ld (some 8) (.t 29), [], none, []⟩
          , ⟨(some 31), .mov (.t 1), [], none, []⟩
          , ⟨(some 32), .bin .add (.t 31) (.c (.int .i64 1)), [], none, []⟩
          , ⟨(some 33), .mov (.t 2), [], none, []⟩
          , ⟨(some 34), .mov (.t 7), [], none, []⟩
          , ⟨(some 35), .bin .sub (.t 33) (.t 34), [], none, []⟩
          , ⟨(some 36), .call n_pandectref06_size [(.t 30), (.t 32), (.t 35)], [], none, []⟩
          , ⟨(some 37), .bin .add (.t 25) (.t 36), [], none, []⟩
          , ⟨(some 7), .mov (.t 37), [], none, []⟩]))
      (.reg none [
        ⟨(some 23), .mov (.t 8), [], none, []⟩
        , ⟨(some 24), .bin .add (.t 23) (.c (.int .i64 1)), [], none, []⟩
        , ⟨(some 8), .mov (.t 24), [], none, []⟩]))))))
  (.seq (some [6]) (.reg none [
    ⟨(some 38), .mov (.t 7), [], none, []⟩
    , ⟨(some 6), .mov (.t 38), [], none, []⟩])
  .ret)))))

def r_pandectref06_words : List ResA := [.t 2]
def c_pandectref06_words : AC := (.seq (some [1]) (.reg none [
    ⟨(some 1), .box 8 (.t 0), [], none, []⟩
    , ⟨(some 2), .mov (.c (.bool false)), [], none, []⟩])
  (.seq (some [1]) (.seq (some [1, 19]) (.reg none [
    ⟨(some 4), .fad 4 (.t 1), [], none, []⟩
    , ⟨(some 5), .ld none (.t 4), [], none, []⟩
    , ⟨(some 6), .len (.t 5), [(.st, (.t 5))], none, []⟩
    , ⟨(some 7), .bin .gtr (.t 6) (.c (.int .i64 30)), [], none, []⟩
    , ⟨(some 8), .mov (.t 7), [], none, []⟩
    , ⟨(some 9), .fad 5 (.t 1), [], some (8, false), []⟩
    , ⟨(some 10), .ld none (.t 9), [], some (8, false), []⟩
    , ⟨(some 11), .call n_pandectref06_short [(.t 10)], [], some (8, false), []⟩
    , ⟨(some 12), .un .not (.t 11), [], some (8, false), []⟩
    , ⟨(some 13), .pick (.t 8) (.c (.bool true)) (.t 12), [], none, []⟩
    , ⟨(some 14), .mov (.t 13), [], none, []⟩
    , ⟨(some 15), .fad 6 (.t 1), [], some (14, false), []⟩
    , ⟨(some 16), .ld none (.t 15), [], some (14, false), []⟩
    , ⟨(some 17), .call n_pandectref06_short [(.t 16)], [], some (14, false), []⟩
    , ⟨(some 18), .un .not (.t 17), [], some (14, false), []⟩
    , ⟨(some 19), .pick (.t 14) (.c (.bool true)) (.t 18), [], none, []⟩])
  (.cond (.t 19)
    (.seq (some [2]) (.reg none [
      ⟨(some 2), .mov (.c (.bool false)), [], none, []⟩])
    .ret)
    .skip))
  (.seq (some []) (.seq (some [1, 3]) (.reg none [
    ⟨(some 3), .mov (.c (.int .i64 0)), [], none, []⟩])
  (.block 0
    (.loop (some [1, 3])
      (.seq (some [1, 3]) (.seq (some [1, 3, 24]) (.reg none [
        ⟨(some 20), .mov (.t 3), [], none, []⟩
        , ⟨(some 21), .fad 7 (.t 1), [], none, []⟩
        , ⟨(some 22), .ld none (.t 21), [], none, []⟩
        , ⟨(some 23), .len (.t 22), [(.sl, (.t 22))], none, []⟩
        , ⟨(some 24), .bin .lss (.t 20) (.t 23), [], none, []⟩])
      (.cond (.t 24)
        .skip
        (.exit 0)))
      (.seq (some [1, 3]) (.block 1
        (.seq (some [1, 3, 33]) (.reg none [
          ⟨(some 27), .fad 7 (.t 1), [], none, []⟩
          , ⟨(some 28), .ld none (.t 27), [], none, []⟩
          , ⟨(some 29), .mov (.t 3), [], none, []⟩
          , ⟨(some 30), .ixs 8 (.t 28) (.t 29), [], none, []⟩
          , ⟨(some 31), .ld (some 8) (.t 30), [], none, []⟩
          , ⟨(some 32), .call n_pandectref06_words [(.t 31)], [], none, []⟩
          , ⟨(some 33), .un .not (.t 32), [], none, []⟩])
        (.cond (.t 33)
          (.seq (some [2]) (.reg none [
            ⟨(some 2), .mov (.c (.bool false)), [], none, []⟩])
          .ret)
          .skip)))
      (.reg none [
        ⟨(some 25), .mov (.t 3), [], none, []⟩
        , ⟨(some 26), .bin .add (.t 25) (.c (.int .i64 1)), [], none, []⟩
        , ⟨(some 3), .mov (.t 26), [], none, []⟩]))))))
  (.seq (some [2]) (.reg none [
    ⟨(some 2), .mov (.c (.bool true)), [], none, []⟩])
  .ret))))

def r_pandectref06_May : List ResA := [.t 2]
def c_pandectref06_May : AC := (.seq (some [1]) (.reg none [
    ⟨(some 1), .box 8 (.t 0), [], none, []⟩
    , ⟨(some 2), .mov (.c (.bool false)), [], none, []⟩])
  (.seq (some [2]) (.reg none [
    ⟨(some 3), .ld (some 8) (.t 1), [], none, []⟩
    , ⟨(some 4), .call n_pandectref06_Right [(.t 3)], [], none, []⟩
    , ⟨(some 5), .mov (.t 4), [], none, []⟩
    , ⟨(some 6), .ld (some 8) (.t 1), [], some (5, true), []⟩
    , ⟨(some 7), .call n_pandectref06_Depth [(.t 6)], [], some (5, true), []⟩
    , ⟨(some 8), .bin .leq (.t 7) (.c (.int .i64 8)), [], some (5, true), []⟩
    , ⟨(some 9), .pick (.t 5) (.t 8) (.c (.bool false)), [], none, []⟩
    , ⟨(some 10), .mov (.t 9), [], none, []⟩
    , ⟨(some 11), .ld (some 8) (.t 1), [], some (10, true), []⟩
    , ⟨(some 12), .call n_pandectref06_Count [(.t 11)], [], some (10, true), []⟩
    , ⟨(some 13), .bin .leq (.t 12) (.c (.int .i64 1024)), [], some (10, true), []⟩
    , ⟨(some 14), .pick (.t 10) (.t 13) (.c (.bool false)), [], none, []⟩
    , ⟨(some 15), .mov (.t 14), [], none, []⟩
    , ⟨(some 16), .ld (some 8) (.t 1), [], some (15, true), []⟩
    , ⟨(some 17), .call n_pandectref06_Ids [(.t 16)], [], some (15, true), []⟩
    , ⟨(some 18), .pick (.t 15) (.t 17) (.c (.bool false)), [], none, []⟩
    , ⟨(some 2), .mov (.t 18), [], none, []⟩])
  .ret))

def r_pandectref08_named : List ResA := [.t 2]
def c_pandectref08_named : AC := (.seq (some [1]) (.reg none [
    ⟨(some 1), .box 8 (.t 0), [], none, []⟩
    , ⟨(some 2), .mov (.c (.bool false)), [], none, []⟩])
  (.seq (some [1]) (.seq (some [1, 12]) (.reg none [
    ⟨(some 4), .fad 3 (.t 1), [], none, []⟩
    , ⟨(some 5), .ld none (.t 4), [], none, []⟩
    , ⟨(some 6), .bin .neq (.t 5) (.c (.int .i64 0)), [], none, []⟩
    , ⟨(some 7), .mov (.t 6), [], none, []⟩
    , ⟨(some 8), .fad 0 (.t 1), [], some (7, true), []⟩
    , ⟨(some 9), .ld (some 3) (.t 8), [], some (7, true), []⟩
    , ⟨(some 10), .build [(.int .i64 0), (.int .i64 0), (.int .i64 0)] [], [], some (7, true), []⟩
    , ⟨(some 11), .eqA false [.i .i64, .i .i64, .i .i64] (.t 9) (.t 10), [], some (7, true), []⟩
    , ⟨(some 12), .pick (.t 7) (.t 11) (.c (.bool false)), [], none, []⟩])
  (.cond (.t 12)
    (.seq (some [2]) (.reg none [
      ⟨(some 2), .mov (.c (.bool false)), [], none, []⟩])
    .ret)
    .skip))
  (.seq (some []) (.seq (some [1, 3]) (.reg none [
    ⟨(some 3), .mov (.c (.int .i64 0)), [], none, []⟩])
  (.block 0
    (.loop (some [1, 3])
      (.seq (some [1, 3]) (.seq (some [1, 3, 17]) (.reg none [
        ⟨(some 13), .mov (.t 3), [], none, []⟩
        , ⟨(some 14), .fad 7 (.t 1), [], none, []⟩
        , ⟨(some 15), .ld none (.t 14), [], none, []⟩
        , ⟨(some 16), .len (.t 15), [(.sl, (.t 15))], none, []⟩
        , ⟨(some 17), .bin .lss (.t 13) (.t 16), [], none, []⟩])
      (.cond (.t 17)
        .skip
        (.exit 0)))
      (.seq (some [1, 3]) (.block 1
        (.seq (some [1, 3, 26]) (.reg none [
          ⟨(some 20), .fad 7 (.t 1), [], none, []⟩
          , ⟨(some 21), .ld none (.t 20), [], none, []⟩
          , ⟨(some 22), .mov (.t 3), [], none, []⟩
          , ⟨(some 23), .ixs 8 (.t 21) (.t 22), [], none, []⟩
          , ⟨(some 24), .ld (some 8) (.t 23), [], none, []⟩
          , ⟨(some 25), .call n_pandectref08_named [(.t 24)], [], none, []⟩
          , ⟨(some 26), .un .not (.t 25), [], none, []⟩])
        (.cond (.t 26)
          (.seq (some [2]) (.reg none [
            ⟨(some 2), .mov (.c (.bool false)), [], none, []⟩])
          .ret)
          .skip)))
      (.reg none [
        ⟨(some 18), .mov (.t 3), [], none, []⟩
        , ⟨(some 19), .bin .add (.t 18) (.c (.int .i64 1)), [], none, []⟩
        , ⟨(some 3), .mov (.t 19), [], none, []⟩]))))))
  (.seq (some [2]) (.reg none [
    ⟨(some 2), .mov (.c (.bool true)), [], none, []⟩])
  .ret))))

def r_enact_doers : List ResA := [.t 0]
def c_enact_doers : AC := (.seq (some []) (.reg none [
    ⟨(some 0), .mov (.c .top), [], none, []⟩])
  (.seq (some [0]) (.reg none [
    ⟨(some 1), .mkmap, [], none, []⟩
    , ⟨none, .mset false [.i .i64] (.t 1) (.c (.int .i64 0)) (.c (.fn n_enact_insert [])), [], none, []⟩
    , ⟨none, .mset false [.i .i64] (.t 1) (.c (.int .i64 1)) (.c (.fn n_enact_repeal [])), [], none, []⟩
    , ⟨none, .mset false [.i .i64] (.t 1) (.c (.int .i64 2)) (.c (.fn n_enact_words [])), [], none, []⟩
    , ⟨none, .mset false [.i .i64] (.t 1) (.c (.int .i64 3)) (.c (.fn n_enact_put [])), [], none, []⟩
    , ⟨none, .mset false [.i .i64] (.t 1) (.c (.int .i64 4)) (.c (.fn n_enact_heading [])), [], none, []⟩
    , ⟨none, .mset false [.i .i64] (.t 1) (.c (.int .i64 5)) (.c (.fn n_enact_relabel [])), [], none, []⟩
    , ⟨none, .mset false [.i .i64] (.t 1) (.c (.int .i64 6)) (.c (.fn n_enact_move [])), [], none, []⟩
    , ⟨(some 2), .mov (.t 1), [], none, []⟩
    , ⟨(some 0), .mov (.t 2), [], none, []⟩])
  .ret))

def r_syntax_Valid : List ResA := [.t 2]
def c_syntax_Valid : AC := (.seq (some [1]) (.reg none [
    ⟨(some 1), .box 25 (.t 0), [], none, []⟩
    , ⟨(some 2), .mov (.c (.bool false)), [], none, []⟩])
  (.seq (some [1, 3, 4]) (.reg (some [[], [], [1], [0, 2], [3], [4], [4], [], [7, 5, 0, 0, 1, 2, 3, 4, 5, 7], [6, 8, 0, 1, 2, 3, 4, 5, 6, 7, 8]]) [
    ⟨(some 7), .call n_syntax_rules [], [], none, []⟩
    , ⟨(some 8), .fad 0 (.t 1), [], none, []⟩
    , ⟨(some 9), .ld none (.t 8), [], none, []⟩
    , ⟨(some 10), .look false [.i .i64] (.agg [.nilfn, .nilfn]) true (.t 7) (.t 9), [], none, []⟩
    , ⟨(some 6), .mov (.t 10), [], none, []⟩
    , ⟨(some 11), .ext (.t 6) 0, [], none, []⟩
    , ⟨(some 12), .ext (.t 6) 1, [], none, []⟩
    , ⟨(some 3), .alloc [.nilfn, .nilfn], [], none, []⟩
    , ⟨none, .st 2 (.t 3) (.t 11), [], none, []⟩
    , ⟨(some 4), .mov (.t 12), [], none, []⟩])
  (.seq (some [1, 3]) (.seq (some [1, 3, 14]) (.reg none [
    ⟨(some 13), .mov (.t 4), [], none, []⟩
    , ⟨(some 14), .un .not (.t 13), [], none, []⟩])
  (.cond (.t 14)
    (.seq (some [2]) (.reg none [
      ⟨(some 2), .mov (.c (.bool false)), [], none, []⟩])
    .ret)
    .skip))
  (.seq (some [1, 3, 5]) (.reg none [
    ⟨(some 15), .fad 0 (.t 3), [], none, []⟩
    , ⟨(some 16), .ld none (.t 15), [], none, []⟩
    , ⟨(some 17), .ld (some 25) (.t 1), [], none, []⟩
    , ⟨(some 18), .calld (.t 16) [(.t 17)], [], none, []⟩
    , ⟨(some 5), .alloc [(.int .i64 0), (.sl [] .nil), (.sl [] .nil), (.int .i64 0), (.int .i64 0), (.int .i64 0), (.int .i64 0), (.int .i64 0), (.int .i64 0), (.str []), (.sl [] .nil), (.sl [] .nil), (.sl [] .nil), (.sl [] .nil), (.sl [] .nil), (.str []), (.str []), (.int .i64 0), (.int .i64 0), (.str []), (.int .i64 0), (.int .i64 0), (.int .i64 0), (.str []), (.sl [] .nil)], [], none, []⟩
    , ⟨none, .st 25 (.t 5) (.t 18), [], none, []⟩])
  (.seq (some [1, 3, 5]) (.reg none [
    ⟨(some 19), .fad 0 (.t 1), [], none, []⟩
    , ⟨(some 20), .ld none (.t 19), [], none, []⟩
    , ⟨(some 21), .fad 0 (.t 5), [], none, []⟩
    , ⟨none, .st 1 (.t 21) (.t 20), [], none, []⟩])
  (.seq (some [1, 3, 5]) (.seq (some [1, 3, 5, 24]) (.reg none [
    ⟨(some 22), .fad 0 (.t 1), [], none, []⟩
    , ⟨(some 23), .ld none (.t 22), [], none, []⟩
    , ⟨(some 24), .call n_syntax_IsAmendment [(.t 23)], [], none, []⟩])
  (.cond (.t 24)
    (.seq (some [1, 3, 5]) (.reg (some [[], [0], [], [2], [], [4], [0, 1], [6, 1, 0, 1], [0, 1, 2, 3, 6, 7], [8, 3, 7, 0, 1, 2, 3, 6, 7], [0, 1, 2, 3, 4, 5, 6, 7, 8, 9], [10, 5, 9, 0, 1, 2, 3, 4, 5, 6, 7, 8, 9]]) [
      ⟨(some 25), .fad 1 (.t 1), [], none, []⟩
      , ⟨(some 26), .ld none (.t 25), [], none, []⟩
      , ⟨(some 27), .fad 16 (.t 1), [], none, []⟩
      , ⟨(some 28), .ld none (.t 27), [], none, [.same 27 1]⟩
      , ⟨(some 29), .fad 17 (.t 1), [], none, []⟩
      , ⟨(some 30), .ld (some 3) (.t 29), [], none, [.same 29 1, .same 29 1]⟩
      , ⟨(some 31), .fad 1 (.t 5), [], none, []⟩
      , ⟨none, .st 1 (.t 31) (.t 26), [], none, [.apart 31 1, .apart 31 1]⟩
      , ⟨(some 32), .fad 16 (.t 5), [], none, []⟩
      , ⟨none, .st 1 (.t 32) (.t 28), [], none, [.apart 32 1]⟩
      , ⟨(some 33), .fad 17 (.t 5), [], none, []⟩
      , ⟨none, .st 3 (.t 33) (.t 30), [], none, []⟩])
    (.seq (some [1, 3, 5, 54]) (.reg none [
      ⟨(some 34), .fad 1 (.t 1), [], none, []⟩
      , ⟨(some 35), .ld none (.t 34), [], none, []⟩
      , ⟨(some 36), .call n_address_Valid [(.t 35)], [], none, []⟩
      , ⟨(some 37), .un .not (.t 36), [], none, []⟩
      , ⟨(some 38), .mov (.t 37), [], none, []⟩
      , ⟨(some 39), .fad 16 (.t 1), [], some (38, false), []⟩
      , ⟨(some 40), .ld none (.t 39), [], some (38, false), []⟩
      , ⟨(some 41), .bin .neq (.t 40) (.c (.str [])), [], some (38, false), []⟩
      , ⟨(some 42), .mov (.t 41), [], some (38, false), []⟩
      , ⟨(some 43), .fad 16 (.t 1), [], some (42, true), []⟩
      , ⟨(some 44), .ld none (.t 43), [], some (42, true), []⟩
      , ⟨(some 45), .call n_syntax_isName [(.t 44)], [], some (42, true), []⟩
      , ⟨(some 46), .un .not (.t 45), [], some (42, true), []⟩
      , ⟨(some 47), .pick (.t 42) (.t 46) (.c (.bool false)), [], some (38, false), []⟩
      , ⟨(some 48), .pick (.t 38) (.c (.bool true)) (.t 47), [], none, []⟩
      , ⟨(some 49), .mov (.t 48), [], none, []⟩
      , ⟨(some 50), .fad 17 (.t 1), [], some (49, false), []⟩
      , ⟨(some 51), .ld (some 3) (.t 50), [], some (49, false), []⟩
      , ⟨(some 52), .call n_syntax_begins [(.t 51)], [], some (49, false), []⟩
      , ⟨(some 53), .un .not (.t 52), [], some (49, false), []⟩
      , ⟨(some 54), .pick (.t 49) (.c (.bool true)) (.t 53), [], none, []⟩])
    (.cond (.t 54)
      (.seq (some [2]) (.reg none [
        ⟨(some 2), .mov (.c (.bool false)), [], none, []⟩])
      .ret)
      .skip)))
    .skip))
  (.seq (some [2]) (.reg none [
    ⟨(some 55), .ld (some 25) (.t 1), [], none, []⟩
    , ⟨(some 56), .ld (some 25) (.t 5), [], none, []⟩
    , ⟨(some 57), .call n_syntax_Equal [(.t 55), (.t 56)], [], none, []⟩
    , ⟨(some 58), .mov (.t 57), [], none, []⟩
    , ⟨(some 59), .fad 1 (.t 3), [], some (58, true), []⟩
    , ⟨(some 60), .ld none (.t 59), [], some (58, true), []⟩
    , ⟨(some 61), .ld (some 25) (.t 1), [], some (58, true), []⟩
    , ⟨(some 62), .calld (.t 60) [(.t 61)], [], some (58, true), []⟩
    , ⟨(some 63), .pick (.t 58) (.t 62) (.c (.bool false)), [], none, []⟩
    , ⟨(some 2), .mov (.t 63), [], none, []⟩])
  .ret)))))))

def r_address_FindOne : List ResA := [.c (some 3) 4, .t 5]
def c_address_FindOne : AC := (.seq (some [1, 2, 4]) (.reg none [
    ⟨(some 2), .box 8 (.t 0), [], none, []⟩
    , ⟨(some 4), .alloc [(.int .i64 0), (.int .i64 0), (.int .i64 0)], [], none, []⟩
    , ⟨(some 5), .mov (.c (.int .i64 0)), [], none, []⟩])
  (.seq (some [4, 6]) (.reg none [
    ⟨(some 7), .ld (some 8) (.t 2), [], none, []⟩
    , ⟨(some 8), .mov (.t 1), [], none, []⟩
    , ⟨(some 9), .call n_address_FindAll [(.t 7), (.t 8)], [], none, []⟩
    , ⟨(some 6), .mov (.t 9), [], none, []⟩])
  (.seq (some [4]) (.seq (some [4, 6, 11]) (.reg none [
    ⟨(some 10), .mov (.t 6), [], none, []⟩
    , ⟨(some 11), .len (.t 10), [(.sl, (.t 10))], none, []⟩])
  (.block 0
    (.seq (some [4, 6, 11, 12]) (.reg none [
      ⟨(some 13), .bin .eql (.t 11) (.c (.int .i64 0)), [], none, []⟩
      , ⟨(some 12), .mov (.t 13), [], none, []⟩])
    (.cond (.t 12)
      (.seq (some [4, 5]) (.reg none [
        ⟨(some 14), .build [(.int .i64 0), (.int .i64 0), (.int .i64 0)] [], [], none, []⟩
        , ⟨none, .st 3 (.t 4) (.t 14), [], none, []⟩
        , ⟨(some 5), .mov (.c (.int .i64 7)), [], none, []⟩])
      .ret)
      (.seq (some [4, 6, 15]) (.reg none [
        ⟨(some 16), .bin .eql (.t 11) (.c (.int .i64 1)), [], none, []⟩
        , ⟨(some 15), .mov (.t 16), [], none, []⟩])
      (.cond (.t 15)
        (.seq (some [4, 5]) (.reg none [
          ⟨(some 17), .mov (.t 6), [], none, []⟩
          , ⟨(some 18), .ixs 3 (.t 17) (.c (.int .i64 0)), [], none, []⟩
          , ⟨(some 19), .ld (some 3) (.t 18), [], none, []⟩
          , ⟨none, .st 3 (.t 4) (.t 19), [], none, []⟩
          , ⟨(some 5), .mov (.c (.int .i64 0)), [], none, []⟩])
        .ret)
        .skip))))))
  (.seq (some [4, 5]) (.reg none [
    ⟨(some 20), .build [(.int .i64 0), (.int .i64 0), (.int .i64 0)] [], [], none, []⟩
    , ⟨none, .st 3 (.t 4) (.t 20), [], none, []⟩
    , ⟨(some 5), .mov (.c (.int .i64 8)), [], none, []⟩])
  .ret))))

def r_unit_Find : List ResA := [.c (some 8) 4, .t 5]
def c_unit_Find : AC := (.seq (some [2, 3, 4]) (.reg none [
    ⟨(some 2), .box 8 (.t 0), [], none, []⟩
    , ⟨(some 3), .box 3 (.t 1), [], none, []⟩
    , ⟨(some 4), .alloc [(.int .i64 0), (.int .i64 0), (.int .i64 0), (.int .i64 0), (.str []), (.sl [] .nil), (.sl [] .nil), (.sl [] .nil)], [], none, []⟩
    , ⟨(some 5), .mov (.c (.bool false)), [], none, []⟩])
  (.seq (some [4, 6]) (.reg none [
    ⟨(some 7), .ld (some 8) (.t 2), [], none, []⟩
    , ⟨(some 8), .ld (some 3) (.t 3), [], none, []⟩
    , ⟨(some 9), .call n_unit_way [(.t 7), (.t 8)], [], none, []⟩
    , ⟨(some 6), .mov (.t 9), [], none, []⟩])
  (.seq (some [4, 6]) (.seq (some [4, 6, 12]) (.reg none [
    ⟨(some 10), .mov (.t 6), [], none, []⟩
    , ⟨(some 11), .len (.t 10), [(.sl, (.t 10))], none, []⟩
    , ⟨(some 12), .bin .eql (.t 11) (.c (.int .i64 0)), [], none, []⟩])
  (.cond (.t 12)
    (.seq (some [4, 5]) (.reg none [
      ⟨(some 13), .build [(.int .i64 0), (.int .i64 0), (.int .i64 0), (.int .i64 0), (.str []), (.sl [] .nil), (.sl [] .nil), (.sl [] .nil)] [], [], none, []⟩
      , ⟨none, .st 8 (.t 4) (.t 13), [], none, []⟩
      , ⟨(some 5), .mov (.c (.bool false)), [], none, []⟩])
    .ret)
    .skip))
  (.seq (some [4, 5]) (.reg none [
    ⟨(some 14), .mov (.t 6), [], none, []⟩
    , ⟨(some 15), .mov (.t 6), [], none, []⟩
    , ⟨(some 16), .len (.t 15), [(.sl, (.t 15))], none, []⟩
    , ⟨(some 17), .bin .sub (.t 16) (.c (.int .i64 1)), [], none, []⟩
    , ⟨(some 18), .ixs 8 (.t 14) (.t 17), [], none, []⟩
    , ⟨(some 19), .ld (some 8) (.t 18), [], none, []⟩
    , ⟨(some 20), .call n_unit_copied [(.t 19)], [], none, []⟩
    , ⟨none, .st 8 (.t 4) (.t 20), [], none, []⟩
    , ⟨(some 5), .mov (.c (.bool true)), [], none, []⟩])
  .ret))))

def r_cmp_isNaN_int_ : List ResA := [.t 2]
def c_cmp_isNaN_int_ : AC := (.seq (some [0]) (.reg none [
    ⟨(some 2), .mov (.c (.bool false)), [], none, []⟩])
  (.seq (some [2]) (.reg none [
    ⟨(some 3), .mov (.t 0), [], none, []⟩
    , ⟨(some 4), .mov (.t 0), [], none, []⟩
    , ⟨(some 5), .bin .neq (.t 3) (.t 4), [], none, []⟩
    , ⟨(some 2), .mov (.t 5), [], none, []⟩])
  .ret))

def r_slices_AppendSeq___int_int_ : List ResA := [.t 4]
def c_slices_AppendSeq___int_int_ : AC := (.seq (some [1, 2, 4]) (.reg none [
    ⟨(some 2), .box 1 (.t 0), [], none, []⟩
    , ⟨(some 4), .mov (.c (.sl [] .nil)), [], none, []⟩])
  (.seq (some [2]) (.seq (some [2, 4, 6]) (.reg none [
    ⟨(some 6), .mov (.t 1), [], none, []⟩])
  (.block 0
    (.rfn (some [2]) (.t 6) [7]
      (.reg none [
        ⟨(some 5), .mov (.t 7), [], none, []⟩])
      (.block 1
        (.reg none [
          ⟨(some 8), .ld none (.t 2), [], none, []⟩
          , ⟨(some 9), .mov (.t 5), [], none, []⟩
          , ⟨(some 10), .lit 1 [(.int .i64 0)] 1 [(0, (.t 9))], [], none, []⟩
          , ⟨(some 11), .appB 1 8 (.t 8) (.t 10), [], none, []⟩
          , ⟨none, .st 1 (.t 2) (.t 11), [], none, []⟩])))))
  (.seq (some [4]) (.reg none [
    ⟨(some 12), .ld none (.t 2), [], none, []⟩
    , ⟨(some 4), .mov (.t 12), [], none, []⟩])
  .ret)))

def r_slices_pdqsortOrdered_int_ : List ResA := []
def c_slices_pdqsortOrdered_int_ : AC := (.seq (some [0, 1, 2, 3, 8]) (.reg none [
    ⟨(some 8), .mov (.c (.bool true)), [], none, []⟩])
  (.seq (some [0, 1, 2, 3, 8, 9]) (.reg none [
    ⟨(some 9), .mov (.c (.bool true)), [], none, []⟩])
  (.block 0
    (.loop (some [0, 1, 2, 3, 8, 9])
      (.block 1
        (.seq (some [0, 1, 2, 3, 8, 9, 10]) (.reg none [
          ⟨(some 19), .mov (.t 2), [], none, []⟩
          , ⟨(some 20), .mov (.t 1), [], none, []⟩
          , ⟨(some 21), .bin .sub (.t 19) (.t 20), [], none, []⟩
          , ⟨(some 10), .mov (.t 21), [], none, []⟩])
        (.seq (some [0, 1, 2, 3, 8, 9, 10]) (.seq (some [0, 1, 2, 3, 8, 9, 10, 23]) (.reg none [
          ⟨(some 22), .mov (.t 10), [], none, []⟩
          , ⟨(some 23), .bin .leq (.t 22) (.c (.int .i64 12)), [], none, []⟩])
        (.cond (.t 23)
          (.seq (some []) (.reg none [
            ⟨(some 24), .mov (.t 0), [], none, []⟩
            , ⟨(some 25), .mov (.t 1), [], none, []⟩
            , ⟨(some 26), .mov (.t 2), [], none, []⟩
            , ⟨(some 27), .call n_slices_insertionSortOrdered_int_ [(.t 24), (.t 25), (.t 26)], [], none, [.shr]⟩])
          .ret)
          .skip))
        (.seq (some [0, 1, 2, 3, 8, 9, 10]) (.seq (some [0, 1, 2, 3, 8, 9, 10, 29]) (.reg none [
          ⟨(some 28), .mov (.t 3), [], none, []⟩
          , ⟨(some 29), .bin .eql (.t 28) (.c (.int .i64 0)), [], none, []⟩])
        (.cond (.t 29)
          (.seq (some []) (.reg none [
            ⟨(some 30), .mov (.t 0), [], none, []⟩
            , ⟨(some 31), .mov (.t 1), [], none, []⟩
            , ⟨(some 32), .mov (.t 2), [], none, []⟩
            , ⟨(some 33), .call n_slices_heapSortOrdered_int_ [(.t 30), (.t 31), (.t 32)], [], none, [.shr]⟩])
          .ret)
          .skip))
        (.seq (some [0, 1, 2, 3, 8, 9, 10]) (.seq (some [0, 1, 2, 3, 8, 9, 10, 35]) (.reg none [
          ⟨(some 34), .mov (.t 8), [], none, []⟩
          , ⟨(some 35), .un .not (.t 34), [], none, []⟩])
        (.cond (.t 35)
          (.seq (some [0, 1, 2, 3, 8, 9, 10]) (.reg none [
            ⟨(some 36), .mov (.t 0), [], none, []⟩
            , ⟨(some 37), .mov (.t 1), [], none, []⟩
            , ⟨(some 38), .mov (.t 2), [], none, []⟩
            , ⟨(some 39), .call n_slices_breakPatternsOrdered_int_ [(.t 36), (.t 37), (.t 38)], [], none, [.shr]⟩])
          (.reg none [
            ⟨(some 40), .mov (.t 3), [], none, []⟩
            , ⟨(some 41), .bin .sub (.t 40) (.c (.int .i64 1)), [], none, []⟩
            , ⟨(some 3), .mov (.t 41), [], none, []⟩]))
          .skip))
        (.seq (some [0, 1, 2, 3, 8, 9, 10, 11, 12]) (.reg none [
          ⟨(some 43), .mov (.t 0), [], none, []⟩
          , ⟨(some 44), .mov (.t 1), [], none, []⟩
          , ⟨(some 45), .mov (.t 2), [], none, []⟩
          , ⟨(some 46), .call n_slices_choosePivotOrdered_int_ [(.t 43), (.t 44), (.t 45)], [], none, [.shr]⟩
          , ⟨(some 42), .mov (.t 46), [], none, []⟩
          , ⟨(some 47), .ext (.t 42) 0, [], none, []⟩
          , ⟨(some 48), .ext (.t 42) 1, [], none, []⟩
          , ⟨(some 11), .mov (.t 47), [], none, []⟩
          , ⟨(some 12), .mov (.t 48), [], none, []⟩])
        (.seq (some [0, 1, 2, 3, 8, 9, 10, 11, 12]) (.seq (some [0, 1, 2, 3, 8, 9, 10, 11, 12, 50]) (.reg none [
          ⟨(some 49), .mov (.t 12), [], none, []⟩
          , ⟨(some 50), .bin .eql (.t 49) (.c (.int .i64 2)), [], none, []⟩])
        (.cond (.t 50)
          (.seq (some [0, 1, 2, 3, 8, 9, 10, 11]) (.reg none [
            ⟨(some 51), .mov (.t 0), [], none, []⟩
            , ⟨(some 52), .mov (.t 1), [], none, []⟩
            , ⟨(some 53), .mov (.t 2), [], none, []⟩
            , ⟨(some 54), .call n_slices_reverseRangeOrdered_int_ [(.t 51), (.t 52), (.t 53)], [], none, [.shr]⟩])
          (.seq (some [0, 1, 2, 3, 8, 9, 10, 11]) (.reg none [
            ⟨(some 55), .mov (.t 2), [], none, []⟩
            , ⟨(some 56), .bin .sub (.t 55) (.c (.int .i64 1)), [], none, []⟩
            , ⟨(some 57), .mov (.t 11), [], none, []⟩
            , ⟨(some 58), .mov (.t 1), [], none, []⟩
            , ⟨(some 59), .bin .sub (.t 57) (.t 58), [], none, []⟩
            , ⟨(some 60), .bin .sub (.t 56) (.t 59), [], none, []⟩
            , ⟨(some 11), .mov (.t 60), [], none, []⟩])
          (.reg none [
            ⟨(some 12), .mov (.c (.int .i64 1)), [], none, []⟩])))
          .skip))
        (.seq (some [0, 1, 2, 3, 8, 9, 10, 11]) (.seq (some [0, 1, 2, 3, 8, 9, 10, 11, 68]) (.reg none [
          ⟨(some 61), .mov (.t 8), [], none, []⟩
          , ⟨(some 62), .mov (.t 61), [], none, []⟩
          , ⟨(some 63), .mov (.t 9), [], some (62, true), []⟩
          , ⟨(some 64), .pick (.t 62) (.t 63) (.c (.bool false)), [], none, []⟩
          , ⟨(some 65), .mov (.t 64), [], none, []⟩
          , ⟨(some 66), .mov (.t 12), [], some (65, true), []⟩
          , ⟨(some 67), .bin .eql (.t 66) (.c (.int .i64 1)), [], some (65, true), []⟩
          , ⟨(some 68), .pick (.t 65) (.t 67) (.c (.bool false)), [], none, []⟩])
        (.cond (.t 68)
          (.seq (some [0, 1, 2, 3, 8, 9, 10, 11, 72]) (.reg none [
            ⟨(some 69), .mov (.t 0), [], none, []⟩
            , ⟨(some 70), .mov (.t 1), [], none, []⟩
            , ⟨(some 71), .mov (.t 2), [], none, []⟩
            , ⟨(some 72), .call n_slices_partialInsertionSortOrdered_int_ [(.t 69), (.t 70), (.t 71)], [], none, [.shr]⟩])
          (.cond (.t 72)
            .ret
            .skip))
          .skip))
        (.seq (some [0, 1, 2, 3, 10, 11]) (.seq (some [0, 1, 2, 3, 8, 9, 10, 11, 87]) (.reg (some [[], [0], [1], [2], [2], [4, 2], [3, 5, 2], [6, 2], [2], [2], [8, 9, 2], [10, 2], [7, 11, 2, 2], [12, 2], [2, 13]]) [
          ⟨(some 73), .mov (.t 1), [], none, []⟩
          , ⟨(some 74), .bin .gtr (.t 73) (.c (.int .i64 0)), [], none, []⟩
          , ⟨(some 75), .mov (.t 74), [], none, []⟩
          , ⟨(some 76), .mov (.t 0), [], some (75, true), []⟩
          , ⟨(some 77), .mov (.t 1), [], some (75, true), []⟩
          , ⟨(some 78), .bin .sub (.t 77) (.c (.int .i64 1)), [], some (75, true), []⟩
          , ⟨(some 79), .ixs 1 (.t 76) (.t 78), [], some (75, true), []⟩
          , ⟨(some 80), .ld none (.t 79), [], some (75, true), []⟩
          , ⟨(some 81), .mov (.t 0), [], some (75, true), []⟩
          , ⟨(some 82), .mov (.t 11), [], some (75, true), []⟩
          , ⟨(some 83), .ixs 1 (.t 81) (.t 82), [], some (75, true), []⟩
          , ⟨(some 84), .ld none (.t 83), [], some (75, true), []⟩
          , ⟨(some 85), .call n_cmp_Less_int_ [(.t 80), (.t 84)], [], some (75, true), []⟩
          , ⟨(some 86), .un .not (.t 85), [], some (75, true), []⟩
          , ⟨(some 87), .pick (.t 75) (.t 86) (.c (.bool false)), [], none, []⟩])
        (.cond (.t 87)
          (.seq (some [0, 2, 3, 8, 9, 13]) (.reg none [
            ⟨(some 88), .mov (.t 0), [], none, []⟩
            , ⟨(some 89), .mov (.t 1), [], none, []⟩
            , ⟨(some 90), .mov (.t 2), [], none, []⟩
            , ⟨(some 91), .mov (.t 11), [], none, []⟩
            , ⟨(some 92), .call n_slices_partitionEqualOrdered_int_ [(.t 88), (.t 89), (.t 90), (.t 91)], [], none, [.shr]⟩
            , ⟨(some 13), .mov (.t 92), [], none, []⟩])
          (.seq (some [0, 1, 2, 3, 8, 9]) (.reg none [
            ⟨(some 93), .mov (.t 13), [], none, []⟩
            , ⟨(some 1), .mov (.t 93), [], none, []⟩])
          (.exit 1)))
          .skip))
        (.seq (some [0, 1, 2, 3, 10, 14, 15]) (.reg none [
          ⟨(some 95), .mov (.t 0), [], none, []⟩
          , ⟨(some 96), .mov (.t 1), [], none, []⟩
          , ⟨(some 97), .mov (.t 2), [], none, []⟩
          , ⟨(some 98), .mov (.t 11), [], none, []⟩
          , ⟨(some 99), .call n_slices_partitionOrdered_int_ [(.t 95), (.t 96), (.t 97), (.t 98)], [], none, [.shr]⟩
          , ⟨(some 94), .mov (.t 99), [], none, []⟩
          , ⟨(some 100), .ext (.t 94) 0, [], none, []⟩
          , ⟨(some 101), .ext (.t 94) 1, [], none, []⟩
          , ⟨(some 14), .mov (.t 100), [], none, []⟩
          , ⟨(some 15), .mov (.t 101), [], none, []⟩])
        (.seq (some [0, 1, 2, 3, 9, 10, 14]) (.reg none [
          ⟨(some 102), .mov (.t 15), [], none, []⟩
          , ⟨(some 9), .mov (.t 102), [], none, []⟩])
        (.seq (some [0, 1, 2, 3, 9, 10, 14, 16, 17]) (.reg none [
          ⟨(some 103), .mov (.t 14), [], none, []⟩
          , ⟨(some 104), .mov (.t 1), [], none, []⟩
          , ⟨(some 105), .bin .sub (.t 103) (.t 104), [], none, []⟩
          , ⟨(some 106), .mov (.t 2), [], none, []⟩
          , ⟨(some 107), .mov (.t 14), [], none, []⟩
          , ⟨(some 108), .bin .sub (.t 106) (.t 107), [], none, []⟩
          , ⟨(some 16), .mov (.t 105), [], none, []⟩
          , ⟨(some 17), .mov (.t 108), [], none, []⟩])
        (.seq (some [0, 1, 2, 3, 9, 14, 16, 17, 18]) (.reg none [
          ⟨(some 109), .mov (.t 10), [], none, []⟩
          , ⟨(some 110), .bin .quo (.t 109) (.c (.int .i64 8)), [], none, []⟩
          , ⟨(some 18), .mov (.t 110), [], none, []⟩])
        (.seq (some [0, 1, 2, 3, 9, 14, 16, 17, 18, 113]) (.reg none [
          ⟨(some 111), .mov (.t 16), [], none, []⟩
          , ⟨(some 112), .mov (.t 17), [], none, []⟩
          , ⟨(some 113), .bin .lss (.t 111) (.t 112), [], none, []⟩])
        (.cond (.t 113)
          (.seq (some [0, 1, 2, 3, 8, 9, 14]) (.reg none [
            ⟨(some 114), .mov (.t 16), [], none, []⟩
            , ⟨(some 115), .mov (.t 18), [], none, []⟩
            , ⟨(some 116), .bin .geq (.t 114) (.t 115), [], none, []⟩
            , ⟨(some 8), .mov (.t 116), [], none, []⟩])
          (.seq (some [0, 2, 3, 8, 9, 14]) (.reg none [
            ⟨(some 117), .mov (.t 0), [], none, []⟩
            , ⟨(some 118), .mov (.t 1), [], none, []⟩
            , ⟨(some 119), .mov (.t 14), [], none, []⟩
            , ⟨(some 120), .mov (.t 3), [], none, []⟩
            , ⟨(some 121), .call n_slices_pdqsortOrdered_int_ [(.t 117), (.t 118), (.t 119), (.t 120)], [], none, [.shr]⟩])
          (.reg none [
            ⟨(some 122), .mov (.t 14), [], none, []⟩
            , ⟨(some 123), .bin .add (.t 122) (.c (.int .i64 1)), [], none, []⟩
            , ⟨(some 1), .mov (.t 123), [], none, []⟩])))
          (.seq (some [0, 1, 2, 3, 8, 9, 14]) (.reg none [
            ⟨(some 124), .mov (.t 17), [], none, []⟩
            , ⟨(some 125), .mov (.t 18), [], none, []⟩
            , ⟨(some 126), .bin .geq (.t 124) (.t 125), [], none, []⟩
            , ⟨(some 8), .mov (.t 126), [], none, []⟩])
          (.seq (some [0, 1, 3, 8, 9, 14]) (.reg none [
            ⟨(some 127), .mov (.t 0), [], none, []⟩
            , ⟨(some 128), .mov (.t 14), [], none, []⟩
            , ⟨(some 129), .bin .add (.t 128) (.c (.int .i64 1)), [], none, []⟩
            , ⟨(some 130), .mov (.t 2), [], none, []⟩
            , ⟨(some 131), .mov (.t 3), [], none, []⟩
            , ⟨(some 132), .call n_slices_pdqsortOrdered_int_ [(.t 127), (.t 129), (.t 130), (.t 131)], [], none, [.shr]⟩])
          (.reg none [
            ⟨(some 133), .mov (.t 14), [], none, []⟩
            , ⟨(some 2), .mov (.t 133), [], none, []⟩]))))))))))))))))))))))
end Go.Am
