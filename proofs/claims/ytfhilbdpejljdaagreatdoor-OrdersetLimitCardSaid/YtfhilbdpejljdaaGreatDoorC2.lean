/- The abstract code of the functions. -/
import Derived.Test.YtfhilbdpejljdaaGreatDoorC1
set_option linter.all false
namespace Go.Am
set_option maxRecDepth 100000
def r_math_bits_Len : List ResA := [.t 2]
def c_math_bits_Len : AC := (.seq (some [0]) (.reg none [
    ⟨(some 2), .mov (.c (.int .i64 0)), [], none, []⟩])
  (.seq (some [0]) (.cond (.c (.bool false))
    (.seq (some [2]) (.reg none [
      ⟨(some 3), .mov (.t 0), [], none, []⟩
      , ⟨(some 4), .cvt .u32 (.t 3), [], none, []⟩
      , ⟨(some 5), .call n_math_bits_Len32 [(.t 4)], [], none, []⟩
      , ⟨(some 2), .mov (.t 5), [], none, []⟩])
    .ret)
    .skip)
  (.seq (some [2]) (.reg none [
    ⟨(some 6), .mov (.t 0), [], none, []⟩
    , ⟨(some 7), .call n_math_bits_Len64 [(.t 6)], [], none, []⟩
    , ⟨(some 2), .mov (.t 7), [], none, []⟩])
  .ret)))

def r_pandectref06_short : List ResA := [.t 2]
def c_pandectref06_short : AC := (.seq (some [0]) (.reg none [
    ⟨(some 2), .mov (.c (.bool false)), [], none, []⟩])
  (.seq (some [0]) (.seq (some [0, 3]) (.reg none [
    ⟨(some 3), .mov (.c (.int .i64 0)), [], none, []⟩])
  (.block 0
    (.loop (some [0, 3])
      (.seq (some [0, 3]) (.seq (some [0, 3, 7]) (.reg none [
        ⟨(some 4), .mov (.t 3), [], none, []⟩
        , ⟨(some 5), .mov (.t 0), [], none, []⟩
        , ⟨(some 6), .len (.t 5), [(.sl, (.t 5))], none, []⟩
        , ⟨(some 7), .bin .lss (.t 4) (.t 6), [], none, []⟩])
      (.cond (.t 7)
        .skip
        (.exit 0)))
      (.seq (some [0, 3]) (.block 1
        (.seq (some [0, 3, 16]) (.reg none [
          ⟨(some 10), .mov (.t 0), [], none, []⟩
          , ⟨(some 11), .mov (.t 3), [], none, []⟩
          , ⟨(some 12), .ixs 4 (.t 10) (.t 11), [], none, []⟩
          , ⟨(some 13), .fad 0 (.t 12), [], none, []⟩
          , ⟨(some 14), .ld none (.t 13), [], none, []⟩
          , ⟨(some 15), .len (.t 14), [(.st, (.t 14))], none, []⟩
          , ⟨(some 16), .bin .gtr (.t 15) (.c (.int .i64 100)), [], none, []⟩])
        (.cond (.t 16)
          (.seq (some [2]) (.reg none [
            ⟨(some 2), .mov (.c (.bool false)), [], none, []⟩])
          .ret)
          .skip)))
      (.reg none [
        ⟨(some 8), .mov (.t 3), [], none, []⟩
        , ⟨(some 9), .bin .add (.t 8) (.c (.int .i64 1)), [], none, []⟩
        , ⟨(some 3), .mov (.t 9), [], none, []⟩]))))))
  (.seq (some [2]) (.reg none [
    ⟨(some 17), .mov (.t 0), [], none, []⟩
    , ⟨(some 18), .len (.t 17), [(.sl, (.t 17))], none, []⟩
    , ⟨(some 19), .bin .leq (.t 18) (.c (.int .i64 300)), [], none, []⟩
    , ⟨(some 2), .mov (.t 19), [], none, []⟩])
  .ret)))

def r_pandectref06_Right : List ResA := [.t 2]
def c_pandectref06_Right : AC := (.seq (some [1]) (.reg none [
    ⟨(some 1), .box 8 (.t 0), [], none, []⟩
    , ⟨(some 2), .mov (.c (.bool false)), [], none, []⟩])
  (.seq (some [1]) (.seq (some [1, 7]) (.reg none [
    ⟨(some 5), .ld (some 8) (.t 1), [], none, []⟩
    , ⟨(some 6), .call n_pandectref06_alone [(.t 5)], [], none, []⟩
    , ⟨(some 7), .un .not (.t 6), [], none, []⟩])
  (.cond (.t 7)
    (.seq (some [2]) (.reg none [
      ⟨(some 2), .mov (.c (.bool false)), [], none, []⟩])
    .ret)
    .skip))
  (.seq (some []) (.seq (some [1, 3]) (.reg none [
    ⟨(some 3), .mov (.c (.int .i64 0)), [], none, []⟩])
  (.block 0
    (.loop (some [1, 3])
      (.seq (some [1, 3]) (.seq (some [1, 3, 12]) (.reg none [
        ⟨(some 8), .mov (.t 3), [], none, []⟩
        , ⟨(some 9), .fad 7 (.t 1), [], none, []⟩
        , ⟨(some 10), .ld none (.t 9), [], none, []⟩
        , ⟨(some 11), .len (.t 10), [(.sl, (.t 10))], none, []⟩
        , ⟨(some 12), .bin .lss (.t 8) (.t 11), [], none, []⟩])
      (.cond (.t 12)
        .skip
        (.exit 0)))
      (.seq (some [1, 3]) (.block 1
        (.seq (some [1, 3]) (.seq (some [1, 3, 33]) (.reg (some [[], [0], [], [2], [], [3, 4], [5], [6], [1, 7], [8], [9, 8], [10], [11, 10], [10], [12, 13, 10], [14, 10], [15, 10, 10], [16, 10], [10, 17]]) [
          ⟨(some 15), .fad 3 (.t 1), [], none, []⟩
          , ⟨(some 16), .ld none (.t 15), [], none, []⟩
          , ⟨(some 17), .fad 7 (.t 1), [], none, []⟩
          , ⟨(some 18), .ld none (.t 17), [], none, []⟩
          , ⟨(some 19), .mov (.t 3), [], none, []⟩
          , ⟨(some 20), .ixs 8 (.t 18) (.t 19), [], none, []⟩
          , ⟨(some 21), .fad 3 (.t 20), [], none, []⟩
          , ⟨(some 22), .ld none (.t 21), [], none, []⟩
          , ⟨(some 23), .call n_pandectref06_Nests [(.t 16), (.t 22)], [], none, []⟩
          , ⟨(some 24), .un .not (.t 23), [], none, []⟩
          , ⟨(some 25), .mov (.t 24), [], none, []⟩
          , ⟨(some 26), .fad 7 (.t 1), [], some (25, false), []⟩
          , ⟨(some 27), .ld none (.t 26), [], some (25, false), []⟩
          , ⟨(some 28), .mov (.t 3), [], some (25, false), []⟩
          , ⟨(some 29), .ixs 8 (.t 27) (.t 28), [], some (25, false), []⟩
          , ⟨(some 30), .ld (some 8) (.t 29), [], some (25, false), []⟩
          , ⟨(some 31), .call n_pandectref06_Right [(.t 30)], [], some (25, false), []⟩
          , ⟨(some 32), .un .not (.t 31), [], some (25, false), []⟩
          , ⟨(some 33), .pick (.t 25) (.c (.bool true)) (.t 32), [], none, []⟩])
        (.cond (.t 33)
          (.seq (some [2]) (.reg none [
            ⟨(some 2), .mov (.c (.bool false)), [], none, []⟩])
          .ret)
          .skip))
        (.seq (some [1, 3, 4]) (.reg none [
          ⟨(some 4), .mov (.c (.int .i64 0)), [], none, []⟩])
        (.block 2
          (.loop (some [1, 3, 4])
            (.seq (some [1, 3, 4]) (.seq (some [1, 3, 4, 36]) (.reg none [
              ⟨(some 34), .mov (.t 4), [], none, []⟩
              , ⟨(some 35), .mov (.t 3), [], none, []⟩
              , ⟨(some 36), .bin .lss (.t 34) (.t 35), [], none, []⟩])
            (.cond (.t 36)
              .skip
              (.exit 2)))
            (.seq (some [1, 3, 4]) (.block 3
              (.seq (some [1, 3, 4, 66]) (.reg (some [[], [0], [], [1, 2], [3], [4], [], [6], [], [7, 8], [9], [10], [5, 11], [12], [13], [14, 13], [13], [15, 16, 13], [17, 13], [18, 13], [13], [20, 13], [13], [21, 22, 13], [23, 13], [24, 13], [19, 25, 13], [13, 26]]) [
                ⟨(some 39), .fad 7 (.t 1), [], none, []⟩
                , ⟨(some 40), .ld none (.t 39), [], none, []⟩
                , ⟨(some 41), .mov (.t 4), [], none, []⟩
                , ⟨(some 42), .ixs 8 (.t 40) (.t 41), [], none, []⟩
                , ⟨(some 43), .fad 3 (.t 42), [], none, []⟩
                , ⟨(some 44), .ld none (.t 43), [], none, []⟩
                , ⟨(some 45), .fad 7 (.t 1), [], none, []⟩
                , ⟨(some 46), .ld none (.t 45), [], none, []⟩
                , ⟨(some 47), .mov (.t 3), [], none, []⟩
                , ⟨(some 48), .ixs 8 (.t 46) (.t 47), [], none, []⟩
                , ⟨(some 49), .fad 3 (.t 48), [], none, []⟩
                , ⟨(some 50), .ld none (.t 49), [], none, []⟩
                , ⟨(some 51), .bin .eql (.t 44) (.t 50), [], none, []⟩
                , ⟨(some 52), .mov (.t 51), [], none, []⟩
                , ⟨(some 53), .fad 7 (.t 1), [], some (52, true), []⟩
                , ⟨(some 54), .ld none (.t 53), [], some (52, true), []⟩
                , ⟨(some 55), .mov (.t 4), [], some (52, true), []⟩
                , ⟨(some 56), .ixs 8 (.t 54) (.t 55), [], some (52, true), []⟩
                , ⟨(some 57), .fad 4 (.t 56), [], some (52, true), []⟩
                , ⟨(some 58), .ld none (.t 57), [], some (52, true), []⟩
                , ⟨(some 59), .fad 7 (.t 1), [], some (52, true), []⟩
                , ⟨(some 60), .ld none (.t 59), [], some (52, true), []⟩
                , ⟨(some 61), .mov (.t 3), [], some (52, true), []⟩
                , ⟨(some 62), .ixs 8 (.t 60) (.t 61), [], some (52, true), []⟩
                , ⟨(some 63), .fad 4 (.t 62), [], some (52, true), []⟩
                , ⟨(some 64), .ld none (.t 63), [], some (52, true), []⟩
                , ⟨(some 65), .bin .eql (.t 58) (.t 64), [], some (52, true), []⟩
                , ⟨(some 66), .pick (.t 52) (.t 65) (.c (.bool false)), [], none, []⟩])
              (.cond (.t 66)
                (.seq (some [2]) (.reg none [
                  ⟨(some 2), .mov (.c (.bool false)), [], none, []⟩])
                .ret)
                .skip)))
            (.reg none [
              ⟨(some 37), .mov (.t 4), [], none, []⟩
              , ⟨(some 38), .bin .add (.t 37) (.c (.int .i64 1)), [], none, []⟩
              , ⟨(some 4), .mov (.t 38), [], none, []⟩]))))))))
      (.reg none [
        ⟨(some 13), .mov (.t 3), [], none, []⟩
        , ⟨(some 14), .bin .add (.t 13) (.c (.int .i64 1)), [], none, []⟩
        , ⟨(some 3), .mov (.t 14), [], none, []⟩]))))))
  (.seq (some [2]) (.reg none [
    ⟨(some 2), .mov (.c (.bool true)), [], none, []⟩])
  .ret))))

def r_pandectref06_Depth : List ResA := [.t 2]
def c_pandectref06_Depth : AC := (.seq (some [1]) (.reg none [
    ⟨(some 1), .box 8 (.t 0), [], none, []⟩
    , ⟨(some 2), .mov (.c (.int .i64 0)), [], none, []⟩])
  (.seq (some [1, 3]) (.reg none [
    ⟨(some 3), .mov (.c (.int .i64 0)), [], none, []⟩])
  (.seq (some [3]) (.seq (some [1, 3, 4]) (.reg none [
    ⟨(some 4), .mov (.c (.int .i64 0)), [], none, []⟩])
  (.block 0
    (.loop (some [1, 3, 4])
      (.seq (some [1, 3, 4]) (.seq (some [1, 3, 4, 9]) (.reg none [
        ⟨(some 5), .mov (.t 4), [], none, []⟩
        , ⟨(some 6), .fad 7 (.t 1), [], none, []⟩
        , ⟨(some 7), .ld none (.t 6), [], none, []⟩
        , ⟨(some 8), .len (.t 7), [(.sl, (.t 7))], none, []⟩
        , ⟨(some 9), .bin .lss (.t 5) (.t 8), [], none, []⟩])
      (.cond (.t 9)
        .skip
        (.exit 0)))
      (.seq (some [1, 3, 4]) (.block 1
        (.reg none [
          ⟨(some 12), .mov (.t 3), [], none, []⟩
          , ⟨(some 13), .fad 7 (.t 1), [], none, []⟩
          , ⟨(some 14), .ld none (.t 13), [], none, []⟩
          , ⟨(some 15), .mov (.t 4), [], none, []⟩
          , ⟨(some 16), .ixs 8 (.t 14) (.t 15), [], none, []⟩
          , ⟨(some 17), .ld (some 8) (.t 16), [], none, []⟩
          , ⟨(some 18), .call n_pandectref06_Depth [(.t 17)], [], none, []⟩
          , ⟨(some 19), .bin .add (.c (.int .i64 1)) (.t 18), [], none, []⟩
          , ⟨(some 20), .max (.t 12) (.t 19), [], none, []⟩
          , ⟨(some 3), .mov (.t 20), [], none, []⟩]))
      (.reg none [
        ⟨(some 10), .mov (.t 4), [], none, []⟩
        , ⟨(some 11), .bin .add (.t 10) (.c (.int .i64 1)), [], none, []⟩
        , ⟨(some 4), .mov (.t 11), [], none, []⟩]))))))
  (.seq (some [2]) (.reg none [
    ⟨(some 21), .mov (.t 3), [], none, []⟩
    , ⟨(some 2), .mov (.t 21), [], none, []⟩])
  .ret))))

def r_pandectref06_Count : List ResA := [.t 2]
def c_pandectref06_Count : AC := (.seq (some [1]) (.reg none [
    ⟨(some 1), .box 8 (.t 0), [], none, []⟩
    , ⟨(some 2), .mov (.c (.int .i64 0)), [], none, []⟩])
  (.seq (some [1, 3]) (.reg none [
    ⟨(some 3), .mov (.c (.int .i64 1)), [], none, []⟩])
  (.seq (some [3]) (.seq (some [1, 3, 4]) (.reg none [
    ⟨(some 4), .mov (.c (.int .i64 0)), [], none, []⟩])
  (.block 0
    (.loop (some [1, 3, 4])
      (.seq (some [1, 3, 4]) (.seq (some [1, 3, 4, 9]) (.reg none [
        ⟨(some 5), .mov (.t 4), [], none, []⟩
        , ⟨(some 6), .fad 7 (.t 1), [], none, []⟩
        , ⟨(some 7), .ld none (.t 6), [], none, []⟩
        , ⟨(some 8), .len (.t 7), [(.sl, (.t 7))], none, []⟩
        , ⟨(some 9), .bin .lss (.t 5) (.t 8), [], none, []⟩])
      (.cond (.t 9)
        .skip
        (.exit 0)))
      (.seq (some [1, 3, 4]) (.block 1
        (.reg none [
          ⟨(some 12), .mov (.t 3), [], none, []⟩
          , ⟨(some 13), .fad 7 (.t 1), [], none, []⟩
          , ⟨(some 14), .ld none (.t 13), [], none, []⟩
          , ⟨(some 15), .mov (.t 4), [], none, []⟩
          , ⟨(some 16), .ixs 8 (.t 14) (.t 15), [], none, []⟩
          , ⟨(some 17), .ld (some 8) (.t 16), [], none, []⟩
          , ⟨(some 18), .call n_pandectref06_Count [(.t 17)], [], none, []⟩
          , ⟨(some 19), .bin .add (.t 12) (.t 18), [], none, []⟩
          , ⟨(some 3), .mov (.t 19), [], none, []⟩]))
      (.reg none [
        ⟨(some 10), .mov (.t 4), [], none, []⟩
        , ⟨(some 11), .bin .add (.t 10) (.c (.int .i64 1)), [], none, []⟩
        , ⟨(some 4), .mov (.t 11), [], none, []⟩]))))))
  (.seq (some [2]) (.reg none [
    ⟨(some 20), .mov (.t 3), [], none, []⟩
    , ⟨(some 2), .mov (.t 20), [], none, []⟩])
  .ret))))

def r_pandectref06_Ids : List ResA := [.t 2]
def c_pandectref06_Ids : AC := (.seq (some [1]) (.reg none [
    ⟨(some 1), .box 8 (.t 0), [], none, []⟩
    , ⟨(some 2), .mov (.c (.bool false)), [], none, []⟩])
  (.seq (some [1, 3]) (.reg none [
    ⟨(some 8), .ld (some 8) (.t 1), [], none, []⟩
    , ⟨(some 9), .call n_pandectref06_All [(.t 8)], [], none, []⟩
    , ⟨(some 3), .mov (.t 9), [], none, []⟩])
  (.seq (some [1, 3, 4]) (.reg none [
    ⟨(some 4), .mov (.c (.bool true)), [], none, []⟩])
  (.seq (some [1, 3, 4]) (.seq (some [1, 3, 4, 5]) (.reg none [
    ⟨(some 5), .mov (.c (.int .i64 0)), [], none, []⟩])
  (.block 0
    (.loop (some [1, 3, 4, 5])
      (.seq (some [1, 3, 4, 5]) (.seq (some [1, 3, 4, 5, 13]) (.reg none [
        ⟨(some 10), .mov (.t 5), [], none, []⟩
        , ⟨(some 11), .mov (.t 3), [], none, []⟩
        , ⟨(some 12), .len (.t 11), [(.sl, (.t 11))], none, []⟩
        , ⟨(some 13), .bin .lss (.t 10) (.t 12), [], none, []⟩])
      (.cond (.t 13)
        .skip
        (.exit 0)))
      (.seq (some [1, 3, 4, 5]) (.block 1
        (.reg none [
          ⟨(some 16), .mov (.t 4), [], none, []⟩
          , ⟨(some 17), .mov (.t 16), [], none, []⟩
          , ⟨(some 18), .mov (.t 3), [], some (17, true), []⟩
          , ⟨(some 19), .mov (.t 5), [], some (17, true), []⟩
          , ⟨(some 20), .ixs 3 (.t 18) (.t 19), [], some (17, true), []⟩
          , ⟨(some 21), .ld (some 3) (.t 20), [], some (17, true), []⟩
          , ⟨(some 22), .build [(.int .i64 0), (.int .i64 0), (.int .i64 0)] [], [], some (17, true), []⟩
          , ⟨(some 23), .eqA false [.i .i64, .i .i64, .i .i64] (.t 21) (.t 22), [], some (17, true), []⟩
          , ⟨(some 24), .pick (.t 17) (.t 23) (.c (.bool false)), [], none, []⟩
          , ⟨(some 4), .mov (.t 24), [], none, []⟩]))
      (.reg none [
        ⟨(some 14), .mov (.t 5), [], none, []⟩
        , ⟨(some 15), .bin .add (.t 14) (.c (.int .i64 1)), [], none, []⟩
        , ⟨(some 5), .mov (.t 15), [], none, []⟩]))))))
  (.seq (some [1, 3]) (.seq (some [1, 3, 25]) (.reg none [
    ⟨(some 25), .mov (.t 4), [], none, []⟩])
  (.cond (.t 25)
    (.seq (some [2]) (.reg none [
      ⟨(some 2), .mov (.c (.bool true)), [], none, []⟩])
    .ret)
    .skip))
  (.seq (some [3]) (.seq (some [3, 34]) (.reg (some [[], [0], [1], [], [2, 3], [], [5], [6], [4, 7]]) [
    ⟨(some 26), .mov (.t 3), [], none, []⟩
    , ⟨(some 27), .ixs 3 (.t 26) (.c (.int .i64 0)), [], none, []⟩
    , ⟨(some 28), .ld (some 3) (.t 27), [], none, []⟩
    , ⟨(some 29), .build [(.int .i64 0), (.int .i64 0), (.int .i64 0)] [], [], none, []⟩
    , ⟨(some 30), .eqA false [.i .i64, .i .i64, .i .i64] (.t 28) (.t 29), [], none, []⟩
    , ⟨(some 31), .fad 3 (.t 1), [], none, []⟩
    , ⟨(some 32), .ld none (.t 31), [], none, []⟩
    , ⟨(some 33), .bin .eql (.t 32) (.c (.int .i64 0)), [], none, []⟩
    , ⟨(some 34), .binB true (.t 30) (.t 33), [], none, []⟩])
  (.cond (.t 34)
    (.seq (some [2]) (.reg none [
      ⟨(some 2), .mov (.c (.bool false)), [], none, []⟩])
    .ret)
    .skip))
  (.seq (some []) (.seq (some [3, 6]) (.reg none [
    ⟨(some 6), .mov (.c (.int .i64 0)), [], none, []⟩])
  (.block 2
    (.loop (some [3, 6])
      (.seq (some [3, 6]) (.seq (some [3, 6, 38]) (.reg none [
        ⟨(some 35), .mov (.t 6), [], none, []⟩
        , ⟨(some 36), .mov (.t 3), [], none, []⟩
        , ⟨(some 37), .len (.t 36), [(.sl, (.t 36))], none, []⟩
        , ⟨(some 38), .bin .lss (.t 35) (.t 37), [], none, []⟩])
      (.cond (.t 38)
        .skip
        (.exit 2)))
      (.seq (some [3, 6]) (.block 3
        (.seq (some [3, 6, 7]) (.reg none [
          ⟨(some 7), .mov (.c (.int .i64 0)), [], none, []⟩])
        (.block 4
          (.loop (some [3, 6, 7])
            (.seq (some [3, 6, 7]) (.seq (some [3, 6, 7, 43]) (.reg none [
              ⟨(some 41), .mov (.t 7), [], none, []⟩
              , ⟨(some 42), .mov (.t 6), [], none, []⟩
              , ⟨(some 43), .bin .lss (.t 41) (.t 42), [], none, []⟩])
            (.cond (.t 43)
              .skip
              (.exit 4)))
            (.seq (some [3, 6, 7]) (.block 5
              (.seq (some [3, 6, 7, 54]) (.reg (some [[], [], [0, 1], [2], [], [], [4, 5], [6], [3, 7]]) [
                ⟨(some 46), .mov (.t 3), [], none, []⟩
                , ⟨(some 47), .mov (.t 7), [], none, []⟩
                , ⟨(some 48), .ixs 3 (.t 46) (.t 47), [], none, []⟩
                , ⟨(some 49), .ld (some 3) (.t 48), [], none, []⟩
                , ⟨(some 50), .mov (.t 3), [], none, []⟩
                , ⟨(some 51), .mov (.t 6), [], none, []⟩
                , ⟨(some 52), .ixs 3 (.t 50) (.t 51), [], none, []⟩
                , ⟨(some 53), .ld (some 3) (.t 52), [], none, []⟩
                , ⟨(some 54), .eqA false [.i .i64, .i .i64, .i .i64] (.t 49) (.t 53), [], none, []⟩])
              (.cond (.t 54)
                (.seq (some [2]) (.reg none [
                  ⟨(some 2), .mov (.c (.bool false)), [], none, []⟩])
                .ret)
                .skip)))
            (.reg none [
              ⟨(some 44), .mov (.t 7), [], none, []⟩
              , ⟨(some 45), .bin .add (.t 44) (.c (.int .i64 1)), [], none, []⟩
              , ⟨(some 7), .mov (.t 45), [], none, []⟩])))))))
      (.reg none [
        ⟨(some 39), .mov (.t 6), [], none, []⟩
        , ⟨(some 40), .bin .add (.t 39) (.c (.int .i64 1)), [], none, []⟩
        , ⟨(some 6), .mov (.t 40), [], none, []⟩]))))))
  (.seq (some [2]) (.reg none [
    ⟨(some 2), .mov (.c (.bool true)), [], none, []⟩])
  .ret))))))))

def r_enact_heading : List ResA := [.c (some 8) 6, .t 7]
def c_enact_heading : AC := (.seq (some [3, 4, 5, 6]) (.reg none [
    ⟨(some 3), .box 8 (.t 0), [], none, []⟩
    , ⟨(some 4), .box 8 (.t 1), [], none, []⟩
    , ⟨(some 5), .box 28 (.t 2), [], none, []⟩
    , ⟨(some 6), .alloc [(.int .i64 0), (.int .i64 0), (.int .i64 0), (.int .i64 0), (.str []), (.sl [] .nil), (.sl [] .nil), (.sl [] .nil)], [], none, []⟩
    , ⟨(some 7), .mov (.c (.int .i64 0)), [], none, []⟩])
  (.seq (some [3, 4, 6, 8]) (.reg none [
    ⟨(some 9), .fad 3 (.t 5), [], none, []⟩
    , ⟨(some 10), .fad 14 (.t 9), [], none, []⟩
    , ⟨(some 11), .ld none (.t 10), [], none, []⟩
    , ⟨(some 12), .fad 0 (.t 5), [], none, []⟩
    , ⟨(some 13), .ld none (.t 12), [], none, []⟩
    , ⟨(some 14), .fad 1 (.t 5), [], none, []⟩
    , ⟨(some 15), .ld none (.t 14), [], none, []⟩
    , ⟨(some 16), .call n_wording_Mark [(.t 11), (.t 13), (.t 15), (.c (.int .i64 0))], [], none, []⟩
    , ⟨(some 8), .alloc [(.sl [] .nil)], [], none, []⟩
    , ⟨none, .st 1 (.t 8) (.t 16), [], none, []⟩])
  (.seq (some [6, 7]) (.reg none [
    ⟨(some 17), .ld (some 8) (.t 3), [], none, []⟩
    , ⟨(some 18), .fad 0 (.t 4), [], none, []⟩
    , ⟨(some 19), .ld (some 3) (.t 18), [], none, []⟩
    , ⟨(some 20), .fnc n_enact_heading_1 [(.t 8)], [], none, []⟩
    , ⟨(some 21), .call n_enact_with [(.t 17), (.t 19), (.t 20)], [], none, []⟩
    , ⟨none, .st 8 (.t 6) (.t 21), [], none, []⟩
    , ⟨(some 7), .mov (.c (.int .i64 0)), [], none, []⟩])
  .ret)))

def r_syntax_rules : List ResA := [.t 0]
def c_syntax_rules : AC := (.seq (some []) (.reg none [
    ⟨(some 0), .mov (.c .top), [], none, []⟩])
  (.seq (some [0]) (.reg none [
    ⟨(some 1), .mkmap, [], none, []⟩
    , ⟨(some 2), .build [.nilfn, .nilfn] [(0, 1, (.c (.fn n_syntax_rules_1 []))), (1, 1, (.c (.fn n_syntax_rules_2 [])))], [], none, []⟩
    , ⟨none, .mset false [.i .i64] (.t 1) (.c (.int .i64 0)) (.t 2), [], none, []⟩
    , ⟨(some 3), .build [.nilfn, .nilfn] [(0, 1, (.c (.fn n_syntax_rules_3 []))), (1, 1, (.c (.fn n_syntax_rules_4 [])))], [], none, []⟩
    , ⟨none, .mset false [.i .i64] (.t 1) (.c (.int .i64 1)) (.t 3), [], none, []⟩
    , ⟨(some 4), .build [.nilfn, .nilfn] [(0, 1, (.c (.fn n_syntax_rules_5 []))), (1, 1, (.c (.fn n_syntax_rules_6 [])))], [], none, []⟩
    , ⟨none, .mset false [.i .i64] (.t 1) (.c (.int .i64 2)) (.t 4), [], none, []⟩
    , ⟨(some 5), .build [.nilfn, .nilfn] [(0, 1, (.c (.fn n_syntax_rules_7 []))), (1, 1, (.c (.fn n_syntax_rules_8 [])))], [], none, []⟩
    , ⟨none, .mset false [.i .i64] (.t 1) (.c (.int .i64 3)) (.t 5), [], none, []⟩
    , ⟨(some 6), .build [.nilfn, .nilfn] [(0, 1, (.c (.fn n_syntax_rules_9 []))), (1, 1, (.c (.fn n_syntax_rules_10 [])))], [], none, []⟩
    , ⟨none, .mset false [.i .i64] (.t 1) (.c (.int .i64 4)) (.t 6), [], none, []⟩
    , ⟨(some 7), .build [.nilfn, .nilfn] [(0, 1, (.c (.fn n_syntax_rules_11 []))), (1, 1, (.c (.fn n_syntax_rules_12 [])))], [], none, []⟩
    , ⟨none, .mset false [.i .i64] (.t 1) (.c (.int .i64 5)) (.t 7), [], none, []⟩
    , ⟨(some 8), .build [.nilfn, .nilfn] [(0, 1, (.c (.fn n_syntax_rules_13 []))), (1, 1, (.c (.fn n_syntax_rules_14 [])))], [], none, []⟩
    , ⟨none, .mset false [.i .i64] (.t 1) (.c (.int .i64 6)) (.t 8), [], none, []⟩
    , ⟨(some 9), .ld (some 2) (.c (.cptr g_0 0)), [], none, []⟩
    , ⟨none, .mset false [.i .i64] (.t 1) (.c (.int .i64 7)) (.t 9), [], none, []⟩
    , ⟨(some 10), .ld (some 2) (.c (.cptr g_0 0)), [], none, []⟩
    , ⟨none, .mset false [.i .i64] (.t 1) (.c (.int .i64 8)) (.t 10), [], none, []⟩
    , ⟨(some 11), .ld (some 2) (.c (.cptr g_0 0)), [], none, []⟩
    , ⟨none, .mset false [.i .i64] (.t 1) (.c (.int .i64 9)) (.t 11), [], none, []⟩
    , ⟨(some 12), .build [.nilfn, .nilfn] [(0, 1, (.c (.fn n_syntax_rules_15 []))), (1, 1, (.c (.fn n_syntax_rules_16 [])))], [], none, []⟩
    , ⟨none, .mset false [.i .i64] (.t 1) (.c (.int .i64 10)) (.t 12), [], none, []⟩
    , ⟨(some 13), .build [.nilfn, .nilfn] [(0, 1, (.c (.fn n_syntax_rules_17 []))), (1, 1, (.c (.fn n_syntax_rules_18 [])))], [], none, []⟩
    , ⟨none, .mset false [.i .i64] (.t 1) (.c (.int .i64 11)) (.t 13), [], none, []⟩
    , ⟨(some 14), .mov (.t 1), [], none, []⟩
    , ⟨(some 0), .mov (.t 14), [], none, []⟩])
  .ret))

def r_address_Valid : List ResA := [.t 2]
def c_address_Valid : AC := (.seq (some [0]) (.reg none [
    ⟨(some 2), .mov (.c (.bool false)), [], none, []⟩])
  (.seq (some [0]) (.seq (some [0, 5, 6, 7]) (.reg none [
    ⟨(some 5), .mov (.t 0), [], none, []⟩
    , ⟨(some 6), .len (.t 5), [(.sl, (.t 5))], none, []⟩
    , ⟨(some 7), .mov (.c (.int .i64 0)), [], none, []⟩])
  (.block 0
    (.loop (some [0, 5, 6, 7])
      (.seq (some [0, 5, 6, 7, 8]) (.reg none [
        ⟨(some 8), .bin .lss (.t 7) (.t 6), [], none, []⟩])
      (.seq (some [0, 5, 6, 7]) (.cond (.t 8)
        .skip
        (.exit 0))
      (.seq (some [0, 5, 6, 7]) (.block 1
        (.seq (some [0, 3, 4, 5, 6, 7]) (.reg none [
          ⟨(some 9), .mov (.t 7), [], none, []⟩
          , ⟨(some 10), .ixs 2 (.t 5) (.t 7), [], none, []⟩
          , ⟨(some 11), .ld (some 2) (.t 10), [], none, []⟩
          , ⟨(some 4), .alloc [(.int .i64 0), (.str [])], [], none, []⟩
          , ⟨(some 3), .mov (.t 9), [], none, []⟩
          , ⟨none, .st 2 (.t 4) (.t 11), [], none, []⟩])
        (.seq (some [0, 4, 5, 6, 7]) (.seq (some [0, 4, 5, 6, 7, 17]) (.reg none [
          ⟨(some 12), .mov (.t 3), [], none, []⟩
          , ⟨(some 13), .bin .eql (.t 12) (.c (.int .i64 0)), [], none, []⟩
          , ⟨(some 14), .mov (.t 13), [], none, []⟩
          , ⟨(some 15), .ld (some 2) (.t 4), [], some (14, true), []⟩
          , ⟨(some 16), .call n_address_book [(.t 15)], [], some (14, true), []⟩
          , ⟨(some 17), .pick (.t 14) (.t 16) (.c (.bool false)), [], none, []⟩])
        (.cond (.t 17)
          (.exit 1)
          .skip))
        (.seq (some [0, 5, 6, 7, 31]) (.reg none [
          ⟨(some 18), .fad 0 (.t 4), [], none, []⟩
          , ⟨(some 19), .ld none (.t 18), [], none, []⟩
          , ⟨(some 20), .bin .leq (.t 19) (.c (.int .i64 0)), [], none, []⟩
          , ⟨(some 21), .mov (.t 20), [], none, []⟩
          , ⟨(some 22), .fad 0 (.t 4), [], some (21, false), []⟩
          , ⟨(some 23), .ld none (.t 22), [], some (21, false), []⟩
          , ⟨(some 24), .bin .gtr (.t 23) (.c (.int .i64 7)), [], some (21, false), []⟩
          , ⟨(some 25), .pick (.t 21) (.c (.bool true)) (.t 24), [], none, []⟩
          , ⟨(some 26), .mov (.t 25), [], none, []⟩
          , ⟨(some 27), .fad 1 (.t 4), [], some (26, false), []⟩
          , ⟨(some 28), .ld none (.t 27), [], some (26, false), []⟩
          , ⟨(some 29), .call n_label_Valid [(.t 28)], [], some (26, false), []⟩
          , ⟨(some 30), .un .not (.t 29), [], some (26, false), []⟩
          , ⟨(some 31), .pick (.t 26) (.c (.bool true)) (.t 30), [], none, []⟩])
        (.cond (.t 31)
          (.seq (some [2]) (.reg none [
            ⟨(some 2), .mov (.c (.bool false)), [], none, []⟩])
          .ret)
          .skip)))))
      (.reg none [
        ⟨(some 32), .bin .add (.t 7) (.c (.int .i64 1)), [], none, []⟩
        , ⟨(some 7), .mov (.t 32), [], none, []⟩])))))))
  (.seq (some [2]) (.reg none [
    ⟨(some 33), .mov (.t 0), [], none, []⟩
    , ⟨(some 34), .len (.t 33), [(.sl, (.t 33))], none, []⟩
    , ⟨(some 35), .bin .leq (.t 34) (.c (.int .i64 9)), [], none, []⟩
    , ⟨(some 2), .mov (.t 35), [], none, []⟩])
  .ret)))

def r_syntax_begins : List ResA := [.t 2]
def c_syntax_begins : AC := (.seq (some [1]) (.reg none [
    ⟨(some 1), .box 3 (.t 0), [], none, []⟩
    , ⟨(some 2), .mov (.c (.bool false)), [], none, []⟩])
  (.seq (some []) (.seq (some [1, 4]) (.reg none [
    ⟨(some 3), .fad 0 (.t 1), [], none, []⟩
    , ⟨(some 4), .ld none (.t 3), [], none, []⟩])
  (.block 0
    (.seq (some [1, 4, 5]) (.seq (some [1, 4, 5]) (.reg none [
      ⟨(some 6), .bin .eql (.t 4) (.c (.int .i64 0)), [], none, []⟩
      , ⟨(some 5), .mov (.t 6), [], none, []⟩])
    (.cond (.t 5)
      .skip
      (.reg none [
        ⟨(some 7), .bin .eql (.t 4) (.c (.int .i64 2)), [], none, []⟩
        , ⟨(some 5), .mov (.t 7), [], none, []⟩])))
    (.cond (.t 5)
      (.seq (some [2]) (.reg none [
        ⟨(some 8), .fad 1 (.t 1), [], none, []⟩
        , ⟨(some 9), .ld none (.t 8), [], none, []⟩
        , ⟨(some 10), .bin .eql (.t 9) (.c (.int .i64 0)), [], none, []⟩
        , ⟨(some 11), .mov (.t 10), [], none, []⟩
        , ⟨(some 12), .fad 2 (.t 1), [], some (11, true), []⟩
        , ⟨(some 13), .ld none (.t 12), [], some (11, true), []⟩
        , ⟨(some 14), .bin .eql (.t 13) (.c (.str [])), [], some (11, true), []⟩
        , ⟨(some 15), .pick (.t 11) (.t 14) (.c (.bool false)), [], none, []⟩
        , ⟨(some 2), .mov (.t 15), [], none, []⟩])
      .ret)
      (.seq (some [1, 4, 16]) (.reg none [
        ⟨(some 17), .bin .eql (.t 4) (.c (.int .i64 1)), [], none, []⟩
        , ⟨(some 16), .mov (.t 17), [], none, []⟩])
      (.cond (.t 16)
        (.seq (some [2]) (.reg none [
          ⟨(some 18), .fad 1 (.t 1), [], none, []⟩
          , ⟨(some 19), .ld none (.t 18), [], none, []⟩
          , ⟨(some 20), .call n_syntax_within [(.t 19), (.c (.int .i64 0)), (.c (.int .i64 1048576))], [], none, []⟩
          , ⟨(some 21), .mov (.t 20), [], none, []⟩
          , ⟨(some 22), .fad 2 (.t 1), [], some (21, true), []⟩
          , ⟨(some 23), .ld none (.t 22), [], some (21, true), []⟩
          , ⟨(some 24), .bin .eql (.t 23) (.c (.str [])), [], some (21, true), []⟩
          , ⟨(some 25), .pick (.t 21) (.t 24) (.c (.bool false)), [], none, []⟩
          , ⟨(some 2), .mov (.t 25), [], none, []⟩])
        .ret)
        (.seq (some [1, 26]) (.reg none [
          ⟨(some 27), .bin .eql (.t 4) (.c (.int .i64 3)), [], none, []⟩
          , ⟨(some 26), .mov (.t 27), [], none, []⟩])
        (.cond (.t 26)
          (.seq (some [2]) (.reg none [
            ⟨(some 28), .fad 1 (.t 1), [], none, []⟩
            , ⟨(some 29), .ld none (.t 28), [], none, []⟩
            , ⟨(some 30), .bin .eql (.t 29) (.c (.int .i64 0)), [], none, []⟩
            , ⟨(some 31), .mov (.t 30), [], none, []⟩
            , ⟨(some 32), .fad 2 (.t 1), [], some (31, true), []⟩
            , ⟨(some 33), .ld none (.t 32), [], some (31, true), []⟩
            , ⟨(some 34), .call n_syntax_isName [(.t 33)], [], some (31, true), []⟩
            , ⟨(some 35), .pick (.t 31) (.t 34) (.c (.bool false)), [], none, []⟩
            , ⟨(some 2), .mov (.t 35), [], none, []⟩])
          .ret)
          .skip))))))))
  (.seq (some [2]) (.reg none [
    ⟨(some 2), .mov (.c (.bool false)), [], none, []⟩])
  .ret)))

def r_syntax_Equal : List ResA := [.t 4]
def c_syntax_Equal : AC := (.seq (some [2, 3]) (.reg none [
    ⟨(some 2), .box 25 (.t 0), [], none, []⟩
    , ⟨(some 3), .box 25 (.t 1), [], none, []⟩
    , ⟨(some 4), .mov (.c (.bool false)), [], none, []⟩])
  (.seq (some [2, 3, 5]) (.reg none [
    ⟨(some 8), .fad 0 (.t 2), [], none, []⟩
    , ⟨(some 9), .ld none (.t 8), [], none, []⟩
    , ⟨(some 10), .fad 0 (.t 3), [], none, []⟩
    , ⟨(some 11), .ld none (.t 10), [], none, []⟩
    , ⟨(some 12), .bin .eql (.t 9) (.t 11), [], none, []⟩
    , ⟨(some 13), .mov (.t 12), [], none, []⟩
    , ⟨(some 14), .fad 3 (.t 2), [], some (13, true), []⟩
    , ⟨(some 15), .ld none (.t 14), [], some (13, true), []⟩
    , ⟨(some 16), .fad 3 (.t 3), [], some (13, true), []⟩
    , ⟨(some 17), .ld none (.t 16), [], some (13, true), []⟩
    , ⟨(some 18), .bin .eql (.t 15) (.t 17), [], some (13, true), []⟩
    , ⟨(some 19), .pick (.t 13) (.t 18) (.c (.bool false)), [], none, []⟩
    , ⟨(some 20), .mov (.t 19), [], none, []⟩
    , ⟨(some 21), .fad 4 (.t 2), [], some (20, true), []⟩
    , ⟨(some 22), .ld none (.t 21), [], some (20, true), []⟩
    , ⟨(some 23), .fad 4 (.t 3), [], some (20, true), []⟩
    , ⟨(some 24), .ld none (.t 23), [], some (20, true), []⟩
    , ⟨(some 25), .bin .eql (.t 22) (.t 24), [], some (20, true), []⟩
    , ⟨(some 26), .pick (.t 20) (.t 25) (.c (.bool false)), [], none, []⟩
    , ⟨(some 27), .mov (.t 26), [], none, []⟩
    , ⟨(some 28), .fad 20 (.t 2), [], some (27, true), []⟩
    , ⟨(some 29), .ld none (.t 28), [], some (27, true), []⟩
    , ⟨(some 30), .fad 20 (.t 3), [], some (27, true), []⟩
    , ⟨(some 31), .ld none (.t 30), [], some (27, true), []⟩
    , ⟨(some 32), .bin .eql (.t 29) (.t 31), [], some (27, true), []⟩
    , ⟨(some 33), .pick (.t 27) (.t 32) (.c (.bool false)), [], none, []⟩
    , ⟨(some 34), .mov (.t 33), [], none, []⟩
    , ⟨(some 35), .fad 21 (.t 2), [], some (34, true), []⟩
    , ⟨(some 36), .ld none (.t 35), [], some (34, true), []⟩
    , ⟨(some 37), .fad 21 (.t 3), [], some (34, true), []⟩
    , ⟨(some 38), .ld none (.t 37), [], some (34, true), []⟩
    , ⟨(some 39), .bin .eql (.t 36) (.t 38), [], some (34, true), []⟩
    , ⟨(some 40), .pick (.t 34) (.t 39) (.c (.bool false)), [], none, []⟩
    , ⟨(some 41), .mov (.t 40), [], none, []⟩
    , ⟨(some 42), .fad 22 (.t 2), [], some (41, true), []⟩
    , ⟨(some 43), .ld none (.t 42), [], some (41, true), []⟩
    , ⟨(some 44), .fad 22 (.t 3), [], some (41, true), []⟩
    , ⟨(some 45), .ld none (.t 44), [], some (41, true), []⟩
    , ⟨(some 46), .bin .eql (.t 43) (.t 45), [], some (41, true), []⟩
    , ⟨(some 47), .pick (.t 41) (.t 46) (.c (.bool false)), [], none, []⟩
    , ⟨(some 5), .mov (.t 47), [], none, []⟩])
  (.seq (some [2, 3, 5, 6]) (.reg none [
    ⟨(some 48), .fad 15 (.t 2), [], none, []⟩
    , ⟨(some 49), .ld none (.t 48), [], none, []⟩
    , ⟨(some 50), .fad 15 (.t 3), [], none, []⟩
    , ⟨(some 51), .ld none (.t 50), [], none, []⟩
    , ⟨(some 52), .bin .eql (.t 49) (.t 51), [], none, []⟩
    , ⟨(some 53), .mov (.t 52), [], none, []⟩
    , ⟨(some 54), .fad 16 (.t 2), [], some (53, true), []⟩
    , ⟨(some 55), .ld none (.t 54), [], some (53, true), []⟩
    , ⟨(some 56), .fad 16 (.t 3), [], some (53, true), []⟩
    , ⟨(some 57), .ld none (.t 56), [], some (53, true), []⟩
    , ⟨(some 58), .bin .eql (.t 55) (.t 57), [], some (53, true), []⟩
    , ⟨(some 59), .pick (.t 53) (.t 58) (.c (.bool false)), [], none, []⟩
    , ⟨(some 60), .mov (.t 59), [], none, []⟩
    , ⟨(some 61), .fad 23 (.t 2), [], some (60, true), []⟩
    , ⟨(some 62), .ld none (.t 61), [], some (60, true), []⟩
    , ⟨(some 63), .fad 23 (.t 3), [], some (60, true), []⟩
    , ⟨(some 64), .ld none (.t 63), [], some (60, true), []⟩
    , ⟨(some 65), .bin .eql (.t 62) (.t 64), [], some (60, true), []⟩
    , ⟨(some 66), .pick (.t 60) (.t 65) (.c (.bool false)), [], none, []⟩
    , ⟨(some 67), .mov (.t 66), [], none, []⟩
    , ⟨(some 68), .fad 17 (.t 2), [], some (67, true), []⟩
    , ⟨(some 69), .ld (some 3) (.t 68), [], some (67, true), []⟩
    , ⟨(some 70), .fad 17 (.t 3), [], some (67, true), []⟩
    , ⟨(some 71), .ld (some 3) (.t 70), [], some (67, true), []⟩
    , ⟨(some 72), .eqA false [.i .i64, .i .i64, .s] (.t 69) (.t 71), [], some (67, true), []⟩
    , ⟨(some 73), .pick (.t 67) (.t 72) (.c (.bool false)), [], none, []⟩
    , ⟨(some 6), .mov (.t 73), [], none, []⟩])
  (.seq (some [2, 3, 5, 6, 7]) (.reg none [
    ⟨(some 74), .fad 1 (.t 2), [], none, []⟩
    , ⟨(some 75), .ld none (.t 74), [], none, []⟩
    , ⟨(some 76), .fad 1 (.t 3), [], none, []⟩
    , ⟨(some 77), .ld none (.t 76), [], none, []⟩
    , ⟨(some 78), .call n_api_Step_ [(.t 75), (.t 77)], [], none, []⟩
    , ⟨(some 79), .mov (.t 78), [], none, []⟩
    , ⟨(some 80), .fad 2 (.t 2), [], some (79, true), []⟩
    , ⟨(some 81), .ld none (.t 80), [], some (79, true), []⟩
    , ⟨(some 82), .fad 2 (.t 3), [], some (79, true), []⟩
    , ⟨(some 83), .ld none (.t 82), [], some (79, true), []⟩
    , ⟨(some 84), .call n_api_Step_ [(.t 81), (.t 83)], [], some (79, true), []⟩
    , ⟨(some 85), .pick (.t 79) (.t 84) (.c (.bool false)), [], none, []⟩
    , ⟨(some 86), .mov (.t 85), [], none, []⟩
    , ⟨(some 87), .fad 13 (.t 2), [], some (86, true), []⟩
    , ⟨(some 88), .ld none (.t 87), [], some (86, true), []⟩
    , ⟨(some 89), .fad 13 (.t 3), [], some (86, true), []⟩
    , ⟨(some 90), .ld none (.t 89), [], some (86, true), []⟩
    , ⟨(some 91), .call n_slices_Equal___string_string_ [(.t 88), (.t 90)], [], some (86, true), []⟩
    , ⟨(some 92), .pick (.t 86) (.t 91) (.c (.bool false)), [], none, []⟩
    , ⟨(some 93), .mov (.t 92), [], none, []⟩
    , ⟨(some 94), .fad 14 (.t 2), [], some (93, true), []⟩
    , ⟨(some 95), .ld none (.t 94), [], some (93, true), []⟩
    , ⟨(some 96), .fad 14 (.t 3), [], some (93, true), []⟩
    , ⟨(some 97), .ld none (.t 96), [], some (93, true), []⟩
    , ⟨(some 98), .call n_slices_Equal___string_string_ [(.t 95), (.t 97)], [], some (93, true), []⟩
    , ⟨(some 99), .pick (.t 93) (.t 98) (.c (.bool false)), [], none, []⟩
    , ⟨(some 7), .mov (.t 99), [], none, []⟩])
  (.seq (some [4]) (.reg none [
    ⟨(some 100), .mov (.t 5), [], none, []⟩
    , ⟨(some 101), .mov (.t 100), [], none, []⟩
    , ⟨(some 102), .mov (.t 6), [], some (101, true), []⟩
    , ⟨(some 103), .pick (.t 101) (.t 102) (.c (.bool false)), [], none, []⟩
    , ⟨(some 104), .mov (.t 103), [], none, []⟩
    , ⟨(some 105), .mov (.t 7), [], some (104, true), []⟩
    , ⟨(some 106), .pick (.t 104) (.t 105) (.c (.bool false)), [], none, []⟩
    , ⟨(some 107), .mov (.t 106), [], none, []⟩
    , ⟨(some 108), .fad 5 (.t 2), [], some (107, true), []⟩
    , ⟨(some 109), .ld (some 8) (.t 108), [], some (107, true), []⟩
    , ⟨(some 110), .fad 5 (.t 3), [], some (107, true), []⟩
    , ⟨(some 111), .ld (some 8) (.t 110), [], some (107, true), []⟩
    , ⟨(some 112), .call n_unit_Equal [(.t 109), (.t 111)], [], some (107, true), []⟩
    , ⟨(some 113), .pick (.t 107) (.t 112) (.c (.bool false)), [], none, []⟩
    , ⟨(some 114), .mov (.t 113), [], none, []⟩
    , ⟨(some 115), .fad 24 (.t 2), [], some (114, true), []⟩
    , ⟨(some 116), .ld none (.t 115), [], some (114, true), []⟩
    , ⟨(some 117), .fad 24 (.t 3), [], some (114, true), []⟩
    , ⟨(some 118), .ld none (.t 117), [], some (114, true), []⟩
    , ⟨(some 119), .call n_api_Item_ [(.t 116), (.t 118), (.c (.fn n_syntax_Equal []))], [], some (114, true), []⟩
    , ⟨(some 120), .pick (.t 114) (.t 119) (.c (.bool false)), [], none, []⟩
    , ⟨(some 4), .mov (.t 120), [], none, []⟩])
  .ret)))))

def r_address_FindAll : List ResA := [.t 4]
def c_address_FindAll : AC := (.seq (some [1, 2]) (.reg none [
    ⟨(some 2), .box 8 (.t 0), [], none, []⟩
    , ⟨(some 4), .mov (.c (.sl [] .nil)), [], none, []⟩])
  (.seq (some [1, 2, 5]) (.reg none [
    ⟨(some 5), .mov (.c (.sl [] .nil)), [], none, []⟩])
  (.seq (some [5]) (.seq (some [5, 10, 11, 12]) (.reg none [
    ⟨(some 8), .ld (some 8) (.t 2), [], none, []⟩
    , ⟨(some 9), .mov (.t 1), [], none, []⟩
    , ⟨(some 10), .call n_address_found [(.t 8), (.t 9)], [], none, []⟩
    , ⟨(some 11), .len (.t 10), [(.sl, (.t 10))], none, []⟩
    , ⟨(some 12), .mov (.c (.int .i64 0)), [], none, []⟩])
  (.block 0
    (.loop (some [5, 10, 11, 12])
      (.seq (some [5, 10, 11, 12, 13]) (.reg none [
        ⟨(some 13), .bin .lss (.t 12) (.t 11), [], none, []⟩])
      (.seq (some [5, 10, 11, 12]) (.cond (.t 13)
        .skip
        (.exit 0))
      (.seq (some [5, 10, 11, 12]) (.block 1
        (.seq (some [5, 7, 10, 11, 12]) (.reg none [
          ⟨(some 14), .ixs 8 (.t 10) (.t 12), [], none, []⟩
          , ⟨(some 15), .ld (some 8) (.t 14), [], none, []⟩
          , ⟨(some 7), .alloc [(.int .i64 0), (.int .i64 0), (.int .i64 0), (.int .i64 0), (.str []), (.sl [] .nil), (.sl [] .nil), (.sl [] .nil)], [], none, []⟩
          , ⟨none, .st 8 (.t 7) (.t 15), [], none, []⟩])
        (.reg none [
          ⟨(some 16), .mov (.t 5), [], none, []⟩
          , ⟨(some 17), .fad 0 (.t 7), [], none, []⟩
          , ⟨(some 18), .ld (some 3) (.t 17), [], none, []⟩
          , ⟨(some 19), .lit 3 [(.int .i64 0), (.int .i64 0), (.int .i64 0)] 1 [(0, (.t 18))], [], none, []⟩
          , ⟨(some 20), .app 3 24 (.t 16) (.t 19), [], none, []⟩
          , ⟨(some 5), .mov (.t 20), [], none, []⟩])))
      (.reg none [
        ⟨(some 21), .bin .add (.t 12) (.c (.int .i64 1)), [], none, []⟩
        , ⟨(some 12), .mov (.t 21), [], none, []⟩])))))))
  (.seq (some [4]) (.reg none [
    ⟨(some 22), .mov (.t 5), [], none, []⟩
    , ⟨(some 4), .mov (.t 22), [], none, []⟩])
  .ret))))

def r_unit_way : List ResA := [.t 4]
def c_unit_way : AC := (.seq (some [2, 3]) (.reg none [
    ⟨(some 2), .box 8 (.t 0), [], none, []⟩
    , ⟨(some 3), .box 3 (.t 1), [], none, []⟩
    , ⟨(some 4), .mov (.c (.sl [] .nil)), [], none, []⟩])
  (.seq (some [2, 3]) (.seq (some [2, 3, 11]) (.reg none [
    ⟨(some 8), .fad 0 (.t 2), [], none, []⟩
    , ⟨(some 9), .ld (some 3) (.t 8), [], none, []⟩
    , ⟨(some 10), .ld (some 3) (.t 3), [], none, []⟩
    , ⟨(some 11), .eqA false [.i .i64, .i .i64, .i .i64] (.t 9) (.t 10), [], none, []⟩])
  (.cond (.t 11)
    (.seq (some [4]) (.reg none [
      ⟨(some 12), .ld (some 8) (.t 2), [], none, []⟩
      , ⟨(some 13), .lit 8 [(.int .i64 0), (.int .i64 0), (.int .i64 0), (.int .i64 0), (.str []), (.sl [] .nil), (.sl [] .nil), (.sl [] .nil)] 1 [(0, (.t 12))], [], none, []⟩
      , ⟨(some 4), .mov (.t 13), [], none, []⟩])
    .ret)
    .skip))
  (.seq (some []) (.seq (some [2, 3, 15, 16, 17]) (.reg none [
    ⟨(some 14), .fad 7 (.t 2), [], none, []⟩
    , ⟨(some 15), .ld none (.t 14), [], none, []⟩
    , ⟨(some 16), .len (.t 15), [(.sl, (.t 15))], none, []⟩
    , ⟨(some 17), .mov (.c (.int .i64 0)), [], none, []⟩])
  (.block 0
    (.loop (some [2, 3, 15, 16, 17])
      (.seq (some [2, 3, 15, 16, 17, 18]) (.reg none [
        ⟨(some 18), .bin .lss (.t 17) (.t 16), [], none, []⟩])
      (.seq (some [2, 3, 15, 16, 17]) (.cond (.t 18)
        .skip
        (.exit 0))
      (.seq (some [2, 3, 15, 16, 17]) (.block 1
        (.seq (some [2, 3, 6, 15, 16, 17]) (.reg none [
          ⟨(some 19), .ixs 8 (.t 15) (.t 17), [], none, []⟩
          , ⟨(some 20), .ld (some 8) (.t 19), [], none, []⟩
          , ⟨(some 6), .alloc [(.int .i64 0), (.int .i64 0), (.int .i64 0), (.int .i64 0), (.str []), (.sl [] .nil), (.sl [] .nil), (.sl [] .nil)], [], none, []⟩
          , ⟨none, .st 8 (.t 6) (.t 20), [], none, []⟩])
        (.seq (some [2, 3, 7, 15, 16, 17]) (.reg none [
          ⟨(some 21), .ld (some 8) (.t 6), [], none, []⟩
          , ⟨(some 22), .ld (some 3) (.t 3), [], none, []⟩
          , ⟨(some 23), .call n_unit_way [(.t 21), (.t 22)], [], none, []⟩
          , ⟨(some 7), .mov (.t 23), [], none, []⟩])
        (.seq (some [2, 3, 7, 15, 16, 17, 25]) (.reg none [
          ⟨(some 24), .mov (.t 7), [], none, []⟩
          , ⟨(some 25), .binN true (.t 24) (.c (.sl [] .nil)), [(.sl, (.t 24)), (.sl, (.c (.sl [] .nil)))], none, []⟩])
        (.cond (.t 25)
          (.seq (some [4]) (.reg none [
            ⟨(some 26), .ld (some 8) (.t 2), [], none, []⟩
            , ⟨(some 27), .lit 8 [(.int .i64 0), (.int .i64 0), (.int .i64 0), (.int .i64 0), (.str []), (.sl [] .nil), (.sl [] .nil), (.sl [] .nil)] 1 [(0, (.t 26))], [], none, []⟩
            , ⟨(some 28), .mov (.t 7), [], none, []⟩
            , ⟨(some 29), .app 8 120 (.t 27) (.t 28), [], none, []⟩
            , ⟨(some 4), .mov (.t 29), [], none, []⟩])
          .ret)
          .skip)))))
      (.reg none [
        ⟨(some 30), .bin .add (.t 17) (.c (.int .i64 1)), [], none, []⟩
        , ⟨(some 17), .mov (.t 30), [], none, []⟩])))))))
  (.seq (some [4]) (.reg none [
    ⟨(some 4), .mov (.c (.sl [] .nil)), [], none, []⟩])
  .ret))))

def r_unit_copied : List ResA := [.c (some 8) 2]
def c_unit_copied : AC := (.seq (some [1, 2]) (.reg none [
    ⟨(some 1), .box 8 (.t 0), [], none, []⟩
    , ⟨(some 2), .alloc [(.int .i64 0), (.int .i64 0), (.int .i64 0), (.int .i64 0), (.str []), (.sl [] .nil), (.sl [] .nil), (.sl [] .nil)], [], none, []⟩])
  (.seq (some [1, 2]) (.reg (some [[], [0], [1], [], [3], [4, 2], [0, 1, 2, 3, 4], [6, 2, 5, 0, 1, 2, 3, 4], [0, 1, 2, 3, 4, 5, 6, 7], [8, 5, 7, 0, 1, 2, 3, 4, 5, 6, 7]]) [
    ⟨(some 6), .fad 5 (.t 1), [], none, []⟩
    , ⟨(some 7), .ld none (.t 6), [], none, []⟩
    , ⟨(some 8), .call n_api_Word__154 [(.t 7)], [], none, []⟩
    , ⟨(some 9), .fad 6 (.t 1), [], none, []⟩
    , ⟨(some 10), .ld none (.t 9), [], none, []⟩
    , ⟨(some 11), .call n_api_Word__154 [(.t 10)], [], none, []⟩
    , ⟨(some 12), .fad 5 (.t 1), [], none, []⟩
    , ⟨none, .st 1 (.t 12) (.t 8), [], none, []⟩
    , ⟨(some 13), .fad 6 (.t 1), [], none, []⟩
    , ⟨none, .st 1 (.t 13) (.t 11), [], none, []⟩])
  (.seq (some [1, 2, 3]) (.reg none [
    ⟨(some 3), .mov (.c (.sl [] .nil)), [], none, []⟩])
  (.seq (some [1, 2, 3]) (.seq (some [1, 2, 3, 15, 16, 17]) (.reg none [
    ⟨(some 14), .fad 7 (.t 1), [], none, []⟩
    , ⟨(some 15), .ld none (.t 14), [], none, []⟩
    , ⟨(some 16), .len (.t 15), [(.sl, (.t 15))], none, []⟩
    , ⟨(some 17), .mov (.c (.int .i64 0)), [], none, []⟩])
  (.block 0
    (.loop (some [1, 2, 3, 15, 16, 17])
      (.seq (some [1, 2, 3, 15, 16, 17, 18]) (.reg none [
        ⟨(some 18), .bin .lss (.t 17) (.t 16), [], none, []⟩])
      (.seq (some [1, 2, 3, 15, 16, 17]) (.cond (.t 18)
        .skip
        (.exit 0))
      (.seq (some [1, 2, 3, 15, 16, 17]) (.block 1
        (.seq (some [1, 2, 3, 5, 15, 16, 17]) (.reg none [
          ⟨(some 19), .ixs 8 (.t 15) (.t 17), [], none, []⟩
          , ⟨(some 20), .ld (some 8) (.t 19), [], none, []⟩
          , ⟨(some 5), .alloc [(.int .i64 0), (.int .i64 0), (.int .i64 0), (.int .i64 0), (.str []), (.sl [] .nil), (.sl [] .nil), (.sl [] .nil)], [], none, []⟩
          , ⟨none, .st 8 (.t 5) (.t 20), [], none, []⟩])
        (.reg none [
          ⟨(some 21), .mov (.t 3), [], none, []⟩
          , ⟨(some 22), .ld (some 8) (.t 5), [], none, []⟩
          , ⟨(some 23), .call n_unit_copied [(.t 22)], [], none, []⟩
          , ⟨(some 24), .lit 8 [(.int .i64 0), (.int .i64 0), (.int .i64 0), (.int .i64 0), (.str []), (.sl [] .nil), (.sl [] .nil), (.sl [] .nil)] 1 [(0, (.t 23))], [], none, []⟩
          , ⟨(some 25), .app 8 120 (.t 21) (.t 24), [], none, []⟩
          , ⟨(some 3), .mov (.t 25), [], none, []⟩])))
      (.reg none [
        ⟨(some 26), .bin .add (.t 17) (.c (.int .i64 1)), [], none, []⟩
        , ⟨(some 17), .mov (.t 26), [], none, []⟩])))))))
  (.seq (some [1, 2]) (.reg none [
    ⟨(some 27), .mov (.t 3), [], none, []⟩
    , ⟨(some 28), .fad 7 (.t 1), [], none, []⟩
    , ⟨none, .st 1 (.t 28) (.t 27), [], none, []⟩])
  (.seq (some [2]) (.reg none [
    ⟨(some 29), .ld (some 8) (.t 1), [], none, []⟩
    , ⟨none, .st 8 (.t 2) (.t 29), [], none, []⟩])
  .ret))))))

def r_slices_insertionSortOrdered_int_ : List ResA := []
def c_slices_insertionSortOrdered_int_ : AC := (.seq (some [0, 1, 2, 6]) (.reg none [
    ⟨(some 8), .mov (.t 1), [], none, []⟩
    , ⟨(some 9), .bin .add (.t 8) (.c (.int .i64 1)), [], none, []⟩
    , ⟨(some 6), .mov (.t 9), [], none, []⟩])
  (.block 0
    (.loop (some [0, 1, 2, 6])
      (.seq (some [0, 1, 2, 6]) (.seq (some [0, 1, 2, 6, 12]) (.reg none [
        ⟨(some 10), .mov (.t 6), [], none, []⟩
        , ⟨(some 11), .mov (.t 2), [], none, []⟩
        , ⟨(some 12), .bin .lss (.t 10) (.t 11), [], none, []⟩])
      (.cond (.t 12)
        .skip
        (.exit 0)))
      (.seq (some [0, 1, 2, 6]) (.block 1
        (.seq (some [0, 1, 2, 6, 7]) (.reg none [
          ⟨(some 15), .mov (.t 6), [], none, []⟩
          , ⟨(some 7), .mov (.t 15), [], none, []⟩])
        (.block 2
          (.loop (some [0, 1, 2, 6, 7])
            (.seq (some [0, 1, 2, 6, 7]) (.seq (some [0, 1, 2, 6, 7, 30]) (.reg (some [[], [], [0, 1], [2], [3], [3], [4, 5, 3], [6, 3], [3], [3], [9, 3], [8, 10, 3], [11, 3], [7, 12, 3, 3], [3, 13]]) [
              ⟨(some 16), .mov (.t 7), [], none, []⟩
              , ⟨(some 17), .mov (.t 1), [], none, []⟩
              , ⟨(some 18), .bin .gtr (.t 16) (.t 17), [], none, []⟩
              , ⟨(some 19), .mov (.t 18), [], none, []⟩
              , ⟨(some 20), .mov (.t 0), [], some (19, true), []⟩
              , ⟨(some 21), .mov (.t 7), [], some (19, true), []⟩
              , ⟨(some 22), .ixs 1 (.t 20) (.t 21), [], some (19, true), []⟩
              , ⟨(some 23), .ld none (.t 22), [], some (19, true), []⟩
              , ⟨(some 24), .mov (.t 0), [], some (19, true), []⟩
              , ⟨(some 25), .mov (.t 7), [], some (19, true), []⟩
              , ⟨(some 26), .bin .sub (.t 25) (.c (.int .i64 1)), [], some (19, true), []⟩
              , ⟨(some 27), .ixs 1 (.t 24) (.t 26), [], some (19, true), []⟩
              , ⟨(some 28), .ld none (.t 27), [], some (19, true), []⟩
              , ⟨(some 29), .call n_cmp_Less_int_ [(.t 23), (.t 28)], [], some (19, true), []⟩
              , ⟨(some 30), .pick (.t 19) (.t 29) (.c (.bool false)), [], none, []⟩])
            (.cond (.t 30)
              .skip
              (.exit 2)))
            (.seq (some [0, 1, 2, 6, 7]) (.block 3
              (.reg (some [[], [], [], [], [3], [], [], [6], [5, 7], [8], [], [], [10, 11], [12], [0, 1, 0, 1, 5, 6, 7, 8, 9, 13], [14, 9, 0, 1, 5, 6, 7, 8, 9, 13], [2, 4, 0, 1, 2, 3, 4, 5, 6, 7, 8, 9, 10, 11, 12, 13, 14, 15], [16, 13, 15, 0, 1, 2, 3, 4, 5, 6, 7, 8, 9, 10, 11, 12, 13, 14, 15]]) [
                ⟨(some 33), .mov (.t 0), [], none, []⟩
                , ⟨(some 34), .mov (.t 7), [], none, []⟩
                , ⟨(some 35), .mov (.t 0), [], none, []⟩
                , ⟨(some 36), .mov (.t 7), [], none, []⟩
                , ⟨(some 37), .bin .sub (.t 36) (.c (.int .i64 1)), [], none, []⟩
                , ⟨(some 38), .mov (.t 0), [], none, []⟩
                , ⟨(some 39), .mov (.t 7), [], none, []⟩
                , ⟨(some 40), .bin .sub (.t 39) (.c (.int .i64 1)), [], none, []⟩
                , ⟨(some 41), .ixs 1 (.t 38) (.t 40), [], none, []⟩
                , ⟨(some 42), .ld none (.t 41), [], none, []⟩
                , ⟨(some 43), .mov (.t 0), [], none, []⟩
                , ⟨(some 44), .mov (.t 7), [], none, []⟩
                , ⟨(some 45), .ixs 1 (.t 43) (.t 44), [], none, []⟩
                , ⟨(some 46), .ld none (.t 45), [], none, []⟩
                , ⟨(some 47), .ixs 1 (.t 33) (.t 34), [], none, []⟩
                , ⟨none, .st 1 (.t 47) (.t 42), [], none, []⟩
                , ⟨(some 48), .ixs 1 (.t 35) (.t 37), [], none, []⟩
                , ⟨none, .st 1 (.t 48) (.t 46), [], none, []⟩]))
            (.reg none [
              ⟨(some 31), .mov (.t 7), [], none, []⟩
              , ⟨(some 32), .bin .sub (.t 31) (.c (.int .i64 1)), [], none, []⟩
              , ⟨(some 7), .mov (.t 32), [], none, []⟩])))))))
      (.reg none [
        ⟨(some 13), .mov (.t 6), [], none, []⟩
        , ⟨(some 14), .bin .add (.t 13) (.c (.int .i64 1)), [], none, []⟩
        , ⟨(some 6), .mov (.t 14), [], none, []⟩]))))))

def r_slices_choosePivotOrdered_int_ : List ResA := [.t 6, .t 7]
def c_slices_choosePivotOrdered_int_ : AC := (.seq (some [0, 1, 2]) (.reg none [
    ⟨(some 6), .mov (.c (.int .i64 0)), [], none, []⟩
    , ⟨(some 7), .mov (.c (.int .i64 0)), [], none, []⟩])
  (.seq (some [0, 1, 8]) (.reg none [
    ⟨(some 13), .mov (.t 2), [], none, []⟩
    , ⟨(some 14), .mov (.t 1), [], none, []⟩
    , ⟨(some 15), .bin .sub (.t 13) (.t 14), [], none, []⟩
    , ⟨(some 8), .mov (.t 15), [], none, []⟩])
  (.seq (some [0, 1, 8, 9]) (.reg none [
    ⟨(some 9), .alloc [(.int .i64 0)], [], none, []⟩])
  (.seq (some [0, 1, 8, 9, 10]) (.reg none [
    ⟨(some 16), .mov (.t 1), [], none, []⟩
    , ⟨(some 17), .mov (.t 8), [], none, []⟩
    , ⟨(some 18), .bin .quo (.t 17) (.c (.int .i64 4)), [], none, []⟩
    , ⟨(some 19), .bin .mul (.t 18) (.c (.int .i64 1)), [], none, []⟩
    , ⟨(some 20), .bin .add (.t 16) (.t 19), [], none, []⟩
    , ⟨(some 10), .mov (.t 20), [], none, []⟩])
  (.seq (some [0, 1, 8, 9, 10, 11]) (.reg none [
    ⟨(some 21), .mov (.t 1), [], none, []⟩
    , ⟨(some 22), .mov (.t 8), [], none, []⟩
    , ⟨(some 23), .bin .quo (.t 22) (.c (.int .i64 4)), [], none, []⟩
    , ⟨(some 24), .bin .mul (.t 23) (.c (.int .i64 2)), [], none, []⟩
    , ⟨(some 25), .bin .add (.t 21) (.t 24), [], none, []⟩
    , ⟨(some 11), .mov (.t 25), [], none, []⟩])
  (.seq (some [0, 8, 9, 10, 11, 12]) (.reg none [
    ⟨(some 26), .mov (.t 1), [], none, []⟩
    , ⟨(some 27), .mov (.t 8), [], none, []⟩
    , ⟨(some 28), .bin .quo (.t 27) (.c (.int .i64 4)), [], none, []⟩
    , ⟨(some 29), .bin .mul (.t 28) (.c (.int .i64 3)), [], none, []⟩
    , ⟨(some 30), .bin .add (.t 26) (.t 29), [], none, []⟩
    , ⟨(some 12), .mov (.t 30), [], none, []⟩])
  (.seq (some [9, 11]) (.seq (some [0, 8, 9, 10, 11, 12, 32]) (.reg none [
    ⟨(some 31), .mov (.t 8), [], none, []⟩
    , ⟨(some 32), .bin .geq (.t 31) (.c (.int .i64 8)), [], none, []⟩])
  (.cond (.t 32)
    (.seq (some [0, 9, 10, 11, 12]) (.seq (some [0, 9, 10, 11, 12, 34]) (.reg none [
      ⟨(some 33), .mov (.t 8), [], none, []⟩
      , ⟨(some 34), .bin .geq (.t 33) (.c (.int .i64 50)), [], none, []⟩])
    (.cond (.t 34)
      (.seq (some [0, 9, 10, 11, 12]) (.reg none [
        ⟨(some 35), .mov (.t 0), [], none, []⟩
        , ⟨(some 36), .mov (.t 10), [], none, []⟩
        , ⟨(some 37), .call n_slices_medianAdjacentOrdered_int_ [(.t 35), (.t 36), (.t 9)], [], none, [.shr]⟩
        , ⟨(some 10), .mov (.t 37), [], none, []⟩])
      (.seq (some [0, 9, 10, 11, 12]) (.reg none [
        ⟨(some 38), .mov (.t 0), [], none, []⟩
        , ⟨(some 39), .mov (.t 11), [], none, []⟩
        , ⟨(some 40), .call n_slices_medianAdjacentOrdered_int_ [(.t 38), (.t 39), (.t 9)], [], none, [.shr]⟩
        , ⟨(some 11), .mov (.t 40), [], none, []⟩])
      (.reg none [
        ⟨(some 41), .mov (.t 0), [], none, []⟩
        , ⟨(some 42), .mov (.t 12), [], none, []⟩
        , ⟨(some 43), .call n_slices_medianAdjacentOrdered_int_ [(.t 41), (.t 42), (.t 9)], [], none, [.shr]⟩
        , ⟨(some 12), .mov (.t 43), [], none, []⟩])))
      .skip))
    (.reg none [
      ⟨(some 44), .mov (.t 0), [], none, []⟩
      , ⟨(some 45), .mov (.t 10), [], none, []⟩
      , ⟨(some 46), .mov (.t 11), [], none, []⟩
      , ⟨(some 47), .mov (.t 12), [], none, []⟩
      , ⟨(some 48), .call n_slices_medianOrdered_int_ [(.t 44), (.t 45), (.t 46), (.t 47), (.t 9)], [], none, [.shr]⟩
      , ⟨(some 11), .mov (.t 48), [], none, []⟩]))
    .skip))
  (.seq (some [11, 49]) (.reg none [
    ⟨(some 49), .ld none (.t 9), [], none, []⟩])
  (.block 0
    (.seq (some [11, 49, 51]) (.reg none [
      ⟨(some 52), .bin .eql (.t 49) (.c (.int .i64 0)), [], none, []⟩
      , ⟨(some 51), .mov (.t 52), [], none, []⟩])
    (.cond (.t 51)
      (.seq (some [6, 7]) (.reg none [
        ⟨(some 53), .mov (.t 11), [], none, []⟩
        , ⟨(some 6), .mov (.t 53), [], none, []⟩
        , ⟨(some 7), .mov (.c (.int .i64 1)), [], none, []⟩])
      .ret)
      (.seq (some [11, 54]) (.reg none [
        ⟨(some 55), .bin .eql (.t 49) (.c (.int .i64 12)), [], none, []⟩
        , ⟨(some 54), .mov (.t 55), [], none, []⟩])
      (.cond (.t 54)
        (.seq (some [6, 7]) (.reg none [
          ⟨(some 56), .mov (.t 11), [], none, []⟩
          , ⟨(some 6), .mov (.t 56), [], none, []⟩
          , ⟨(some 7), .mov (.c (.int .i64 2)), [], none, []⟩])
        .ret)
        (.seq (some [6, 7]) (.reg none [
          ⟨(some 50), .mov (.t 11), [], none, []⟩
          , ⟨(some 6), .mov (.t 50), [], none, []⟩
          , ⟨(some 7), .mov (.c (.int .i64 0)), [], none, []⟩])
        .ret))))))))))))))

def r_slices_partialInsertionSortOrdered_int_ : List ResA := [.t 6]
def c_slices_partialInsertionSortOrdered_int_ : AC := (.seq (some [0, 1, 2]) (.reg none [
    ⟨(some 6), .mov (.c (.bool false)), [], none, []⟩])
  (.seq (some [0, 1, 2, 7]) (.reg none [
    ⟨(some 11), .mov (.t 1), [], none, []⟩
    , ⟨(some 12), .bin .add (.t 11) (.c (.int .i64 1)), [], none, []⟩
    , ⟨(some 7), .mov (.t 12), [], none, []⟩])
  (.seq (some []) (.seq (some [0, 1, 2, 7, 8]) (.reg none [
    ⟨(some 8), .mov (.c (.int .i64 0)), [], none, []⟩])
  (.block 0
    (.loop (some [0, 1, 2, 7, 8])
      (.seq (some [0, 1, 2, 7, 8]) (.seq (some [0, 1, 2, 7, 8, 14]) (.reg none [
        ⟨(some 13), .mov (.t 8), [], none, []⟩
        , ⟨(some 14), .bin .lss (.t 13) (.c (.int .i64 5)), [], none, []⟩])
      (.cond (.t 14)
        .skip
        (.exit 0)))
      (.seq (some [0, 1, 2, 7, 8]) (.block 1
        (.seq (some [0, 1, 2, 7, 8]) (.block 2
          (.loop (some [0, 1, 2, 7, 8])
            (.seq (some [0, 1, 2, 7, 8]) (.seq (some [0, 1, 2, 7, 8, 32]) (.reg (some [[], [], [0, 1], [2], [3], [3], [4, 5, 3], [6, 3], [3], [3], [9, 3], [8, 10, 3], [11, 3], [7, 12, 3, 3], [13, 3], [3, 14]]) [
              ⟨(some 17), .mov (.t 7), [], none, []⟩
              , ⟨(some 18), .mov (.t 2), [], none, []⟩
              , ⟨(some 19), .bin .lss (.t 17) (.t 18), [], none, []⟩
              , ⟨(some 20), .mov (.t 19), [], none, []⟩
              , ⟨(some 21), .mov (.t 0), [], some (20, true), []⟩
              , ⟨(some 22), .mov (.t 7), [], some (20, true), []⟩
              , ⟨(some 23), .ixs 1 (.t 21) (.t 22), [], some (20, true), []⟩
              , ⟨(some 24), .ld none (.t 23), [], some (20, true), []⟩
              , ⟨(some 25), .mov (.t 0), [], some (20, true), []⟩
              , ⟨(some 26), .mov (.t 7), [], some (20, true), []⟩
              , ⟨(some 27), .bin .sub (.t 26) (.c (.int .i64 1)), [], some (20, true), []⟩
              , ⟨(some 28), .ixs 1 (.t 25) (.t 27), [], some (20, true), []⟩
              , ⟨(some 29), .ld none (.t 28), [], some (20, true), []⟩
              , ⟨(some 30), .call n_cmp_Less_int_ [(.t 24), (.t 29)], [], some (20, true), []⟩
              , ⟨(some 31), .un .not (.t 30), [], some (20, true), []⟩
              , ⟨(some 32), .pick (.t 20) (.t 31) (.c (.bool false)), [], none, []⟩])
            (.cond (.t 32)
              .skip
              (.exit 2)))
            (.block 3
              (.reg none [
                ⟨(some 33), .mov (.t 7), [], none, []⟩
                , ⟨(some 34), .bin .add (.t 33) (.c (.int .i64 1)), [], none, []⟩
                , ⟨(some 7), .mov (.t 34), [], none, []⟩])))))
        (.seq (some [0, 1, 2, 7, 8]) (.seq (some [0, 1, 2, 7, 8, 37]) (.reg none [
          ⟨(some 35), .mov (.t 7), [], none, []⟩
          , ⟨(some 36), .mov (.t 2), [], none, []⟩
          , ⟨(some 37), .bin .eql (.t 35) (.t 36), [], none, []⟩])
        (.cond (.t 37)
          (.seq (some [6]) (.reg none [
            ⟨(some 6), .mov (.c (.bool true)), [], none, []⟩])
          .ret)
          .skip))
        (.seq (some [0, 1, 2, 7, 8]) (.seq (some [0, 1, 2, 7, 8, 41]) (.reg none [
          ⟨(some 38), .mov (.t 2), [], none, []⟩
          , ⟨(some 39), .mov (.t 1), [], none, []⟩
          , ⟨(some 40), .bin .sub (.t 38) (.t 39), [], none, []⟩
          , ⟨(some 41), .bin .lss (.t 40) (.c (.int .i64 50)), [], none, []⟩])
        (.cond (.t 41)
          (.seq (some [6]) (.reg none [
            ⟨(some 6), .mov (.c (.bool false)), [], none, []⟩])
          .ret)
          .skip))
        (.seq (some [0, 1, 2, 7, 8]) (.reg (some [[], [], [], [], [3], [], [], [6], [5, 7], [8], [], [], [10, 11], [12], [0, 1, 0, 1, 5, 6, 7, 8, 9, 13], [14, 9, 0, 1, 5, 6, 7, 8, 9, 13], [2, 4, 0, 1, 2, 3, 4, 5, 6, 7, 8, 9, 10, 11, 12, 13, 14, 15], [16, 13, 15, 0, 1, 2, 3, 4, 5, 6, 7, 8, 9, 10, 11, 12, 13, 14, 15]]) [
          ⟨(some 42), .mov (.t 0), [], none, []⟩
          , ⟨(some 43), .mov (.t 7), [], none, []⟩
          , ⟨(some 44), .mov (.t 0), [], none, []⟩
          , ⟨(some 45), .mov (.t 7), [], none, []⟩
          , ⟨(some 46), .bin .sub (.t 45) (.c (.int .i64 1)), [], none, []⟩
          , ⟨(some 47), .mov (.t 0), [], none, []⟩
          , ⟨(some 48), .mov (.t 7), [], none, []⟩
          , ⟨(some 49), .bin .sub (.t 48) (.c (.int .i64 1)), [], none, []⟩
          , ⟨(some 50), .ixs 1 (.t 47) (.t 49), [], none, []⟩
          , ⟨(some 51), .ld none (.t 50), [], none, []⟩
          , ⟨(some 52), .mov (.t 0), [], none, []⟩
          , ⟨(some 53), .mov (.t 7), [], none, []⟩
          , ⟨(some 54), .ixs 1 (.t 52) (.t 53), [], none, []⟩
          , ⟨(some 55), .ld none (.t 54), [], none, []⟩
          , ⟨(some 56), .ixs 1 (.t 42) (.t 43), [], none, []⟩
          , ⟨none, .st 1 (.t 56) (.t 51), [], none, []⟩
          , ⟨(some 57), .ixs 1 (.t 44) (.t 46), [], none, []⟩
          , ⟨none, .st 1 (.t 57) (.t 55), [], none, []⟩])
        (.seq (some [0, 1, 2, 7, 8]) (.seq (some [0, 1, 2, 7, 8, 61]) (.reg none [
          ⟨(some 58), .mov (.t 7), [], none, []⟩
          , ⟨(some 59), .mov (.t 1), [], none, []⟩
          , ⟨(some 60), .bin .sub (.t 58) (.t 59), [], none, []⟩
          , ⟨(some 61), .bin .geq (.t 60) (.c (.int .i64 2)), [], none, []⟩])
        (.cond (.t 61)
          (.seq (some [0, 1, 2, 7, 8, 9]) (.reg none [
            ⟨(some 62), .mov (.t 7), [], none, []⟩
            , ⟨(some 63), .bin .sub (.t 62) (.c (.int .i64 1)), [], none, []⟩
            , ⟨(some 9), .mov (.t 63), [], none, []⟩])
          (.block 4
            (.loop (some [0, 1, 2, 7, 8, 9])
              (.seq (some [0, 1, 2, 7, 8, 9]) (.seq (some [0, 1, 2, 7, 8, 9, 65]) (.reg none [
                ⟨(some 64), .mov (.t 9), [], none, []⟩
                , ⟨(some 65), .bin .geq (.t 64) (.c (.int .i64 1)), [], none, []⟩])
              (.cond (.t 65)
                .skip
                (.exit 4)))
              (.seq (some [0, 1, 2, 7, 8, 9]) (.block 5
                (.seq (some [0, 1, 2, 7, 8, 9]) (.seq (some [0, 1, 2, 7, 8, 9, 78]) (.reg (some [[], [], [0, 1], [2], [], [], [5], [4, 6], [7], [3, 8], [9]]) [
                  ⟨(some 68), .mov (.t 0), [], none, []⟩
                  , ⟨(some 69), .mov (.t 9), [], none, []⟩
                  , ⟨(some 70), .ixs 1 (.t 68) (.t 69), [], none, []⟩
                  , ⟨(some 71), .ld none (.t 70), [], none, []⟩
                  , ⟨(some 72), .mov (.t 0), [], none, []⟩
                  , ⟨(some 73), .mov (.t 9), [], none, []⟩
                  , ⟨(some 74), .bin .sub (.t 73) (.c (.int .i64 1)), [], none, []⟩
                  , ⟨(some 75), .ixs 1 (.t 72) (.t 74), [], none, []⟩
                  , ⟨(some 76), .ld none (.t 75), [], none, []⟩
                  , ⟨(some 77), .call n_cmp_Less_int_ [(.t 71), (.t 76)], [], none, []⟩
                  , ⟨(some 78), .un .not (.t 77), [], none, []⟩])
                (.cond (.t 78)
                  (.exit 4)
                  .skip))
                (.reg (some [[], [], [], [], [3], [], [], [6], [5, 7], [8], [], [], [10, 11], [12], [0, 1, 0, 1, 5, 6, 7, 8, 9, 13], [14, 9, 0, 1, 5, 6, 7, 8, 9, 13], [2, 4, 0, 1, 2, 3, 4, 5, 6, 7, 8, 9, 10, 11, 12, 13, 14, 15], [16, 13, 15, 0, 1, 2, 3, 4, 5, 6, 7, 8, 9, 10, 11, 12, 13, 14, 15]]) [
                  ⟨(some 79), .mov (.t 0), [], none, []⟩
                  , ⟨(some 80), .mov (.t 9), [], none, []⟩
                  , ⟨(some 81), .mov (.t 0), [], none, []⟩
                  , ⟨(some 82), .mov (.t 9), [], none, []⟩
                  , ⟨(some 83), .bin .sub (.t 82) (.c (.int .i64 1)), [], none, []⟩
                  , ⟨(some 84), .mov (.t 0), [], none, []⟩
                  , ⟨(some 85), .mov (.t 9), [], none, []⟩
                  , ⟨(some 86), .bin .sub (.t 85) (.c (.int .i64 1)), [], none, []⟩
                  , ⟨(some 87), .ixs 1 (.t 84) (.t 86), [], none, []⟩
                  , ⟨(some 88), .ld none (.t 87), [], none, []⟩
                  , ⟨(some 89), .mov (.t 0), [], none, []⟩
                  , ⟨(some 90), .mov (.t 9), [], none, []⟩
                  , ⟨(some 91), .ixs 1 (.t 89) (.t 90), [], none, []⟩
                  , ⟨(some 92), .ld none (.t 91), [], none, []⟩
                  , ⟨(some 93), .ixs 1 (.t 79) (.t 80), [], none, []⟩
                  , ⟨none, .st 1 (.t 93) (.t 88), [], none, []⟩
                  , ⟨(some 94), .ixs 1 (.t 81) (.t 83), [], none, []⟩
                  , ⟨none, .st 1 (.t 94) (.t 92), [], none, []⟩])))
              (.reg none [
                ⟨(some 66), .mov (.t 9), [], none, []⟩
                , ⟨(some 67), .bin .sub (.t 66) (.c (.int .i64 1)), [], none, []⟩
                , ⟨(some 9), .mov (.t 67), [], none, []⟩]))))))
          .skip))
        (.seq (some [0, 1, 2, 7, 8, 98]) (.reg none [
          ⟨(some 95), .mov (.t 2), [], none, []⟩
          , ⟨(some 96), .mov (.t 7), [], none, []⟩
          , ⟨(some 97), .bin .sub (.t 95) (.t 96), [], none, []⟩
          , ⟨(some 98), .bin .geq (.t 97) (.c (.int .i64 2)), [], none, []⟩])
        (.cond (.t 98)
          (.seq (some [0, 1, 2, 7, 8, 10]) (.reg none [
            ⟨(some 99), .mov (.t 7), [], none, []⟩
            , ⟨(some 100), .bin .add (.t 99) (.c (.int .i64 1)), [], none, []⟩
            , ⟨(some 10), .mov (.t 100), [], none, []⟩])
          (.block 6
            (.loop (some [0, 1, 2, 7, 8, 10])
              (.seq (some [0, 1, 2, 7, 8, 10]) (.seq (some [0, 1, 2, 7, 8, 10, 103]) (.reg none [
                ⟨(some 101), .mov (.t 10), [], none, []⟩
                , ⟨(some 102), .mov (.t 2), [], none, []⟩
                , ⟨(some 103), .bin .lss (.t 101) (.t 102), [], none, []⟩])
              (.cond (.t 103)
                .skip
                (.exit 6)))
              (.seq (some [0, 1, 2, 7, 8, 10]) (.block 7
                (.seq (some [0, 1, 2, 7, 8, 10]) (.seq (some [0, 1, 2, 7, 8, 10, 116]) (.reg (some [[], [], [0, 1], [2], [], [], [5], [4, 6], [7], [3, 8], [9]]) [
                  ⟨(some 106), .mov (.t 0), [], none, []⟩
                  , ⟨(some 107), .mov (.t 10), [], none, []⟩
                  , ⟨(some 108), .ixs 1 (.t 106) (.t 107), [], none, []⟩
                  , ⟨(some 109), .ld none (.t 108), [], none, []⟩
                  , ⟨(some 110), .mov (.t 0), [], none, []⟩
                  , ⟨(some 111), .mov (.t 10), [], none, []⟩
                  , ⟨(some 112), .bin .sub (.t 111) (.c (.int .i64 1)), [], none, []⟩
                  , ⟨(some 113), .ixs 1 (.t 110) (.t 112), [], none, []⟩
                  , ⟨(some 114), .ld none (.t 113), [], none, []⟩
                  , ⟨(some 115), .call n_cmp_Less_int_ [(.t 109), (.t 114)], [], none, []⟩
                  , ⟨(some 116), .un .not (.t 115), [], none, []⟩])
                (.cond (.t 116)
                  (.exit 6)
                  .skip))
                (.reg (some [[], [], [], [], [3], [], [], [6], [5, 7], [8], [], [], [10, 11], [12], [0, 1, 0, 1, 5, 6, 7, 8, 9, 13], [14, 9, 0, 1, 5, 6, 7, 8, 9, 13], [2, 4, 0, 1, 2, 3, 4, 5, 6, 7, 8, 9, 10, 11, 12, 13, 14, 15], [16, 13, 15, 0, 1, 2, 3, 4, 5, 6, 7, 8, 9, 10, 11, 12, 13, 14, 15]]) [
                  ⟨(some 117), .mov (.t 0), [], none, []⟩
                  , ⟨(some 118), .mov (.t 10), [], none, []⟩
                  , ⟨(some 119), .mov (.t 0), [], none, []⟩
                  , ⟨(some 120), .mov (.t 10), [], none, []⟩
                  , ⟨(some 121), .bin .sub (.t 120) (.c (.int .i64 1)), [], none, []⟩
                  , ⟨(some 122), .mov (.t 0), [], none, []⟩
                  , ⟨(some 123), .mov (.t 10), [], none, []⟩
                  , ⟨(some 124), .bin .sub (.t 123) (.c (.int .i64 1)), [], none, []⟩
                  , ⟨(some 125), .ixs 1 (.t 122) (.t 124), [], none, []⟩
                  , ⟨(some 126), .ld none (.t 125), [], none, []⟩
                  , ⟨(some 127), .mov (.t 0), [], none, []⟩
                  , ⟨(some 128), .mov (.t 10), [], none, []⟩
                  , ⟨(some 129), .ixs 1 (.t 127) (.t 128), [], none, []⟩
                  , ⟨(some 130), .ld none (.t 129), [], none, []⟩
                  , ⟨(some 131), .ixs 1 (.t 117) (.t 118), [], none, []⟩
                  , ⟨none, .st 1 (.t 131) (.t 126), [], none, []⟩
                  , ⟨(some 132), .ixs 1 (.t 119) (.t 121), [], none, []⟩
                  , ⟨none, .st 1 (.t 132) (.t 130), [], none, []⟩])))
              (.reg none [
                ⟨(some 104), .mov (.t 10), [], none, []⟩
                , ⟨(some 105), .bin .add (.t 104) (.c (.int .i64 1)), [], none, []⟩
                , ⟨(some 10), .mov (.t 105), [], none, []⟩]))))))
          .skip))))))))
      (.reg none [
        ⟨(some 15), .mov (.t 8), [], none, []⟩
        , ⟨(some 16), .bin .add (.t 15) (.c (.int .i64 1)), [], none, []⟩
        , ⟨(some 8), .mov (.t 16), [], none, []⟩]))))))
  (.seq (some [6]) (.reg none [
    ⟨(some 6), .mov (.c (.bool false)), [], none, []⟩])
  .ret))))

def r_cmp_Less_int_ : List ResA := [.t 4]
def c_cmp_Less_int_ : AC := (.seq (some [0, 1]) (.reg none [
    ⟨(some 4), .mov (.c (.bool false)), [], none, []⟩])
  (.seq (some [4]) (.reg none [
    ⟨(some 5), .mov (.t 0), [], none, []⟩
    , ⟨(some 6), .call n_cmp_isNaN_int_ [(.t 5)], [], none, []⟩
    , ⟨(some 7), .mov (.t 6), [], none, []⟩
    , ⟨(some 8), .mov (.t 1), [], some (7, true), []⟩
    , ⟨(some 9), .call n_cmp_isNaN_int_ [(.t 8)], [], some (7, true), []⟩
    , ⟨(some 10), .un .not (.t 9), [], some (7, true), []⟩
    , ⟨(some 11), .pick (.t 7) (.t 10) (.c (.bool false)), [], none, []⟩
    , ⟨(some 12), .mov (.t 11), [], none, []⟩
    , ⟨(some 13), .mov (.t 0), [], some (12, false), []⟩
    , ⟨(some 14), .mov (.t 1), [], some (12, false), []⟩
    , ⟨(some 15), .bin .lss (.t 13) (.t 14), [], some (12, false), []⟩
    , ⟨(some 16), .pick (.t 12) (.c (.bool true)) (.t 15), [], none, []⟩
    , ⟨(some 4), .mov (.t 16), [], none, []⟩])
  .ret))

def r_math_bits_Len64 : List ResA := [.t 2]
def c_math_bits_Len64 : AC := (.seq (some [0, 2]) (.reg none [
    ⟨(some 2), .mov (.c (.int .i64 0)), [], none, []⟩])
  (.seq (some [0, 2]) (.seq (some [0, 2, 4]) (.reg none [
    ⟨(some 3), .mov (.t 0), [], none, []⟩
    , ⟨(some 4), .bin .geq (.t 3) (.c (.int .u64 4294967296)), [], none, []⟩])
  (.cond (.t 4)
    (.seq (some [0]) (.reg none [
      ⟨(some 5), .mov (.t 0), [], none, []⟩
      , ⟨(some 6), .bin .shr (.t 5) (.c (.int .u64 32)), [], none, []⟩
      , ⟨(some 0), .mov (.t 6), [], none, []⟩])
    (.reg none [
      ⟨(some 2), .mov (.c (.int .i64 32)), [], none, []⟩]))
    .skip))
  (.seq (some [0, 2]) (.seq (some [0, 2, 8]) (.reg none [
    ⟨(some 7), .mov (.t 0), [], none, []⟩
    , ⟨(some 8), .bin .geq (.t 7) (.c (.int .u64 65536)), [], none, []⟩])
  (.cond (.t 8)
    (.seq (some [0, 2]) (.reg none [
      ⟨(some 9), .mov (.t 0), [], none, []⟩
      , ⟨(some 10), .bin .shr (.t 9) (.c (.int .u64 16)), [], none, []⟩
      , ⟨(some 0), .mov (.t 10), [], none, []⟩])
    (.reg none [
      ⟨(some 11), .mov (.t 2), [], none, []⟩
      , ⟨(some 12), .bin .add (.t 11) (.c (.int .i64 16)), [], none, []⟩
      , ⟨(some 2), .mov (.t 12), [], none, []⟩]))
    .skip))
  (.seq (some [0, 2]) (.seq (some [0, 2, 14]) (.reg none [
    ⟨(some 13), .mov (.t 0), [], none, []⟩
    , ⟨(some 14), .bin .geq (.t 13) (.c (.int .u64 256)), [], none, []⟩])
  (.cond (.t 14)
    (.seq (some [0, 2]) (.reg none [
      ⟨(some 15), .mov (.t 0), [], none, []⟩
      , ⟨(some 16), .bin .shr (.t 15) (.c (.int .u64 8)), [], none, []⟩
      , ⟨(some 0), .mov (.t 16), [], none, []⟩])
    (.reg none [
      ⟨(some 17), .mov (.t 2), [], none, []⟩
      , ⟨(some 18), .bin .add (.t 17) (.c (.int .i64 8)), [], none, []⟩
      , ⟨(some 2), .mov (.t 18), [], none, []⟩]))
    .skip))
  (.seq (some [2]) (.reg none [
    ⟨(some 19), .mov (.t 2), [], none, []⟩
    , ⟨(some 20), .mov (.t 0), [], none, []⟩
    , ⟨(some 21), .cvt .u8 (.t 20), [], none, []⟩
    , ⟨(some 22), .ixb (.c (.str [0, 1, 2, 2, 3, 3, 3, 3, 4, 4, 4, 4, 4, 4, 4, 4, 5, 5, 5, 5, 5, 5, 5, 5, 5, 5, 5, 5, 5, 5, 5, 5, 6, 6, 6, 6, 6, 6, 6, 6, 6, 6, 6, 6, 6, 6, 6, 6, 6, 6, 6, 6, 6, 6, 6, 6, 6, 6, 6, 6, 6, 6, 6, 6, 7, 7, 7, 7, 7, 7, 7, 7, 7, 7, 7, 7, 7, 7, 7, 7, 7, 7, 7, 7, 7, 7, 7, 7, 7, 7, 7, 7, 7, 7, 7, 7, 7, 7, 7, 7, 7, 7, 7, 7, 7, 7, 7, 7, 7, 7, 7, 7, 7, 7, 7, 7, 7, 7, 7, 7, 7, 7, 7, 7, 7, 7, 7, 7, 8, 8, 8, 8, 8, 8, 8, 8, 8, 8, 8, 8, 8, 8, 8, 8, 8, 8, 8, 8, 8, 8, 8, 8, 8, 8, 8, 8, 8, 8, 8, 8, 8, 8, 8, 8, 8, 8, 8, 8, 8, 8, 8, 8, 8, 8, 8, 8, 8, 8, 8, 8, 8, 8, 8, 8, 8, 8, 8, 8, 8, 8, 8, 8, 8, 8, 8, 8, 8, 8, 8, 8, 8, 8, 8, 8, 8, 8, 8, 8, 8, 8, 8, 8, 8, 8, 8, 8, 8, 8, 8, 8, 8, 8, 8, 8, 8, 8, 8, 8, 8, 8, 8, 8, 8, 8, 8, 8, 8, 8, 8, 8, 8, 8, 8, 8, 8, 8, 8, 8, 8, 8, 8, 8, 8, 8, 8, 8])) (.t 21), [], none, []⟩
    , ⟨(some 23), .cvt .i64 (.t 22), [], none, []⟩
    , ⟨(some 24), .bin .add (.t 19) (.t 23), [], none, []⟩
    , ⟨(some 2), .mov (.t 24), [], none, []⟩])
  .ret)))))

def r_pandectref06_alone : List ResA := [.t 2]
def c_pandectref06_alone : AC := (.seq (some [1]) (.reg none [
    ⟨(some 1), .box 8 (.t 0), [], none, []⟩
    , ⟨(some 2), .mov (.c (.bool false)), [], none, []⟩])
  (.seq (some [1]) (.seq (some [1, 28]) (.reg none [
    ⟨(some 3), .fad 3 (.t 1), [], none, []⟩
    , ⟨(some 4), .ld none (.t 3), [], none, []⟩
    , ⟨(some 5), .bin .lss (.t 4) (.c (.int .i64 0)), [], none, []⟩
    , ⟨(some 6), .mov (.t 5), [], none, []⟩
    , ⟨(some 7), .fad 3 (.t 1), [], some (6, false), []⟩
    , ⟨(some 8), .ld none (.t 7), [], some (6, false), []⟩
    , ⟨(some 9), .bin .gtr (.t 8) (.c (.int .i64 7)), [], some (6, false), []⟩
    , ⟨(some 10), .pick (.t 6) (.c (.bool true)) (.t 9), [], none, []⟩
    , ⟨(some 11), .mov (.t 10), [], none, []⟩
    , ⟨(some 12), .fad 7 (.t 1), [], some (11, false), []⟩
    , ⟨(some 13), .ld none (.t 12), [], some (11, false), []⟩
    , ⟨(some 14), .len (.t 13), [(.sl, (.t 13))], some (11, false), []⟩
    , ⟨(some 15), .bin .gtr (.t 14) (.c (.int .i64 64)), [], some (11, false), []⟩
    , ⟨(some 16), .pick (.t 11) (.c (.bool true)) (.t 15), [], none, []⟩
    , ⟨(some 17), .mov (.t 16), [], none, []⟩
    , ⟨(some 18), .fad 5 (.t 1), [], some (17, false), []⟩
    , ⟨(some 19), .ld none (.t 18), [], some (17, false), []⟩
    , ⟨(some 20), .call n_pandectref06_row [(.t 19)], [], some (17, false), []⟩
    , ⟨(some 21), .un .not (.t 20), [], some (17, false), []⟩
    , ⟨(some 22), .pick (.t 17) (.c (.bool true)) (.t 21), [], none, []⟩
    , ⟨(some 23), .mov (.t 22), [], none, []⟩
    , ⟨(some 24), .fad 6 (.t 1), [], some (23, false), []⟩
    , ⟨(some 25), .ld none (.t 24), [], some (23, false), []⟩
    , ⟨(some 26), .call n_pandectref06_row [(.t 25)], [], some (23, false), []⟩
    , ⟨(some 27), .un .not (.t 26), [], some (23, false), []⟩
    , ⟨(some 28), .pick (.t 23) (.c (.bool true)) (.t 27), [], none, []⟩])
  (.cond (.t 28)
    (.seq (some [2]) (.reg none [
      ⟨(some 2), .mov (.c (.bool false)), [], none, []⟩])
    .ret)
    .skip))
  (.seq (some [1]) (.seq (some [1, 31]) (.reg none [
    ⟨(some 29), .fad 3 (.t 1), [], none, []⟩
    , ⟨(some 30), .ld none (.t 29), [], none, []⟩
    , ⟨(some 31), .bin .eql (.t 30) (.c (.int .i64 0)), [], none, []⟩])
  (.cond (.t 31)
    (.seq (some [2]) (.reg none [
      ⟨(some 32), .fad 4 (.t 1), [], none, []⟩
      , ⟨(some 33), .ld none (.t 32), [], none, []⟩
      , ⟨(some 34), .bin .eql (.t 33) (.c (.str [])), [], none, []⟩
      , ⟨(some 35), .mov (.t 34), [], none, []⟩
      , ⟨(some 36), .fad 5 (.t 1), [], some (35, true), []⟩
      , ⟨(some 37), .ld none (.t 36), [], some (35, true), []⟩
      , ⟨(some 38), .len (.t 37), [(.sl, (.t 37))], some (35, true), []⟩
      , ⟨(some 39), .bin .eql (.t 38) (.c (.int .i64 0)), [], some (35, true), []⟩
      , ⟨(some 40), .pick (.t 35) (.t 39) (.c (.bool false)), [], none, []⟩
      , ⟨(some 41), .mov (.t 40), [], none, []⟩
      , ⟨(some 42), .fad 6 (.t 1), [], some (41, true), []⟩
      , ⟨(some 43), .ld none (.t 42), [], some (41, true), []⟩
      , ⟨(some 44), .len (.t 43), [(.sl, (.t 43))], some (41, true), []⟩
      , ⟨(some 45), .bin .eql (.t 44) (.c (.int .i64 0)), [], some (41, true), []⟩
      , ⟨(some 46), .pick (.t 41) (.t 45) (.c (.bool false)), [], none, []⟩
      , ⟨(some 2), .mov (.t 46), [], none, []⟩])
    .ret)
    .skip))
  (.seq (some [2]) (.reg none [
    ⟨(some 47), .fad 4 (.t 1), [], none, []⟩
    , ⟨(some 48), .ld none (.t 47), [], none, []⟩
    , ⟨(some 49), .call n_pandectref03_May [(.t 48)], [], none, []⟩
    , ⟨(some 2), .mov (.t 49), [], none, []⟩])
  .ret))))

def r_pandectref06_Nests : List ResA := [.t 4]
def c_pandectref06_Nests : AC := (.seq (some [0, 1]) (.reg none [
    ⟨(some 4), .mov (.c (.bool false)), [], none, []⟩])
  (.seq (some []) (.seq (some [1, 5]) (.reg none [
    ⟨(some 5), .mov (.t 0), [], none, []⟩])
  (.block 0
    (.seq (some [1, 5, 6]) (.reg none [
      ⟨(some 7), .bin .eql (.t 5) (.c (.int .i64 0)), [], none, []⟩
      , ⟨(some 6), .mov (.t 7), [], none, []⟩])
    (.cond (.t 6)
      (.seq (some [4]) (.reg none [
        ⟨(some 8), .mov (.t 1), [], none, []⟩
        , ⟨(some 9), .bin .eql (.t 8) (.c (.int .i64 1)), [], none, []⟩
        , ⟨(some 10), .mov (.t 9), [], none, []⟩
        , ⟨(some 11), .mov (.t 1), [], some (10, false), []⟩
        , ⟨(some 12), .bin .eql (.t 11) (.c (.int .i64 2)), [], some (10, false), []⟩
        , ⟨(some 13), .pick (.t 10) (.c (.bool true)) (.t 12), [], none, []⟩
        , ⟨(some 4), .mov (.t 13), [], none, []⟩])
      .ret)
      (.seq (some [1, 5, 14]) (.reg none [
        ⟨(some 15), .bin .eql (.t 5) (.c (.int .i64 1)), [], none, []⟩
        , ⟨(some 14), .mov (.t 15), [], none, []⟩])
      (.cond (.t 14)
        (.seq (some [4]) (.reg none [
          ⟨(some 16), .mov (.t 1), [], none, []⟩
          , ⟨(some 17), .bin .eql (.t 16) (.c (.int .i64 2)), [], none, []⟩
          , ⟨(some 4), .mov (.t 17), [], none, []⟩])
        .ret)
        (.seq (some [1, 5, 18]) (.seq (some [1, 5, 18]) (.reg none [
          ⟨(some 19), .bin .eql (.t 5) (.c (.int .i64 2)), [], none, []⟩
          , ⟨(some 18), .mov (.t 19), [], none, []⟩])
        (.cond (.t 18)
          .skip
          (.reg none [
            ⟨(some 20), .bin .eql (.t 5) (.c (.int .i64 3)), [], none, []⟩
            , ⟨(some 18), .mov (.t 20), [], none, []⟩])))
        (.cond (.t 18)
          (.seq (some [4]) (.reg none [
            ⟨(some 21), .mov (.t 1), [], none, []⟩
            , ⟨(some 22), .bin .eql (.t 21) (.c (.int .i64 3)), [], none, []⟩
            , ⟨(some 23), .mov (.t 22), [], none, []⟩
            , ⟨(some 24), .mov (.t 1), [], some (23, false), []⟩
            , ⟨(some 25), .bin .eql (.t 24) (.c (.int .i64 4)), [], some (23, false), []⟩
            , ⟨(some 26), .pick (.t 23) (.c (.bool true)) (.t 25), [], none, []⟩
            , ⟨(some 27), .mov (.t 26), [], none, []⟩
            , ⟨(some 28), .mov (.t 1), [], some (27, false), []⟩
            , ⟨(some 29), .bin .eql (.t 28) (.c (.int .i64 7)), [], some (27, false), []⟩
            , ⟨(some 30), .pick (.t 27) (.c (.bool true)) (.t 29), [], none, []⟩
            , ⟨(some 4), .mov (.t 30), [], none, []⟩])
          .ret)
          (.seq (some [1, 5, 31]) (.reg none [
            ⟨(some 32), .bin .eql (.t 5) (.c (.int .i64 4)), [], none, []⟩
            , ⟨(some 31), .mov (.t 32), [], none, []⟩])
          (.cond (.t 31)
            (.seq (some [4]) (.reg none [
              ⟨(some 33), .mov (.t 1), [], none, []⟩
              , ⟨(some 34), .bin .eql (.t 33) (.c (.int .i64 5)), [], none, []⟩
              , ⟨(some 4), .mov (.t 34), [], none, []⟩])
            .ret)
            (.seq (some [1, 35]) (.reg none [
              ⟨(some 36), .bin .eql (.t 5) (.c (.int .i64 5)), [], none, []⟩
              , ⟨(some 35), .mov (.t 36), [], none, []⟩])
            (.cond (.t 35)
              (.seq (some [4]) (.reg none [
                ⟨(some 37), .mov (.t 1), [], none, []⟩
                , ⟨(some 38), .bin .eql (.t 37) (.c (.int .i64 6)), [], none, []⟩
                , ⟨(some 4), .mov (.t 38), [], none, []⟩])
              .ret)
              .skip))))))))))))
  (.seq (some [4]) (.reg none [
    ⟨(some 4), .mov (.c (.bool false)), [], none, []⟩])
  .ret)))

def r_pandectref06_All : List ResA := [.t 2]
def c_pandectref06_All : AC := (.seq (some [1]) (.reg none [
    ⟨(some 1), .box 8 (.t 0), [], none, []⟩
    , ⟨(some 2), .mov (.c (.sl [] .nil)), [], none, []⟩])
  (.seq (some [1, 3]) (.reg none [
    ⟨(some 5), .fad 0 (.t 1), [], none, []⟩
    , ⟨(some 6), .ld (some 3) (.t 5), [], none, []⟩
    , ⟨(some 7), .lit 3 [(.int .i64 0), (.int .i64 0), (.int .i64 0)] 1 [(0, (.t 6))], [], none, []⟩
    , ⟨(some 3), .mov (.t 7), [], none, []⟩])
  (.seq (some [3]) (.seq (some [1, 3, 4]) (.reg none [
    ⟨(some 4), .mov (.c (.int .i64 0)), [], none, []⟩])
  (.block 0
    (.loop (some [1, 3, 4])
      (.seq (some [1, 3, 4]) (.seq (some [1, 3, 4, 12]) (.reg none [
        ⟨(some 8), .mov (.t 4), [], none, []⟩
        , ⟨(some 9), .fad 7 (.t 1), [], none, []⟩
        , ⟨(some 10), .ld none (.t 9), [], none, []⟩
        , ⟨(some 11), .len (.t 10), [(.sl, (.t 10))], none, []⟩
        , ⟨(some 12), .bin .lss (.t 8) (.t 11), [], none, []⟩])
      (.cond (.t 12)
        .skip
        (.exit 0)))
      (.seq (some [1, 3, 4]) (.block 1
        (.reg none [
          ⟨(some 15), .mov (.t 3), [], none, []⟩
          , ⟨(some 16), .fad 7 (.t 1), [], none, []⟩
          , ⟨(some 17), .ld none (.t 16), [], none, []⟩
          , ⟨(some 18), .mov (.t 4), [], none, []⟩
          , ⟨(some 19), .ixs 8 (.t 17) (.t 18), [], none, []⟩
          , ⟨(some 20), .ld (some 8) (.t 19), [], none, []⟩
          , ⟨(some 21), .call n_pandectref06_All [(.t 20)], [], none, []⟩
          , ⟨(some 22), .app 3 24 (.t 15) (.t 21), [], none, []⟩
          , ⟨(some 3), .mov (.t 22), [], none, []⟩]))
      (.reg none [
        ⟨(some 13), .mov (.t 4), [], none, []⟩
        , ⟨(some 14), .bin .add (.t 13) (.c (.int .i64 1)), [], none, []⟩
        , ⟨(some 4), .mov (.t 14), [], none, []⟩]))))))
  (.seq (some [2]) (.reg none [
    ⟨(some 23), .mov (.t 3), [], none, []⟩
    , ⟨(some 2), .mov (.t 23), [], none, []⟩])
  .ret))))

def r_enact_with : List ResA := [.c (some 8) 6]
def c_enact_with : AC := (.seq (some [2, 3, 4, 6]) (.reg none [
    ⟨(some 3), .box 8 (.t 0), [], none, []⟩
    , ⟨(some 4), .box 3 (.t 1), [], none, []⟩
    , ⟨(some 6), .alloc [(.int .i64 0), (.int .i64 0), (.int .i64 0), (.int .i64 0), (.str []), (.sl [] .nil), (.sl [] .nil), (.sl [] .nil)], [], none, []⟩])
  (.seq (some [2, 3, 4, 6]) (.seq (some [2, 3, 4, 6, 15]) (.reg none [
    ⟨(some 12), .fad 0 (.t 3), [], none, []⟩
    , ⟨(some 13), .ld (some 3) (.t 12), [], none, []⟩
    , ⟨(some 14), .ld (some 3) (.t 4), [], none, []⟩
    , ⟨(some 15), .eqA false [.i .i64, .i .i64, .i .i64] (.t 13) (.t 14), [], none, []⟩])
  (.cond (.t 15)
    (.seq (some [2, 3, 6]) (.reg none [
      ⟨(some 16), .fad 7 (.t 3), [], none, []⟩
      , ⟨(some 17), .ld none (.t 16), [], none, []⟩
      , ⟨(some 18), .call n_api_Unit__175 [(.t 17)], [], none, [.shr]⟩
      , ⟨(some 19), .fad 7 (.t 3), [], none, []⟩
      , ⟨none, .st 1 (.t 19) (.t 18), [], none, []⟩])
    (.seq (some [3, 6]) (.reg none [
      ⟨(some 20), .mov (.t 2), [], none, []⟩
      , ⟨(some 21), .calld (.t 20) [(.t 3)], [], none, []⟩])
    (.seq (some [6]) (.reg none [
      ⟨(some 22), .ld (some 8) (.t 3), [], none, []⟩
      , ⟨none, .st 8 (.t 6) (.t 22), [], none, []⟩])
    .ret)))
    .skip))
  (.seq (some [2, 3, 4, 6, 7]) (.reg none [
    ⟨(some 23), .fad 7 (.t 3), [], none, []⟩
    , ⟨(some 24), .ld none (.t 23), [], none, []⟩
    , ⟨(some 25), .call n_api_Unit__175 [(.t 24)], [], none, [.shr]⟩
    , ⟨(some 7), .mov (.t 25), [], none, []⟩])
  (.seq (some [3, 6, 7]) (.seq (some [2, 3, 4, 6, 7, 26, 27, 28]) (.reg none [
    ⟨(some 26), .mov (.t 7), [], none, []⟩
    , ⟨(some 27), .len (.t 26), [(.sl, (.t 26))], none, []⟩
    , ⟨(some 28), .mov (.c (.int .i64 0)), [], none, []⟩])
  (.block 0
    (.loop (some [2, 3, 4, 6, 7, 26, 27, 28])
      (.seq (some [2, 3, 4, 6, 7, 26, 27, 28, 29]) (.reg none [
        ⟨(some 29), .bin .lss (.t 28) (.t 27), [], none, []⟩])
      (.seq (some [2, 3, 4, 6, 7, 26, 27, 28]) (.cond (.t 29)
        .skip
        (.exit 0))
      (.seq (some [2, 3, 4, 6, 7, 26, 27, 28]) (.block 1
        (.seq (some [2, 3, 4, 6, 7, 8, 9, 26, 27, 28]) (.reg none [
          ⟨(some 30), .mov (.t 28), [], none, []⟩
          , ⟨(some 31), .ixs 8 (.t 26) (.t 28), [], none, []⟩
          , ⟨(some 32), .ld (some 8) (.t 31), [], none, []⟩
          , ⟨(some 9), .alloc [(.int .i64 0), (.int .i64 0), (.int .i64 0), (.int .i64 0), (.str []), (.sl [] .nil), (.sl [] .nil), (.sl [] .nil)], [], none, []⟩
          , ⟨(some 8), .mov (.t 30), [], none, []⟩
          , ⟨none, .st 8 (.t 9) (.t 32), [], none, []⟩])
        (.seq (some [2, 3, 4, 6, 7, 8, 9, 11, 26, 27, 28]) (.reg none [
          ⟨(some 34), .ld (some 8) (.t 9), [], none, []⟩
          , ⟨(some 35), .ld (some 3) (.t 4), [], none, []⟩
          , ⟨(some 36), .call n_unit_Find [(.t 34), (.t 35)], [], none, []⟩
          , ⟨(some 33), .mov (.t 36), [], none, []⟩
          , ⟨(some 37), .ext (.t 33) 0, [], none, []⟩
          , ⟨(some 38), .ext (.t 33) 1, [], none, []⟩
          , ⟨(some 10), .alloc [(.int .i64 0), (.int .i64 0), (.int .i64 0), (.int .i64 0), (.str []), (.sl [] .nil), (.sl [] .nil), (.sl [] .nil)], [], none, []⟩
          , ⟨none, .st 8 (.t 10) (.t 37), [], none, []⟩
          , ⟨(some 11), .mov (.t 38), [], none, []⟩])
        (.seq (some [2, 3, 4, 6, 7, 8, 9, 26, 27, 28, 39]) (.reg none [
          ⟨(some 39), .mov (.t 11), [], none, []⟩])
        (.cond (.t 39)
          (.seq (some [3, 6, 7]) (.reg none [
            ⟨(some 40), .mov (.t 7), [], none, []⟩
            , ⟨(some 41), .mov (.t 8), [], none, []⟩
            , ⟨(some 42), .ld (some 8) (.t 9), [], none, []⟩
            , ⟨(some 43), .ld (some 3) (.t 4), [], none, []⟩
            , ⟨(some 44), .mov (.t 2), [], none, []⟩
            , ⟨(some 45), .call n_enact_with [(.t 42), (.t 43), (.t 44)], [], none, []⟩
            , ⟨(some 46), .ixs 8 (.t 40) (.t 41), [], none, []⟩
            , ⟨none, .st 8 (.t 46) (.t 45), [], none, []⟩])
          (.exit 0))
          .skip)))))
      (.reg none [
        ⟨(some 47), .bin .add (.t 28) (.c (.int .i64 1)), [], none, []⟩
        , ⟨(some 28), .mov (.t 47), [], none, []⟩])))))))
  (.seq (some [3, 6]) (.reg none [
    ⟨(some 48), .mov (.t 7), [], none, []⟩
    , ⟨(some 49), .fad 7 (.t 3), [], none, []⟩
    , ⟨none, .st 1 (.t 49) (.t 48), [], none, []⟩])
  (.seq (some [6]) (.reg none [
    ⟨(some 50), .ld (some 8) (.t 3), [], none, []⟩
    , ⟨none, .st 8 (.t 6) (.t 50), [], none, []⟩])
  .ret))))))

def r_wording_Mark : List ResA := [.t 8]
def c_wording_Mark : AC := (.seq (some [0, 1, 2, 3]) (.reg none [
    ⟨(some 8), .mov (.c (.sl [] .nil)), [], none, []⟩])
  (.seq (some [0, 1, 2, 3, 9]) (.reg none [
    ⟨(some 9), .mov (.c (.sl [] .nil)), [], none, []⟩])
  (.seq (some [9]) (.seq (some [1, 2, 3, 9, 12, 13, 14]) (.reg none [
    ⟨(some 12), .mov (.t 0), [], none, []⟩
    , ⟨(some 13), .len (.t 12), [(.sl, (.t 12))], none, []⟩
    , ⟨(some 14), .mov (.c (.int .i64 0)), [], none, []⟩])
  (.block 0
    (.loop (some [1, 2, 3, 9, 12, 13, 14])
      (.seq (some [1, 2, 3, 9, 12, 13, 14, 15]) (.reg none [
        ⟨(some 15), .bin .lss (.t 14) (.t 13), [], none, []⟩])
      (.seq (some [1, 2, 3, 9, 12, 13, 14]) (.cond (.t 15)
        .skip
        (.exit 0))
      (.seq (some [1, 2, 3, 9, 12, 13, 14]) (.block 1
        (.seq (some [1, 2, 3, 9, 10, 11, 12, 13, 14]) (.reg none [
          ⟨(some 16), .mov (.t 14), [], none, []⟩
          , ⟨(some 17), .ixs 1 (.t 12) (.t 14), [], none, []⟩
          , ⟨(some 18), .ld none (.t 17), [], none, []⟩
          , ⟨(some 10), .mov (.t 16), [], none, []⟩
          , ⟨(some 11), .mov (.t 18), [], none, []⟩])
        (.reg none [
          ⟨(some 19), .mov (.t 9), [], none, []⟩
          , ⟨(some 20), .mov (.t 11), [], none, []⟩
          , ⟨(some 21), .mov (.t 1), [], none, []⟩
          , ⟨(some 22), .mov (.t 2), [], none, []⟩
          , ⟨(some 23), .mov (.t 3), [], none, []⟩
          , ⟨(some 24), .mov (.t 10), [], none, []⟩
          , ⟨(some 25), .bin .add (.t 23) (.t 24), [], none, []⟩
          , ⟨(some 26), .build [(.int .i64 0), (.int .i64 0), (.int .i64 0)] [(0, 1, (.t 21)), (1, 1, (.t 22)), (2, 1, (.t 25))], [], none, []⟩
          , ⟨(some 27), .build [(.str []), (.int .i64 0), (.int .i64 0), (.int .i64 0)] [(0, 1, (.t 20)), (1, 3, (.t 26))], [], none, []⟩
          , ⟨(some 28), .lit 4 [(.str []), (.int .i64 0), (.int .i64 0), (.int .i64 0)] 1 [(0, (.t 27))], [], none, []⟩
          , ⟨(some 29), .app 4 40 (.t 19) (.t 28), [], none, []⟩
          , ⟨(some 9), .mov (.t 29), [], none, []⟩])))
      (.reg none [
        ⟨(some 30), .bin .add (.t 14) (.c (.int .i64 1)), [], none, []⟩
        , ⟨(some 14), .mov (.t 30), [], none, []⟩])))))))
  (.seq (some [8]) (.reg none [
    ⟨(some 31), .mov (.t 9), [], none, []⟩
    , ⟨(some 8), .mov (.t 31), [], none, []⟩])
  .ret))))

def r_enact_heading_1 : List ResA := []
def c_enact_heading_1 : AC := (.reg none [
    ⟨(some 3), .mov (.t 0), [], none, []⟩
    , ⟨(some 4), .ld none (.t 1), [], none, []⟩
    , ⟨(some 5), .nck (.t 3), [], none, []⟩
    , ⟨(some 6), .fad 5 (.t 5), [], none, []⟩
    , ⟨none, .st 1 (.t 6) (.t 4), [], none, []⟩])

def r_syntax_row : List ResA := [.t 4]
def c_syntax_row : AC := (.seq (some [0, 1]) (.reg none [
    ⟨(some 4), .mov (.c (.bool false)), [], none, []⟩])
  (.seq (some [4]) (.reg none [
    ⟨(some 5), .mov (.t 0), [], none, []⟩
    , ⟨(some 6), .call n_wordseq_Valid [(.t 5)], [], none, []⟩
    , ⟨(some 7), .mov (.t 6), [], none, []⟩
    , ⟨(some 8), .mov (.t 0), [], some (7, true), []⟩
    , ⟨(some 9), .len (.t 8), [(.sl, (.t 8))], some (7, true), []⟩
    , ⟨(some 10), .mov (.t 1), [], some (7, true), []⟩
    , ⟨(some 11), .bin .geq (.t 9) (.t 10), [], some (7, true), []⟩
    , ⟨(some 12), .pick (.t 7) (.t 11) (.c (.bool false)), [], none, []⟩
    , ⟨(some 4), .mov (.t 12), [], none, []⟩])
  .ret))

def r_syntax_rules_9 : List ResA := [.c (some 25) 2]
def c_syntax_rules_9 : AC := (.seq (some [1, 2]) (.reg none [
    ⟨(some 1), .box 25 (.t 0), [], none, []⟩
    , ⟨(some 2), .alloc [(.int .i64 0), (.sl [] .nil), (.sl [] .nil), (.int .i64 0), (.int .i64 0), (.int .i64 0), (.int .i64 0), (.int .i64 0), (.int .i64 0), (.str []), (.sl [] .nil), (.sl [] .nil), (.sl [] .nil), (.sl [] .nil), (.sl [] .nil), (.str []), (.str []), (.int .i64 0), (.int .i64 0), (.str []), (.int .i64 0), (.int .i64 0), (.int .i64 0), (.str []), (.sl [] .nil)], [], none, []⟩])
  (.seq (some [2]) (.reg none [
    ⟨(some 3), .fad 14 (.t 1), [], none, []⟩
    , ⟨(some 4), .ld none (.t 3), [], none, []⟩
    , ⟨(some 5), .build [(.int .i64 0), (.sl [] .nil), (.sl [] .nil), (.int .i64 0), (.int .i64 0), (.int .i64 0), (.int .i64 0), (.int .i64 0), (.int .i64 0), (.str []), (.sl [] .nil), (.sl [] .nil), (.sl [] .nil), (.sl [] .nil), (.sl [] .nil), (.str []), (.str []), (.int .i64 0), (.int .i64 0), (.str []), (.int .i64 0), (.int .i64 0), (.int .i64 0), (.str []), (.sl [] .nil)] [(14, 1, (.t 4))], [], none, []⟩
    , ⟨none, .st 25 (.t 2) (.t 5), [], none, []⟩])
  .ret))

def r_syntax_rules_10 : List ResA := [.t 2]
def c_syntax_rules_10 : AC := (.seq (some [1]) (.reg none [
    ⟨(some 1), .box 25 (.t 0), [], none, []⟩
    , ⟨(some 2), .mov (.c (.bool false)), [], none, []⟩])
  (.seq (some [2]) (.reg none [
    ⟨(some 3), .fad 14 (.t 1), [], none, []⟩
    , ⟨(some 4), .ld none (.t 3), [], none, []⟩
    , ⟨(some 5), .call n_syntax_row [(.t 4), (.c (.int .i64 0))], [], none, []⟩
    , ⟨(some 2), .mov (.t 5), [], none, []⟩])
  .ret))

def r_label_Valid : List ResA := [.t 2]
def c_label_Valid : AC := (.seq (some [0]) (.reg none [
    ⟨(some 2), .mov (.c (.bool false)), [], none, []⟩])
  (.seq (some [3, 4]) (.reg none [
    ⟨(some 7), .mov (.t 0), [], none, []⟩
    , ⟨(some 8), .call n_label_parted [(.t 7)], [], none, []⟩
    , ⟨(some 6), .mov (.t 8), [], none, []⟩
    , ⟨(some 9), .ext (.t 6) 0, [], none, []⟩
    , ⟨(some 10), .ext (.t 6) 1, [], none, []⟩
    , ⟨(some 3), .mov (.t 9), [], none, []⟩
    , ⟨(some 4), .mov (.t 10), [], none, []⟩])
  (.seq (some [3, 4, 5]) (.reg none [
    ⟨(some 5), .mov (.c (.fn n_label_Valid_1 [])), [], none, []⟩])
  (.seq (some [2]) (.reg none [
    ⟨(some 11), .mov (.t 3), [], none, []⟩
    , ⟨(some 12), .len (.t 11), [(.st, (.t 11))], none, []⟩
    , ⟨(some 13), .bin .geq (.t 12) (.c (.int .i64 1)), [], none, []⟩
    , ⟨(some 14), .mov (.t 13), [], none, []⟩
    , ⟨(some 15), .mov (.t 3), [], some (14, true), []⟩
    , ⟨(some 16), .len (.t 15), [(.st, (.t 15))], some (14, true), []⟩
    , ⟨(some 17), .bin .leq (.t 16) (.c (.int .i64 4)), [], some (14, true), []⟩
    , ⟨(some 18), .pick (.t 14) (.t 17) (.c (.bool false)), [], none, []⟩
    , ⟨(some 19), .mov (.t 18), [], none, []⟩
    , ⟨(some 20), .mov (.t 3), [], some (19, true), []⟩
    , ⟨(some 21), .ixb (.t 20) (.c (.int .i64 0)), [], some (19, true), []⟩
    , ⟨(some 22), .bin .neq (.t 21) (.c (.int .u8 48)), [], some (19, true), []⟩
    , ⟨(some 23), .pick (.t 19) (.t 22) (.c (.bool false)), [], none, []⟩
    , ⟨(some 24), .mov (.t 23), [], none, []⟩
    , ⟨(some 25), .mov (.t 4), [], some (24, true), []⟩
    , ⟨(some 26), .len (.t 25), [(.st, (.t 25))], some (24, true), []⟩
    , ⟨(some 27), .bin .leq (.t 26) (.c (.int .i64 3)), [], some (24, true), []⟩
    , ⟨(some 28), .pick (.t 24) (.t 27) (.c (.bool false)), [], none, []⟩
    , ⟨(some 29), .mov (.t 28), [], none, []⟩
    , ⟨(some 30), .mov (.t 4), [], some (29, true), []⟩
    , ⟨(some 31), .mov (.t 5), [], some (29, true), []⟩
    , ⟨(some 32), .call n_strings_ContainsFunc [(.t 30), (.t 31)], [], some (29, true), []⟩
    , ⟨(some 33), .un .not (.t 32), [], some (29, true), []⟩
    , ⟨(some 34), .pick (.t 29) (.t 33) (.c (.bool false)), [], none, []⟩
    , ⟨(some 2), .mov (.t 34), [], none, []⟩])
  .ret))))

def r_address_book : List ResA := [.t 2]
def c_address_book : AC := (.seq (some [1]) (.reg none [
    ⟨(some 1), .box 2 (.t 0), [], none, []⟩
    , ⟨(some 2), .mov (.c (.bool false)), [], none, []⟩])
  (.seq (some [2]) (.reg none [
    ⟨(some 3), .fad 0 (.t 1), [], none, []⟩
    , ⟨(some 4), .ld none (.t 3), [], none, []⟩
    , ⟨(some 5), .bin .eql (.t 4) (.c (.int .i64 0)), [], none, []⟩
    , ⟨(some 6), .mov (.t 5), [], none, []⟩
    , ⟨(some 7), .fad 1 (.t 1), [], some (6, true), []⟩
    , ⟨(some 8), .ld none (.t 7), [], some (6, true), []⟩
    , ⟨(some 9), .bin .eql (.t 8) (.c (.str [])), [], some (6, true), []⟩
    , ⟨(some 10), .pick (.t 6) (.t 9) (.c (.bool false)), [], none, []⟩
    , ⟨(some 2), .mov (.t 10), [], none, []⟩])
  .ret))

def r_api_Step_ : List ResA := [.t 4]
def c_api_Step_ : AC := (.seq (some [0, 1]) (.reg none [
    ⟨(some 4), .mov (.c (.bool false)), [], none, []⟩])
  (.seq (some [0, 1]) (.seq (some [0, 1, 10]) (.reg none [
    ⟨(some 6), .mov (.t 0), [], none, []⟩
    , ⟨(some 7), .len (.t 6), [(.sl, (.t 6))], none, []⟩
    , ⟨(some 8), .mov (.t 1), [], none, []⟩
    , ⟨(some 9), .len (.t 8), [(.sl, (.t 8))], none, []⟩
    , ⟨(some 10), .bin .neq (.t 7) (.t 9), [], none, []⟩])
  (.cond (.t 10)
    (.seq (some [4]) (.reg none [
      ⟨(some 4), .mov (.c (.bool false)), [], none, []⟩])
    .ret)
    .skip))
  (.seq (some []) (.seq (some [0, 1, 12, 13]) (.reg none [
    ⟨(some 11), .mov (.t 0), [], none, []⟩
    , ⟨(some 12), .len (.t 11), [(.sl, (.t 11))], none, []⟩
    , ⟨(some 13), .mov (.c (.int .i64 0)), [], none, []⟩])
  (.block 0
    (.loop (some [0, 1, 12, 13])
      (.seq (some [0, 1, 12, 13, 14]) (.reg none [
        ⟨(some 14), .bin .lss (.t 13) (.t 12), [], none, []⟩])
      (.seq (some [0, 1, 12, 13]) (.cond (.t 14)
        .skip
        (.exit 0))
      (.seq (some [0, 1, 12, 13]) (.block 1
        (.seq (some [0, 1, 5, 12, 13]) (.reg none [
          ⟨(some 15), .mov (.t 13), [], none, []⟩
          , ⟨(some 5), .mov (.t 15), [], none, []⟩])
        (.seq (some [0, 1, 12, 13, 24]) (.reg (some [[], [], [0, 1], [2], [], [], [4, 5], [6], [3, 7]]) [
          ⟨(some 16), .mov (.t 0), [], none, []⟩
          , ⟨(some 17), .mov (.t 5), [], none, []⟩
          , ⟨(some 18), .ixs 2 (.t 16) (.t 17), [], none, []⟩
          , ⟨(some 19), .ld (some 2) (.t 18), [], none, []⟩
          , ⟨(some 20), .mov (.t 1), [], none, []⟩
          , ⟨(some 21), .mov (.t 5), [], none, []⟩
          , ⟨(some 22), .ixs 2 (.t 20) (.t 21), [], none, []⟩
          , ⟨(some 23), .ld (some 2) (.t 22), [], none, []⟩
          , ⟨(some 24), .eqA true [.i .i64, .s] (.t 19) (.t 23), [], none, []⟩])
        (.cond (.t 24)
          (.seq (some [4]) (.reg none [
            ⟨(some 4), .mov (.c (.bool false)), [], none, []⟩])
          .ret)
          .skip))))
      (.reg none [
        ⟨(some 25), .bin .add (.t 13) (.c (.int .i64 1)), [], none, []⟩
        , ⟨(some 13), .mov (.t 25), [], none, []⟩])))))))
  (.seq (some [4]) (.reg none [
    ⟨(some 4), .mov (.c (.bool true)), [], none, []⟩])
  .ret))))

def r_slices_Equal___string_string_ : List ResA := [.t 4]
def c_slices_Equal___string_string_ : AC := (.seq (some [0, 1]) (.reg none [
    ⟨(some 4), .mov (.c (.bool false)), [], none, []⟩])
  (.seq (some [0, 1]) (.seq (some [0, 1, 10]) (.reg none [
    ⟨(some 6), .mov (.t 0), [], none, []⟩
    , ⟨(some 7), .len (.t 6), [(.sl, (.t 6))], none, []⟩
    , ⟨(some 8), .mov (.t 1), [], none, []⟩
    , ⟨(some 9), .len (.t 8), [(.sl, (.t 8))], none, []⟩
    , ⟨(some 10), .bin .neq (.t 7) (.t 9), [], none, []⟩])
  (.cond (.t 10)
    (.seq (some [4]) (.reg none [
      ⟨(some 4), .mov (.c (.bool false)), [], none, []⟩])
    .ret)
    .skip))
  (.seq (some []) (.seq (some [0, 1, 12, 13]) (.reg none [
    ⟨(some 11), .mov (.t 0), [], none, []⟩
    , ⟨(some 12), .len (.t 11), [(.sl, (.t 11))], none, []⟩
    , ⟨(some 13), .mov (.c (.int .i64 0)), [], none, []⟩])
  (.block 0
    (.loop (some [0, 1, 12, 13])
      (.seq (some [0, 1, 12, 13, 14]) (.reg none [
        ⟨(some 14), .bin .lss (.t 13) (.t 12), [], none, []⟩])
      (.seq (some [0, 1, 12, 13]) (.cond (.t 14)
        .skip
        (.exit 0))
      (.seq (some [0, 1, 12, 13]) (.block 1
        (.seq (some [0, 1, 5, 12, 13]) (.reg none [
          ⟨(some 15), .mov (.t 13), [], none, []⟩
          , ⟨(some 5), .mov (.t 15), [], none, []⟩])
        (.seq (some [0, 1, 12, 13, 24]) (.reg (some [[], [], [0, 1], [2], [], [], [4, 5], [6], [3, 7]]) [
          ⟨(some 16), .mov (.t 0), [], none, []⟩
          , ⟨(some 17), .mov (.t 5), [], none, []⟩
          , ⟨(some 18), .ixs 1 (.t 16) (.t 17), [], none, []⟩
          , ⟨(some 19), .ld none (.t 18), [], none, []⟩
          , ⟨(some 20), .mov (.t 1), [], none, []⟩
          , ⟨(some 21), .mov (.t 5), [], none, []⟩
          , ⟨(some 22), .ixs 1 (.t 20) (.t 21), [], none, []⟩
          , ⟨(some 23), .ld none (.t 22), [], none, []⟩
          , ⟨(some 24), .bin .neq (.t 19) (.t 23), [], none, []⟩])
        (.cond (.t 24)
          (.seq (some [4]) (.reg none [
            ⟨(some 4), .mov (.c (.bool false)), [], none, []⟩])
          .ret)
          .skip))))
      (.reg none [
        ⟨(some 25), .bin .add (.t 13) (.c (.int .i64 1)), [], none, []⟩
        , ⟨(some 13), .mov (.t 25), [], none, []⟩])))))))
  (.seq (some [4]) (.reg none [
    ⟨(some 4), .mov (.c (.bool true)), [], none, []⟩])
  .ret))))

def r_api_Item_ : List ResA := [.t 6]
def c_api_Item_ : AC := (.seq (some [0, 1, 2]) (.reg none [
    ⟨(some 6), .mov (.c (.bool false)), [], none, []⟩])
  (.seq (some [0, 1, 2]) (.seq (some [0, 1, 2, 14]) (.reg none [
    ⟨(some 10), .mov (.t 0), [], none, []⟩
    , ⟨(some 11), .len (.t 10), [(.sl, (.t 10))], none, []⟩
    , ⟨(some 12), .mov (.t 1), [], none, []⟩
    , ⟨(some 13), .len (.t 12), [(.sl, (.t 12))], none, []⟩
    , ⟨(some 14), .bin .neq (.t 11) (.t 13), [], none, []⟩])
  (.cond (.t 14)
    (.seq (some [6]) (.reg none [
      ⟨(some 6), .mov (.c (.bool false)), [], none, []⟩])
    .ret)
    .skip))
  (.seq (some []) (.seq (some [1, 2, 15, 16, 17]) (.reg none [
    ⟨(some 15), .mov (.t 0), [], none, []⟩
    , ⟨(some 16), .len (.t 15), [(.sl, (.t 15))], none, []⟩
    , ⟨(some 17), .mov (.c (.int .i64 0)), [], none, []⟩])
  (.block 0
    (.loop (some [1, 2, 15, 16, 17])
      (.seq (some [1, 2, 15, 16, 17, 18]) (.reg none [
        ⟨(some 18), .bin .lss (.t 17) (.t 16), [], none, []⟩])
      (.seq (some [1, 2, 15, 16, 17]) (.cond (.t 18)
        .skip
        (.exit 0))
      (.seq (some [1, 2, 15, 16, 17]) (.block 1
        (.seq (some [1, 2, 7, 8, 15, 16, 17]) (.reg none [
          ⟨(some 19), .mov (.t 17), [], none, []⟩
          , ⟨(some 20), .ixs 25 (.t 15) (.t 17), [], none, []⟩
          , ⟨(some 21), .ld (some 25) (.t 20), [], none, []⟩
          , ⟨(some 8), .alloc [(.int .i64 0), (.sl [] .nil), (.sl [] .nil), (.int .i64 0), (.int .i64 0), (.int .i64 0), (.int .i64 0), (.int .i64 0), (.int .i64 0), (.str []), (.sl [] .nil), (.sl [] .nil), (.sl [] .nil), (.sl [] .nil), (.sl [] .nil), (.str []), (.str []), (.int .i64 0), (.int .i64 0), (.str []), (.int .i64 0), (.int .i64 0), (.int .i64 0), (.str []), (.sl [] .nil)], [], none, []⟩
          , ⟨(some 7), .mov (.t 19), [], none, []⟩
          , ⟨none, .st 25 (.t 8) (.t 21), [], none, []⟩])
        (.seq (some [1, 2, 8, 9, 15, 16, 17]) (.reg none [
          ⟨(some 22), .mov (.t 1), [], none, []⟩
          , ⟨(some 23), .mov (.t 7), [], none, []⟩
          , ⟨(some 24), .ixs 25 (.t 22) (.t 23), [], none, []⟩
          , ⟨(some 25), .ld (some 25) (.t 24), [], none, []⟩
          , ⟨(some 9), .alloc [(.int .i64 0), (.sl [] .nil), (.sl [] .nil), (.int .i64 0), (.int .i64 0), (.int .i64 0), (.int .i64 0), (.int .i64 0), (.int .i64 0), (.str []), (.sl [] .nil), (.sl [] .nil), (.sl [] .nil), (.sl [] .nil), (.sl [] .nil), (.str []), (.str []), (.int .i64 0), (.int .i64 0), (.str []), (.int .i64 0), (.int .i64 0), (.int .i64 0), (.str []), (.sl [] .nil)], [], none, []⟩
          , ⟨none, .st 25 (.t 9) (.t 25), [], none, []⟩])
        (.seq (some [1, 2, 15, 16, 17, 30]) (.reg none [
          ⟨(some 26), .mov (.t 2), [], none, []⟩
          , ⟨(some 27), .ld (some 25) (.t 8), [], none, []⟩
          , ⟨(some 28), .ld (some 25) (.t 9), [], none, []⟩
          , ⟨(some 29), .calld (.t 26) [(.t 27), (.t 28)], [], none, []⟩
          , ⟨(some 30), .un .not (.t 29), [], none, []⟩])
        (.cond (.t 30)
          (.seq (some [6]) (.reg none [
            ⟨(some 6), .mov (.c (.bool false)), [], none, []⟩])
          .ret)
          .skip)))))
      (.reg none [
        ⟨(some 31), .bin .add (.t 17) (.c (.int .i64 1)), [], none, []⟩
        , ⟨(some 17), .mov (.t 31), [], none, []⟩])))))))
  (.seq (some [6]) (.reg none [
    ⟨(some 6), .mov (.c (.bool true)), [], none, []⟩])
  .ret))))

def r_address_found : List ResA := [.t 4]
def c_address_found : AC := (.seq (some [2, 3]) (.reg none [
    ⟨(some 2), .box 8 (.t 0), [], none, []⟩
    , ⟨(some 3), .box 1 (.t 1), [], none, []⟩
    , ⟨(some 4), .mov (.c (.sl [] .nil)), [], none, []⟩])
  (.seq (some [2, 3]) (.seq (some [2, 3, 15]) (.reg none [
    ⟨(some 13), .ld none (.t 3), [], none, []⟩
    , ⟨(some 14), .call n_address_Valid [(.t 13)], [], none, []⟩
    , ⟨(some 15), .un .not (.t 14), [], none, []⟩])
  (.cond (.t 15)
    (.seq (some [4]) (.reg none [
      ⟨(some 4), .mov (.c (.sl [] .nil)), [], none, []⟩])
    .ret)
    .skip))
  (.seq (some [2, 3, 5]) (.reg none [
    ⟨(some 5), .alloc [(.sl [] .nil)], [], none, []⟩])
  (.seq (some [3, 5]) (.block 0
    (.seq (some [2, 3, 5, 19]) (.reg none [
      ⟨(some 20), .ld none (.t 3), [], none, []⟩
      , ⟨(some 21), .len (.t 20), [(.sl, (.t 20))], none, []⟩
      , ⟨(some 22), .bin .eql (.t 21) (.c (.int .i64 0)), [], none, []⟩
      , ⟨(some 19), .mov (.t 22), [], none, []⟩])
    (.cond (.t 19)
      (.seq (some [4]) (.reg none [
        ⟨(some 23), .ld (some 8) (.t 2), [], none, []⟩
        , ⟨(some 24), .lit 8 [(.int .i64 0), (.int .i64 0), (.int .i64 0), (.int .i64 0), (.str []), (.sl [] .nil), (.sl [] .nil), (.sl [] .nil)] 1 [(0, (.t 23))], [], none, []⟩
        , ⟨(some 4), .mov (.t 24), [], none, []⟩])
      .ret)
      (.seq (some [2, 3, 5, 25]) (.reg none [
        ⟨(some 26), .ld none (.t 3), [], none, []⟩
        , ⟨(some 27), .ixs 2 (.t 26) (.c (.int .i64 0)), [], none, []⟩
        , ⟨(some 28), .ld (some 2) (.t 27), [], none, []⟩
        , ⟨(some 29), .call n_address_book [(.t 28)], [], none, []⟩
        , ⟨(some 25), .mov (.t 29), [], none, []⟩])
      (.cond (.t 25)
        (.reg none [
          ⟨(some 30), .ld (some 8) (.t 2), [], none, []⟩
          , ⟨(some 31), .lit 8 [(.int .i64 0), (.int .i64 0), (.int .i64 0), (.int .i64 0), (.str []), (.sl [] .nil), (.sl [] .nil), (.sl [] .nil)] 1 [(0, (.t 30))], [], none, []⟩
          , ⟨none, .st 1 (.t 5) (.t 31), [], none, []⟩])
        (.reg none [
          ⟨(some 16), .ld (some 8) (.t 2), [], none, []⟩
          , ⟨(some 17), .fnc n_address_found_1 [(.t 3), (.t 5)], [], none, []⟩
          , ⟨(some 18), .call n_address_each [(.t 16), (.t 17)], [], none, []⟩]))))))
  (.seq (some [5]) (.seq (some [5, 33, 34, 35]) (.reg none [
    ⟨(some 32), .ld none (.t 3), [], none, []⟩
    , ⟨(some 33), .slc 2 (.t 32) (some (.c (.int .i64 1))) none none, [(.sl, (.t 32))], none, []⟩
    , ⟨(some 34), .len (.t 33), [(.sl, (.t 33))], none, []⟩
    , ⟨(some 35), .mov (.c (.int .i64 0)), [], none, []⟩])
  (.block 1
    (.loop (some [5, 33, 34, 35])
      (.seq (some [5, 33, 34, 35, 36]) (.reg none [
        ⟨(some 36), .bin .lss (.t 35) (.t 34), [], none, []⟩])
      (.seq (some [5, 33, 34, 35]) (.cond (.t 36)
        .skip
        (.exit 1))
      (.seq (some [5, 33, 34, 35]) (.block 2
        (.seq (some [5, 7, 33, 34, 35]) (.reg none [
          ⟨(some 37), .ixs 2 (.t 33) (.t 35), [], none, []⟩
          , ⟨(some 38), .ld (some 2) (.t 37), [], none, []⟩
          , ⟨(some 7), .alloc [(.int .i64 0), (.str [])], [], none, []⟩
          , ⟨none, .st 2 (.t 7) (.t 38), [], none, []⟩])
        (.seq (some [5, 7, 8, 33, 34, 35]) (.reg none [
          ⟨(some 8), .mov (.c (.sl [] .nil)), [], none, []⟩])
        (.seq (some [5, 8, 33, 34, 35]) (.seq (some [5, 7, 8, 33, 34, 35, 39, 40, 41]) (.reg none [
          ⟨(some 39), .ld none (.t 5), [], none, []⟩
          , ⟨(some 40), .len (.t 39), [(.sl, (.t 39))], none, []⟩
          , ⟨(some 41), .mov (.c (.int .i64 0)), [], none, []⟩])
        (.block 3
          (.loop (some [5, 7, 8, 33, 34, 35, 39, 40, 41])
            (.seq (some [5, 7, 8, 33, 34, 35, 39, 40, 41, 42]) (.reg none [
              ⟨(some 42), .bin .lss (.t 41) (.t 40), [], none, []⟩])
            (.seq (some [5, 7, 8, 33, 34, 35, 39, 40, 41]) (.cond (.t 42)
              .skip
              (.exit 3))
            (.seq (some [5, 7, 8, 33, 34, 35, 39, 40, 41]) (.block 4
              (.seq (some [5, 7, 8, 10, 33, 34, 35, 39, 40, 41]) (.reg none [
                ⟨(some 43), .ixs 8 (.t 39) (.t 41), [], none, []⟩
                , ⟨(some 44), .ld (some 8) (.t 43), [], none, []⟩
                , ⟨(some 10), .alloc [(.int .i64 0), (.int .i64 0), (.int .i64 0), (.int .i64 0), (.str []), (.sl [] .nil), (.sl [] .nil), (.sl [] .nil)], [], none, []⟩
                , ⟨none, .st 8 (.t 10) (.t 44), [], none, []⟩])
              (.seq (some [5, 7, 8, 33, 34, 35, 39, 40, 41, 46, 47, 48]) (.reg none [
                ⟨(some 45), .fad 7 (.t 10), [], none, []⟩
                , ⟨(some 46), .ld none (.t 45), [], none, []⟩
                , ⟨(some 47), .len (.t 46), [(.sl, (.t 46))], none, []⟩
                , ⟨(some 48), .mov (.c (.int .i64 0)), [], none, []⟩])
              (.block 5
                (.loop (some [5, 7, 8, 33, 34, 35, 39, 40, 41, 46, 47, 48])
                  (.seq (some [5, 7, 8, 33, 34, 35, 39, 40, 41, 46, 47, 48, 49]) (.reg none [
                    ⟨(some 49), .bin .lss (.t 48) (.t 47), [], none, []⟩])
                  (.seq (some [5, 7, 8, 33, 34, 35, 39, 40, 41, 46, 47, 48]) (.cond (.t 49)
                    .skip
                    (.exit 5))
                  (.seq (some [5, 7, 8, 33, 34, 35, 39, 40, 41, 46, 47, 48]) (.block 6
                    (.seq (some [5, 7, 8, 12, 33, 34, 35, 39, 40, 41, 46, 47, 48]) (.reg none [
                      ⟨(some 50), .ixs 8 (.t 46) (.t 48), [], none, []⟩
                      , ⟨(some 51), .ld (some 8) (.t 50), [], none, []⟩
                      , ⟨(some 12), .alloc [(.int .i64 0), (.int .i64 0), (.int .i64 0), (.int .i64 0), (.str []), (.sl [] .nil), (.sl [] .nil), (.sl [] .nil)], [], none, []⟩
                      , ⟨none, .st 8 (.t 12) (.t 51), [], none, []⟩])
                    (.seq (some [5, 7, 8, 12, 33, 34, 35, 39, 40, 41, 46, 47, 48, 54]) (.reg none [
                      ⟨(some 52), .ld (some 8) (.t 12), [], none, []⟩
                      , ⟨(some 53), .ld (some 2) (.t 7), [], none, []⟩
                      , ⟨(some 54), .call n_address_called [(.t 52), (.t 53)], [], none, []⟩])
                    (.cond (.t 54)
                      (.reg none [
                        ⟨(some 55), .mov (.t 8), [], none, []⟩
                        , ⟨(some 56), .ld (some 8) (.t 12), [], none, []⟩
                        , ⟨(some 57), .lit 8 [(.int .i64 0), (.int .i64 0), (.int .i64 0), (.int .i64 0), (.str []), (.sl [] .nil), (.sl [] .nil), (.sl [] .nil)] 1 [(0, (.t 56))], [], none, []⟩
                        , ⟨(some 58), .app 8 120 (.t 55) (.t 57), [], none, []⟩
                        , ⟨(some 8), .mov (.t 58), [], none, []⟩])
                      .skip))))
                  (.reg none [
                    ⟨(some 59), .bin .add (.t 48) (.c (.int .i64 1)), [], none, []⟩
                    , ⟨(some 48), .mov (.t 59), [], none, []⟩])))))))))
            (.reg none [
              ⟨(some 60), .bin .add (.t 41) (.c (.int .i64 1)), [], none, []⟩
              , ⟨(some 41), .mov (.t 60), [], none, []⟩])))))))
        (.reg none [
          ⟨(some 61), .mov (.t 8), [], none, []⟩
          , ⟨none, .st 1 (.t 5) (.t 61), [], none, []⟩])))))
      (.reg none [
        ⟨(some 62), .bin .add (.t 35) (.c (.int .i64 1)), [], none, []⟩
        , ⟨(some 35), .mov (.t 62), [], none, []⟩])))))))
  (.seq (some [4]) (.reg none [
    ⟨(some 63), .ld none (.t 5), [], none, []⟩
    , ⟨(some 4), .mov (.t 63), [], none, []⟩])
  .ret))))))

def r_api_Word__154 : List ResA := [.t 2]
def c_api_Word__154 : AC := (.seq (some [0]) (.reg none [
    ⟨(some 2), .mov (.c (.sl [] .nil)), [], none, []⟩])
  (.seq (some [0]) (.seq (some [0, 4]) (.reg none [
    ⟨(some 3), .mov (.t 0), [], none, []⟩
    , ⟨(some 4), .binN false (.t 3) (.c (.sl [] .nil)), [(.sl, (.t 3)), (.sl, (.c (.sl [] .nil)))], none, []⟩])
  (.cond (.t 4)
    (.seq (some [2]) (.reg none [
      ⟨(some 2), .mov (.c (.sl [] .nil)), [], none, []⟩])
    .ret)
    .skip))
  (.seq (some [2]) (.reg none [
    ⟨(some 5), .lit 4 [(.str []), (.int .i64 0), (.int .i64 0), (.int .i64 0)] 0 [], [], none, []⟩
    , ⟨(some 6), .mov (.t 0), [], none, []⟩
    , ⟨(some 7), .app 4 40 (.t 5) (.t 6), [], none, []⟩
    , ⟨(some 2), .mov (.t 7), [], none, []⟩])
  .ret)))

def r_slices_medianOrdered_int_ : List ResA := [.t 10]
def c_slices_medianOrdered_int_ : AC := (.seq (some [0, 1, 2, 3, 4]) (.reg none [
    ⟨(some 10), .mov (.c (.int .i64 0)), [], none, []⟩])
  (.seq (some [0, 1, 2, 3, 4]) (.reg none [
    ⟨(some 12), .mov (.t 0), [], none, []⟩
    , ⟨(some 13), .mov (.t 1), [], none, []⟩
    , ⟨(some 14), .mov (.t 2), [], none, []⟩
    , ⟨(some 15), .mov (.t 4), [], none, []⟩
    , ⟨(some 16), .call n_slices_order2Ordered_int_ [(.t 12), (.t 13), (.t 14), (.t 15)], [], none, [.shr]⟩
    , ⟨(some 11), .mov (.t 16), [], none, []⟩
    , ⟨(some 17), .ext (.t 11) 0, [], none, []⟩
    , ⟨(some 18), .ext (.t 11) 1, [], none, []⟩
    , ⟨(some 1), .mov (.t 17), [], none, []⟩
    , ⟨(some 2), .mov (.t 18), [], none, []⟩])
  (.seq (some [0, 1, 2, 4]) (.reg none [
    ⟨(some 20), .mov (.t 0), [], none, []⟩
    , ⟨(some 21), .mov (.t 2), [], none, []⟩
    , ⟨(some 22), .mov (.t 3), [], none, []⟩
    , ⟨(some 23), .mov (.t 4), [], none, []⟩
    , ⟨(some 24), .call n_slices_order2Ordered_int_ [(.t 20), (.t 21), (.t 22), (.t 23)], [], none, [.shr]⟩
    , ⟨(some 19), .mov (.t 24), [], none, []⟩
    , ⟨(some 25), .ext (.t 19) 0, [], none, []⟩
    , ⟨(some 26), .ext (.t 19) 1, [], none, []⟩
    , ⟨(some 2), .mov (.t 25), [], none, []⟩
    , ⟨(some 3), .mov (.t 26), [], none, []⟩])
  (.seq (some [2]) (.reg none [
    ⟨(some 28), .mov (.t 0), [], none, []⟩
    , ⟨(some 29), .mov (.t 1), [], none, []⟩
    , ⟨(some 30), .mov (.t 2), [], none, []⟩
    , ⟨(some 31), .mov (.t 4), [], none, []⟩
    , ⟨(some 32), .call n_slices_order2Ordered_int_ [(.t 28), (.t 29), (.t 30), (.t 31)], [], none, [.shr]⟩
    , ⟨(some 27), .mov (.t 32), [], none, []⟩
    , ⟨(some 33), .ext (.t 27) 0, [], none, []⟩
    , ⟨(some 34), .ext (.t 27) 1, [], none, []⟩
    , ⟨(some 1), .mov (.t 33), [], none, []⟩
    , ⟨(some 2), .mov (.t 34), [], none, []⟩])
  (.seq (some [10]) (.reg none [
    ⟨(some 35), .mov (.t 2), [], none, []⟩
    , ⟨(some 10), .mov (.t 35), [], none, []⟩])
  .ret)))))

def r_pandectref06_row : List ResA := [.t 2]
def c_pandectref06_row : AC := (.seq (some [0]) (.reg none [
    ⟨(some 2), .mov (.c (.bool false)), [], none, []⟩])
  (.seq (some [2]) (.reg none [
    ⟨(some 3), .mov (.t 0), [], none, []⟩
    , ⟨(some 4), .len (.t 3), [(.sl, (.t 3))], none, []⟩
    , ⟨(some 5), .bin .leq (.t 4) (.c (.int .i64 256)), [], none, []⟩
    , ⟨(some 6), .mov (.t 5), [], none, []⟩
    , ⟨(some 7), .mov (.t 0), [], some (6, true), []⟩
    , ⟨(some 8), .call n_pandectref06_Texts [(.t 7)], [], some (6, true), []⟩
    , ⟨(some 9), .call n_pandectref04_May [(.t 8)], [], some (6, true), []⟩
    , ⟨(some 10), .pick (.t 6) (.t 9) (.c (.bool false)), [], none, []⟩
    , ⟨(some 2), .mov (.t 10), [], none, []⟩])
  .ret))

def r_pandectref03_May : List ResA := [.t 2]
def c_pandectref03_May : AC := (.seq (some [0]) (.reg none [
    ⟨(some 2), .mov (.c (.bool false)), [], none, []⟩])
  (.seq (some [0, 3]) (.reg none [
    ⟨(some 5), .mov (.t 0), [], none, []⟩
    , ⟨(some 6), .call n_pandectref03_digits [(.t 5)], [], none, []⟩
    , ⟨(some 3), .mov (.t 6), [], none, []⟩])
  (.seq (some [0, 3]) (.seq (some [0, 3, 24]) (.reg none [
    ⟨(some 7), .mov (.t 3), [], none, []⟩
    , ⟨(some 8), .bin .lss (.t 7) (.c (.int .i64 1)), [], none, []⟩
    , ⟨(some 9), .mov (.t 8), [], none, []⟩
    , ⟨(some 10), .mov (.t 3), [], some (9, false), []⟩
    , ⟨(some 11), .bin .gtr (.t 10) (.c (.int .i64 4)), [], some (9, false), []⟩
    , ⟨(some 12), .pick (.t 9) (.c (.bool true)) (.t 11), [], none, []⟩
    , ⟨(some 13), .mov (.t 12), [], none, []⟩
    , ⟨(some 14), .mov (.t 0), [], some (13, false), []⟩
    , ⟨(some 15), .ixb (.t 14) (.c (.int .i64 0)), [], some (13, false), []⟩
    , ⟨(some 16), .bin .eql (.t 15) (.c (.int .u8 48)), [], some (13, false), []⟩
    , ⟨(some 17), .pick (.t 13) (.c (.bool true)) (.t 16), [], none, []⟩
    , ⟨(some 18), .mov (.t 17), [], none, []⟩
    , ⟨(some 19), .mov (.t 0), [], some (18, false), []⟩
    , ⟨(some 20), .len (.t 19), [(.st, (.t 19))], some (18, false), []⟩
    , ⟨(some 21), .mov (.t 3), [], some (18, false), []⟩
    , ⟨(some 22), .bin .sub (.t 20) (.t 21), [], some (18, false), []⟩
    , ⟨(some 23), .bin .gtr (.t 22) (.c (.int .i64 3)), [], some (18, false), []⟩
    , ⟨(some 24), .pick (.t 18) (.c (.bool true)) (.t 23), [], none, []⟩])
  (.cond (.t 24)
    (.seq (some [2]) (.reg none [
      ⟨(some 2), .mov (.c (.bool false)), [], none, []⟩])
    .ret)
    .skip))
  (.seq (some []) (.seq (some [0, 4]) (.reg none [
    ⟨(some 25), .mov (.t 3), [], none, []⟩
    , ⟨(some 4), .mov (.t 25), [], none, []⟩])
  (.block 0
    (.loop (some [0, 4])
      (.seq (some [0, 4]) (.seq (some [0, 4, 29]) (.reg none [
        ⟨(some 26), .mov (.t 4), [], none, []⟩
        , ⟨(some 27), .mov (.t 0), [], none, []⟩
        , ⟨(some 28), .len (.t 27), [(.st, (.t 27))], none, []⟩
        , ⟨(some 29), .bin .lss (.t 26) (.t 28), [], none, []⟩])
      (.cond (.t 29)
        .skip
        (.exit 0)))
      (.seq (some [0, 4]) (.block 1
        (.seq (some [0, 4, 41]) (.reg none [
          ⟨(some 32), .mov (.t 0), [], none, []⟩
          , ⟨(some 33), .mov (.t 4), [], none, []⟩
          , ⟨(some 34), .ixb (.t 32) (.t 33), [], none, []⟩
          , ⟨(some 35), .bin .lss (.t 34) (.c (.int .u8 65)), [], none, []⟩
          , ⟨(some 36), .mov (.t 35), [], none, []⟩
          , ⟨(some 37), .mov (.t 0), [], some (36, false), []⟩
          , ⟨(some 38), .mov (.t 4), [], some (36, false), []⟩
          , ⟨(some 39), .ixb (.t 37) (.t 38), [], some (36, false), []⟩
          , ⟨(some 40), .bin .gtr (.t 39) (.c (.int .u8 90)), [], some (36, false), []⟩
          , ⟨(some 41), .pick (.t 36) (.c (.bool true)) (.t 40), [], none, []⟩])
        (.cond (.t 41)
          (.seq (some [2]) (.reg none [
            ⟨(some 2), .mov (.c (.bool false)), [], none, []⟩])
          .ret)
          .skip)))
      (.reg none [
        ⟨(some 30), .mov (.t 4), [], none, []⟩
        , ⟨(some 31), .bin .add (.t 30) (.c (.int .i64 1)), [], none, []⟩
        , ⟨(some 4), .mov (.t 31), [], none, []⟩]))))))
  (.seq (some [2]) (.reg none [
    ⟨(some 2), .mov (.c (.bool true)), [], none, []⟩])
  .ret)))))

def r_api_Unit__175 : List ResA := [.t 2]
def c_api_Unit__175 : AC := (.seq (some [0]) (.reg none [
    ⟨(some 2), .mov (.c (.sl [] .nil)), [], none, []⟩])
  (.seq (some [0]) (.seq (some [0, 4]) (.reg none [
    ⟨(some 3), .mov (.t 0), [], none, []⟩
    , ⟨(some 4), .binN false (.t 3) (.c (.sl [] .nil)), [(.sl, (.t 3)), (.sl, (.c (.sl [] .nil)))], none, []⟩])
  (.cond (.t 4)
    (.seq (some [2]) (.reg none [
      ⟨(some 2), .mov (.c (.sl [] .nil)), [], none, []⟩])
    .ret)
    .skip))
  (.seq (some [2]) (.reg none [
    ⟨(some 5), .lit 8 [(.int .i64 0), (.int .i64 0), (.int .i64 0), (.int .i64 0), (.str []), (.sl [] .nil), (.sl [] .nil), (.sl [] .nil)] 0 [], [], none, []⟩
    , ⟨(some 6), .mov (.t 0), [], none, []⟩
    , ⟨(some 7), .appB 8 120 (.t 5) (.t 6), [], none, []⟩
    , ⟨(some 2), .mov (.t 7), [], none, []⟩])
  .ret)))

def r_wordseq_Valid : List ResA := [.t 2]
def c_wordseq_Valid : AC := (.seq (some [0]) (.reg none [
    ⟨(some 2), .mov (.c (.bool false)), [], none, []⟩])
  (.seq (some [2]) (.reg none [
    ⟨(some 3), .mov (.t 0), [], none, []⟩
    , ⟨(some 4), .len (.t 3), [(.sl, (.t 3))], none, []⟩
    , ⟨(some 5), .bin .leq (.t 4) (.c (.int .i64 256)), [], none, []⟩
    , ⟨(some 6), .mov (.t 5), [], none, []⟩
    , ⟨(some 7), .mov (.t 0), [], some (6, true), []⟩
    , ⟨(some 8), .call n_slices_ContainsFunc___string_string_ [(.t 7), (.c (.fn n_wordseq_Valid_1 []))], [], some (6, true), []⟩
    , ⟨(some 9), .un .not (.t 8), [], some (6, true), []⟩
    , ⟨(some 10), .pick (.t 6) (.t 9) (.c (.bool false)), [], none, []⟩
    , ⟨(some 2), .mov (.t 10), [], none, []⟩])
  .ret))

def r_label_parted : List ResA := [.t 2, .t 3]
def c_label_parted : AC := (.seq (some [0]) (.reg none [
    ⟨(some 2), .mov (.c (.str [])), [], none, []⟩
    , ⟨(some 3), .mov (.c (.str [])), [], none, []⟩])
  (.seq (some [0, 4]) (.reg none [
    ⟨(some 5), .mov (.t 0), [], none, []⟩
    , ⟨(some 6), .call n_strings_IndexFunc [(.t 5), (.c (.fn n_label_parted_1 []))], [], none, []⟩
    , ⟨(some 4), .mov (.t 6), [], none, []⟩])
  (.seq (some [0, 4]) (.seq (some [0, 4, 8]) (.reg none [
    ⟨(some 7), .mov (.t 4), [], none, []⟩
    , ⟨(some 8), .bin .lss (.t 7) (.c (.int .i64 0)), [], none, []⟩])
  (.cond (.t 8)
    (.seq (some [2, 3]) (.reg none [
      ⟨(some 9), .mov (.t 0), [], none, []⟩
      , ⟨(some 2), .mov (.t 9), [], none, []⟩
      , ⟨(some 3), .mov (.c (.str [])), [], none, []⟩])
    .ret)
    .skip))
  (.seq (some [2, 3]) (.reg (some [[], [], [0, 1], [], [], [3, 4], [2, 0, 1, 2], [5, 6, 0, 1, 2, 3, 4, 5, 6]]) [
    ⟨(some 10), .mov (.t 0), [], none, []⟩
    , ⟨(some 11), .mov (.t 4), [], none, []⟩
    , ⟨(some 12), .slc 0 (.t 10) none (some (.t 11)) none, [(.st, (.t 10))], none, []⟩
    , ⟨(some 13), .mov (.t 0), [], none, []⟩
    , ⟨(some 14), .mov (.t 4), [], none, []⟩
    , ⟨(some 15), .slc 0 (.t 13) (some (.t 14)) none none, [(.st, (.t 13))], none, []⟩
    , ⟨(some 2), .mov (.t 12), [], none, []⟩
    , ⟨(some 3), .mov (.t 15), [], none, []⟩])
  .ret))))

def r_strings_ContainsFunc : List ResA := [.t 4]
def c_strings_ContainsFunc : AC := (.seq (some [0, 1]) (.reg none [
    ⟨(some 4), .mov (.c (.bool false)), [], none, []⟩])
  (.seq (some [4]) (.reg none [
    ⟨(some 5), .mov (.t 0), [], none, []⟩
    , ⟨(some 6), .mov (.t 1), [], none, []⟩
    , ⟨(some 7), .call n_strings_IndexFunc [(.t 5), (.t 6)], [], none, []⟩
    , ⟨(some 8), .bin .geq (.t 7) (.c (.int .i64 0)), [], none, []⟩
    , ⟨(some 4), .mov (.t 8), [], none, []⟩])
  .ret))

def r_address_each : List ResA := []
def c_address_each : AC := (.seq (some [1, 2]) (.reg none [
    ⟨(some 2), .box 8 (.t 0), [], none, []⟩])
  (.seq (some [1, 2]) (.reg none [
    ⟨(some 6), .mov (.t 1), [], none, []⟩
    , ⟨(some 7), .ld (some 8) (.t 2), [], none, []⟩
    , ⟨(some 8), .calld (.t 6) [(.t 7)], [], none, []⟩])
  (.seq (some [1, 10, 11, 12]) (.reg none [
    ⟨(some 9), .fad 7 (.t 2), [], none, []⟩
    , ⟨(some 10), .ld none (.t 9), [], none, []⟩
    , ⟨(some 11), .len (.t 10), [(.sl, (.t 10))], none, []⟩
    , ⟨(some 12), .mov (.c (.int .i64 0)), [], none, []⟩])
  (.block 0
    (.loop (some [1, 10, 11, 12])
      (.seq (some [1, 10, 11, 12, 13]) (.reg none [
        ⟨(some 13), .bin .lss (.t 12) (.t 11), [], none, []⟩])
      (.seq (some [1, 10, 11, 12]) (.cond (.t 13)
        .skip
        (.exit 0))
      (.seq (some [1, 10, 11, 12]) (.block 1
        (.seq (some [1, 5, 10, 11, 12]) (.reg none [
          ⟨(some 14), .ixs 8 (.t 10) (.t 12), [], none, []⟩
          , ⟨(some 15), .ld (some 8) (.t 14), [], none, []⟩
          , ⟨(some 5), .alloc [(.int .i64 0), (.int .i64 0), (.int .i64 0), (.int .i64 0), (.str []), (.sl [] .nil), (.sl [] .nil), (.sl [] .nil)], [], none, []⟩
          , ⟨none, .st 8 (.t 5) (.t 15), [], none, []⟩])
        (.reg none [
          ⟨(some 16), .ld (some 8) (.t 5), [], none, []⟩
          , ⟨(some 17), .mov (.t 1), [], none, []⟩
          , ⟨(some 18), .call n_address_each [(.t 16), (.t 17)], [], none, []⟩])))
      (.reg none [
        ⟨(some 19), .bin .add (.t 12) (.c (.int .i64 1)), [], none, []⟩
        , ⟨(some 12), .mov (.t 19), [], none, []⟩])))))))))

def r_address_found_1 : List ResA := []
def c_address_found_1 : AC := (.seq (some [1, 2, 3]) (.reg none [
    ⟨(some 3), .box 8 (.t 0), [], none, []⟩])
  (.seq (some [2, 3, 8]) (.reg (some [[], [], [1], [2], [0, 3]]) [
    ⟨(some 4), .ld (some 8) (.t 3), [], none, []⟩
    , ⟨(some 5), .ld none (.t 1), [], none, []⟩
    , ⟨(some 6), .ixs 2 (.t 5) (.c (.int .i64 0)), [], none, []⟩
    , ⟨(some 7), .ld (some 2) (.t 6), [], none, []⟩
    , ⟨(some 8), .call n_address_called [(.t 4), (.t 7)], [], none, []⟩])
  (.cond (.t 8)
    (.reg (some [[], [], [0], [], [0, 3, 0, 1, 2, 3], [4, 2, 0, 1, 2, 3, 4], [5, 1, 4, 0, 1, 2, 3, 4], [4, 4, 0, 1, 2, 3, 4]]) [
      ⟨(some 9), .ld none (.t 2), [], none, []⟩
      , ⟨(some 10), .ld (some 8) (.t 3), [], none, []⟩
      , ⟨(some 11), .len (.t 9), [(.sl, (.t 9))], none, []⟩
      , ⟨(some 12), .lit 8 [(.int .i64 0), (.int .i64 0), (.int .i64 0), (.int .i64 0), (.str []), (.sl [] .nil), (.sl [] .nil), (.sl [] .nil)] 1 [(0, (.c (.agg [(.int .i64 0), (.int .i64 0), (.int .i64 0), (.int .i64 0), (.str []), (.sl [] .nil), (.sl [] .nil), (.sl [] .nil)])))], [], none, []⟩
      , ⟨(some 13), .appB 8 120 (.t 9) (.t 12), [], none, []⟩
      , ⟨(some 14), .ixs 8 (.t 13) (.t 11), [], none, []⟩
      , ⟨none, .st 8 (.t 14) (.t 10), [], none, [.same 14 13]⟩
      , ⟨none, .st 1 (.t 2) (.t 13), [], none, [.apart 2 13]⟩])
    .skip)))

def r_address_called : List ResA := [.t 4]
def c_address_called : AC := (.seq (some [2, 3]) (.reg none [
    ⟨(some 2), .box 8 (.t 0), [], none, []⟩
    , ⟨(some 3), .box 2 (.t 1), [], none, []⟩
    , ⟨(some 4), .mov (.c (.bool false)), [], none, []⟩])
  (.seq (some [4]) (.reg none [
    ⟨(some 5), .fad 3 (.t 2), [], none, []⟩
    , ⟨(some 6), .ld none (.t 5), [], none, []⟩
    , ⟨(some 7), .fad 0 (.t 3), [], none, []⟩
    , ⟨(some 8), .ld none (.t 7), [], none, []⟩
    , ⟨(some 9), .bin .eql (.t 6) (.t 8), [], none, []⟩
    , ⟨(some 10), .mov (.t 9), [], none, []⟩
    , ⟨(some 11), .fad 4 (.t 2), [], some (10, true), []⟩
    , ⟨(some 12), .ld none (.t 11), [], some (10, true), []⟩
    , ⟨(some 13), .fad 1 (.t 3), [], some (10, true), []⟩
    , ⟨(some 14), .ld none (.t 13), [], some (10, true), []⟩
    , ⟨(some 15), .bin .eql (.t 12) (.t 14), [], some (10, true), []⟩
    , ⟨(some 16), .pick (.t 10) (.t 15) (.c (.bool false)), [], none, []⟩
    , ⟨(some 4), .mov (.t 16), [], none, []⟩])
  .ret))

def r_slices_order2Ordered_int_ : List ResA := [.t 8, .t 9]
def c_slices_order2Ordered_int_ : AC := (.seq (some [0, 1, 2, 3]) (.reg none [
    ⟨(some 8), .mov (.c (.int .i64 0)), [], none, []⟩
    , ⟨(some 9), .mov (.c (.int .i64 0)), [], none, []⟩])
  (.seq (some [1, 2]) (.seq (some [1, 2, 3, 18]) (.reg (some [[], [], [0, 1], [2], [], [], [4, 5], [6], [3, 7]]) [
    ⟨(some 10), .mov (.t 0), [], none, []⟩
    , ⟨(some 11), .mov (.t 2), [], none, []⟩
    , ⟨(some 12), .ixs 1 (.t 10) (.t 11), [], none, []⟩
    , ⟨(some 13), .ld none (.t 12), [], none, []⟩
    , ⟨(some 14), .mov (.t 0), [], none, []⟩
    , ⟨(some 15), .mov (.t 1), [], none, []⟩
    , ⟨(some 16), .ixs 1 (.t 14) (.t 15), [], none, []⟩
    , ⟨(some 17), .ld none (.t 16), [], none, []⟩
    , ⟨(some 18), .call n_cmp_Less_int_ [(.t 13), (.t 17)], [], none, []⟩])
  (.cond (.t 18)
    (.seq (some [1, 2]) (.reg none [
      ⟨(some 19), .mov (.t 3), [], none, []⟩
      , ⟨(some 20), .nck (.t 19), [], none, []⟩
      , ⟨(some 21), .ld none (.t 20), [], none, []⟩
      , ⟨(some 22), .bin .add (.t 21) (.c (.int .i64 1)), [], none, []⟩
      , ⟨(some 23), .nck (.t 19), [], none, []⟩
      , ⟨none, .st 1 (.t 23) (.t 22), [], none, []⟩])
    (.seq (some [8, 9]) (.reg none [
      ⟨(some 24), .mov (.t 2), [], none, []⟩
      , ⟨(some 25), .mov (.t 1), [], none, []⟩
      , ⟨(some 8), .mov (.t 24), [], none, []⟩
      , ⟨(some 9), .mov (.t 25), [], none, []⟩])
    .ret))
    .skip))
  (.seq (some [8, 9]) (.reg none [
    ⟨(some 26), .mov (.t 1), [], none, []⟩
    , ⟨(some 27), .mov (.t 2), [], none, []⟩
    , ⟨(some 8), .mov (.t 26), [], none, []⟩
    , ⟨(some 9), .mov (.t 27), [], none, []⟩])
  .ret)))

def r_pandectref04_May : List ResA := [.t 2]
def c_pandectref04_May : AC := (.seq (some [0]) (.reg none [
    ⟨(some 2), .mov (.c (.bool false)), [], none, []⟩])
  (.seq (some [0]) (.seq (some [0, 6]) (.reg none [
    ⟨(some 4), .mov (.t 0), [], none, []⟩
    , ⟨(some 5), .len (.t 4), [(.sl, (.t 4))], none, []⟩
    , ⟨(some 6), .bin .gtr (.t 5) (.c (.int .i64 256)), [], none, []⟩])
  (.cond (.t 6)
    (.seq (some [2]) (.reg none [
      ⟨(some 2), .mov (.c (.bool false)), [], none, []⟩])
    .ret)
    .skip))
  (.seq (some []) (.seq (some [0, 3]) (.reg none [
    ⟨(some 3), .mov (.c (.int .i64 0)), [], none, []⟩])
  (.block 0
    (.loop (some [0, 3])
      (.seq (some [0, 3]) (.seq (some [0, 3, 10]) (.reg none [
        ⟨(some 7), .mov (.t 3), [], none, []⟩
        , ⟨(some 8), .mov (.t 0), [], none, []⟩
        , ⟨(some 9), .len (.t 8), [(.sl, (.t 8))], none, []⟩
        , ⟨(some 10), .bin .lss (.t 7) (.t 9), [], none, []⟩])
      (.cond (.t 10)
        .skip
        (.exit 0)))
      (.seq (some [0, 3]) (.block 1
        (.seq (some [0, 3, 18]) (.reg none [
          ⟨(some 13), .mov (.t 0), [], none, []⟩
          , ⟨(some 14), .mov (.t 3), [], none, []⟩
          , ⟨(some 15), .ixs 1 (.t 13) (.t 14), [], none, []⟩
          , ⟨(some 16), .ld none (.t 15), [], none, []⟩
          , ⟨(some 17), .call n_pandectref04_Word [(.t 16)], [], none, []⟩
          , ⟨(some 18), .un .not (.t 17), [], none, []⟩])
        (.cond (.t 18)
          (.seq (some [2]) (.reg none [
            ⟨(some 2), .mov (.c (.bool false)), [], none, []⟩])
          .ret)
          .skip)))
      (.reg none [
        ⟨(some 11), .mov (.t 3), [], none, []⟩
        , ⟨(some 12), .bin .add (.t 11) (.c (.int .i64 1)), [], none, []⟩
        , ⟨(some 3), .mov (.t 12), [], none, []⟩]))))))
  (.seq (some [2]) (.reg none [
    ⟨(some 2), .mov (.c (.bool true)), [], none, []⟩])
  .ret))))

def r_pandectref06_Texts : List ResA := [.t 2]
def c_pandectref06_Texts : AC := (.seq (some [0]) (.reg none [
    ⟨(some 2), .mov (.c (.sl [] .nil)), [], none, []⟩])
  (.seq (some [0, 3]) (.reg none [
    ⟨(some 5), .lit 1 [(.str [])] 0 [], [], none, []⟩
    , ⟨(some 3), .mov (.t 5), [], none, []⟩])
  (.seq (some [3]) (.seq (some [0, 3, 4]) (.reg none [
    ⟨(some 4), .mov (.c (.int .i64 0)), [], none, []⟩])
  (.block 0
    (.loop (some [0, 3, 4])
      (.seq (some [0, 3, 4]) (.seq (some [0, 3, 4, 9]) (.reg none [
        ⟨(some 6), .mov (.t 4), [], none, []⟩
        , ⟨(some 7), .mov (.t 0), [], none, []⟩
        , ⟨(some 8), .len (.t 7), [(.sl, (.t 7))], none, []⟩
        , ⟨(some 9), .bin .lss (.t 6) (.t 8), [], none, []⟩])
      (.cond (.t 9)
        .skip
        (.exit 0)))
      (.seq (some [0, 3, 4]) (.block 1
        (.reg none [
          ⟨(some 12), .mov (.t 3), [], none, []⟩
          , ⟨(some 13), .mov (.t 0), [], none, []⟩
          , ⟨(some 14), .mov (.t 4), [], none, []⟩
          , ⟨(some 15), .ixs 4 (.t 13) (.t 14), [], none, []⟩
          , ⟨(some 16), .fad 0 (.t 15), [], none, []⟩
          , ⟨(some 17), .ld none (.t 16), [], none, []⟩
          , ⟨(some 18), .lit 1 [(.str [])] 1 [(0, (.t 17))], [], none, []⟩
          , ⟨(some 19), .app 1 16 (.t 12) (.t 18), [], none, []⟩
          , ⟨(some 3), .mov (.t 19), [], none, []⟩]))
      (.reg none [
        ⟨(some 10), .mov (.t 4), [], none, []⟩
        , ⟨(some 11), .bin .add (.t 10) (.c (.int .i64 1)), [], none, []⟩
        , ⟨(some 4), .mov (.t 11), [], none, []⟩]))))))
  (.seq (some [2]) (.reg none [
    ⟨(some 20), .mov (.t 3), [], none, []⟩
    , ⟨(some 2), .mov (.t 20), [], none, []⟩])
  .ret))))

def r_pandectref03_digits : List ResA := [.t 2]
def c_pandectref03_digits : AC := (.seq (some [0]) (.reg none [
    ⟨(some 2), .mov (.c (.int .i64 0)), [], none, []⟩])
  (.seq (some [0, 3]) (.reg none [
    ⟨(some 3), .mov (.c (.int .i64 0)), [], none, []⟩])
  (.seq (some [3]) (.block 0
    (.loop (some [0, 3])
      (.seq (some [0, 3]) (.seq (some [0, 3, 19]) (.reg none [
        ⟨(some 4), .mov (.t 3), [], none, []⟩
        , ⟨(some 5), .mov (.t 0), [], none, []⟩
        , ⟨(some 6), .len (.t 5), [(.st, (.t 5))], none, []⟩
        , ⟨(some 7), .bin .lss (.t 4) (.t 6), [], none, []⟩
        , ⟨(some 8), .mov (.t 7), [], none, []⟩
        , ⟨(some 9), .mov (.t 0), [], some (8, true), []⟩
        , ⟨(some 10), .mov (.t 3), [], some (8, true), []⟩
        , ⟨(some 11), .ixb (.t 9) (.t 10), [], some (8, true), []⟩
        , ⟨(some 12), .bin .geq (.t 11) (.c (.int .u8 48)), [], some (8, true), []⟩
        , ⟨(some 13), .pick (.t 8) (.t 12) (.c (.bool false)), [], none, []⟩
        , ⟨(some 14), .mov (.t 13), [], none, []⟩
        , ⟨(some 15), .mov (.t 0), [], some (14, true), []⟩
        , ⟨(some 16), .mov (.t 3), [], some (14, true), []⟩
        , ⟨(some 17), .ixb (.t 15) (.t 16), [], some (14, true), []⟩
        , ⟨(some 18), .bin .leq (.t 17) (.c (.int .u8 57)), [], some (14, true), []⟩
        , ⟨(some 19), .pick (.t 14) (.t 18) (.c (.bool false)), [], none, []⟩])
      (.cond (.t 19)
        .skip
        (.exit 0)))
      (.block 1
        (.reg none [
          ⟨(some 20), .mov (.t 3), [], none, []⟩
          , ⟨(some 21), .bin .add (.t 20) (.c (.int .i64 1)), [], none, []⟩
          , ⟨(some 3), .mov (.t 21), [], none, []⟩])))))
  (.seq (some [2]) (.reg none [
    ⟨(some 22), .mov (.t 3), [], none, []⟩
    , ⟨(some 2), .mov (.t 22), [], none, []⟩])
  .ret))))

def r_slices_ContainsFunc___string_string_ : List ResA := [.t 4]
def c_slices_ContainsFunc___string_string_ : AC := (.seq (some [0, 1]) (.reg none [
    ⟨(some 4), .mov (.c (.bool false)), [], none, []⟩])
  (.seq (some [4]) (.reg none [
    ⟨(some 5), .mov (.t 0), [], none, []⟩
    , ⟨(some 6), .mov (.t 1), [], none, []⟩
    , ⟨(some 7), .call n_slices_IndexFunc___string_string_ [(.t 5), (.t 6)], [], none, []⟩
    , ⟨(some 8), .bin .geq (.t 7) (.c (.int .i64 0)), [], none, []⟩
    , ⟨(some 4), .mov (.t 8), [], none, []⟩])
  .ret))

def r_wordseq_Valid_1 : List ResA := [.t 2]
def c_wordseq_Valid_1 : AC := (.seq (some [0]) (.reg none [
    ⟨(some 2), .mov (.c (.bool false)), [], none, []⟩])
  (.seq (some [2]) (.reg none [
    ⟨(some 3), .mov (.t 0), [], none, []⟩
    , ⟨(some 4), .call n_wordseq_word [(.t 3)], [], none, []⟩
    , ⟨(some 5), .un .not (.t 4), [], none, []⟩
    , ⟨(some 2), .mov (.t 5), [], none, []⟩])
  .ret))

def r_wordseq_word : List ResA := [.t 2]
def c_wordseq_word : AC := (.seq (some [0]) (.reg none [
    ⟨(some 2), .mov (.c (.bool false)), [], none, []⟩])
  (.seq (some [0, 3]) (.reg none [
    ⟨(some 3), .mov (.c (.fn n_wordseq_word_1 [])), [], none, []⟩])
  (.seq (some [2]) (.reg none [
    ⟨(some 4), .mov (.t 0), [], none, []⟩
    , ⟨(some 5), .bin .neq (.t 4) (.c (.str [])), [], none, []⟩
    , ⟨(some 6), .mov (.t 5), [], none, []⟩
    , ⟨(some 7), .mov (.t 0), [], some (6, true), []⟩
    , ⟨(some 8), .len (.t 7), [(.st, (.t 7))], some (6, true), []⟩
    , ⟨(some 9), .bin .leq (.t 8) (.c (.int .i64 24)), [], some (6, true), []⟩
    , ⟨(some 10), .pick (.t 6) (.t 9) (.c (.bool false)), [], none, []⟩
    , ⟨(some 11), .mov (.t 10), [], none, []⟩
    , ⟨(some 12), .mov (.t 0), [], some (11, true), []⟩
    , ⟨(some 13), .s2b (.t 12), [(.st, (.t 12))], some (11, true), []⟩
    , ⟨(some 14), .mov (.t 3), [], some (11, true), []⟩
    , ⟨(some 15), .call n_slices_ContainsFunc___byte_byte_ [(.t 13), (.t 14)], [], some (11, true), []⟩
    , ⟨(some 16), .un .not (.t 15), [], some (11, true), []⟩
    , ⟨(some 17), .pick (.t 11) (.t 16) (.c (.bool false)), [], none, []⟩
    , ⟨(some 2), .mov (.t 17), [], none, []⟩])
  .ret)))

def r_strings_IndexFunc : List ResA := [.t 4]
def c_strings_IndexFunc : AC := (.seq (some [0, 1]) (.reg none [
    ⟨(some 4), .mov (.c (.int .i64 0)), [], none, []⟩])
  (.seq (some [4]) (.reg none [
    ⟨(some 5), .mov (.t 0), [], none, []⟩
    , ⟨(some 6), .mov (.t 1), [], none, []⟩
    , ⟨(some 7), .call n_strings_indexFunc [(.t 5), (.t 6), (.c (.bool true))], [], none, []⟩
    , ⟨(some 4), .mov (.t 7), [], none, []⟩])
  .ret))

def r_label_parted_1 : List ResA := [.t 2]
def c_label_parted_1 : AC := (.seq (some [0]) (.reg none [
    ⟨(some 2), .mov (.c (.bool false)), [], none, []⟩])
  (.seq (some [2]) (.reg none [
    ⟨(some 3), .mov (.t 0), [], none, []⟩
    , ⟨(some 4), .bin .lss (.t 3) (.c (.int .i32 48)), [], none, []⟩
    , ⟨(some 5), .mov (.t 4), [], none, []⟩
    , ⟨(some 6), .mov (.t 0), [], some (5, false), []⟩
    , ⟨(some 7), .bin .gtr (.t 6) (.c (.int .i32 57)), [], some (5, false), []⟩
    , ⟨(some 8), .pick (.t 5) (.c (.bool true)) (.t 7), [], none, []⟩
    , ⟨(some 2), .mov (.t 8), [], none, []⟩])
  .ret))

def r_pandectref04_Word : List ResA := [.t 2]
def c_pandectref04_Word : AC := (.seq (some [0]) (.reg none [
    ⟨(some 2), .mov (.c (.bool false)), [], none, []⟩])
  (.seq (some [0]) (.seq (some [0, 11]) (.reg none [
    ⟨(some 4), .mov (.t 0), [], none, []⟩
    , ⟨(some 5), .len (.t 4), [(.st, (.t 4))], none, []⟩
    , ⟨(some 6), .bin .lss (.t 5) (.c (.int .i64 1)), [], none, []⟩
    , ⟨(some 7), .mov (.t 6), [], none, []⟩
    , ⟨(some 8), .mov (.t 0), [], some (7, false), []⟩
    , ⟨(some 9), .len (.t 8), [(.st, (.t 8))], some (7, false), []⟩
    , ⟨(some 10), .bin .gtr (.t 9) (.c (.int .i64 24)), [], some (7, false), []⟩
    , ⟨(some 11), .pick (.t 7) (.c (.bool true)) (.t 10), [], none, []⟩])
  (.cond (.t 11)
    (.seq (some [2]) (.reg none [
      ⟨(some 2), .mov (.c (.bool false)), [], none, []⟩])
    .ret)
    .skip))
  (.seq (some []) (.seq (some [0, 3]) (.reg none [
    ⟨(some 3), .mov (.c (.int .i64 0)), [], none, []⟩])
  (.block 0
    (.loop (some [0, 3])
      (.seq (some [0, 3]) (.seq (some [0, 3, 15]) (.reg none [
        ⟨(some 12), .mov (.t 3), [], none, []⟩
        , ⟨(some 13), .mov (.t 0), [], none, []⟩
        , ⟨(some 14), .len (.t 13), [(.st, (.t 13))], none, []⟩
        , ⟨(some 15), .bin .lss (.t 12) (.t 14), [], none, []⟩])
      (.cond (.t 15)
        .skip
        (.exit 0)))
      (.seq (some [0, 3]) (.block 1
        (.seq (some [0, 3, 27]) (.reg none [
          ⟨(some 18), .mov (.t 0), [], none, []⟩
          , ⟨(some 19), .mov (.t 3), [], none, []⟩
          , ⟨(some 20), .ixb (.t 18) (.t 19), [], none, []⟩
          , ⟨(some 21), .bin .lss (.t 20) (.c (.int .u8 33)), [], none, []⟩
          , ⟨(some 22), .mov (.t 21), [], none, []⟩
          , ⟨(some 23), .mov (.t 0), [], some (22, false), []⟩
          , ⟨(some 24), .mov (.t 3), [], some (22, false), []⟩
          , ⟨(some 25), .ixb (.t 23) (.t 24), [], some (22, false), []⟩
          , ⟨(some 26), .bin .gtr (.t 25) (.c (.int .u8 126)), [], some (22, false), []⟩
          , ⟨(some 27), .pick (.t 22) (.c (.bool true)) (.t 26), [], none, []⟩])
        (.cond (.t 27)
          (.seq (some [2]) (.reg none [
            ⟨(some 2), .mov (.c (.bool false)), [], none, []⟩])
          .ret)
          .skip)))
      (.reg none [
        ⟨(some 16), .mov (.t 3), [], none, []⟩
        , ⟨(some 17), .bin .add (.t 16) (.c (.int .i64 1)), [], none, []⟩
        , ⟨(some 3), .mov (.t 17), [], none, []⟩]))))))
  (.seq (some [2]) (.reg none [
    ⟨(some 2), .mov (.c (.bool true)), [], none, []⟩])
  .ret))))

def r_slices_IndexFunc___string_string_ : List ResA := [.t 4]
def c_slices_IndexFunc___string_string_ : AC := (.seq (some [0, 1]) (.reg none [
    ⟨(some 4), .mov (.c (.int .i64 0)), [], none, []⟩])
  (.seq (some []) (.seq (some [0, 1, 7, 8]) (.reg none [
    ⟨(some 6), .mov (.t 0), [], none, []⟩
    , ⟨(some 7), .len (.t 6), [(.sl, (.t 6))], none, []⟩
    , ⟨(some 8), .mov (.c (.int .i64 0)), [], none, []⟩])
  (.block 0
    (.loop (some [0, 1, 7, 8])
      (.seq (some [0, 1, 7, 8, 9]) (.reg none [
        ⟨(some 9), .bin .lss (.t 8) (.t 7), [], none, []⟩])
      (.seq (some [0, 1, 7, 8]) (.cond (.t 9)
        .skip
        (.exit 0))
      (.seq (some [0, 1, 7, 8]) (.block 1
        (.seq (some [0, 1, 5, 7, 8]) (.reg none [
          ⟨(some 10), .mov (.t 8), [], none, []⟩
          , ⟨(some 5), .mov (.t 10), [], none, []⟩])
        (.seq (some [0, 1, 5, 7, 8, 16]) (.reg none [
          ⟨(some 11), .mov (.t 1), [], none, []⟩
          , ⟨(some 12), .mov (.t 0), [], none, []⟩
          , ⟨(some 13), .mov (.t 5), [], none, []⟩
          , ⟨(some 14), .ixs 1 (.t 12) (.t 13), [], none, []⟩
          , ⟨(some 15), .ld none (.t 14), [], none, []⟩
          , ⟨(some 16), .calld (.t 11) [(.t 15)], [], none, []⟩])
        (.cond (.t 16)
          (.seq (some [4]) (.reg none [
            ⟨(some 17), .mov (.t 5), [], none, []⟩
            , ⟨(some 4), .mov (.t 17), [], none, []⟩])
          .ret)
          .skip))))
      (.reg none [
        ⟨(some 18), .bin .add (.t 8) (.c (.int .i64 1)), [], none, []⟩
        , ⟨(some 8), .mov (.t 18), [], none, []⟩])))))))
  (.seq (some [4]) (.reg none [
    ⟨(some 4), .mov (.c (.int .i64 (-1))), [], none, []⟩])
  .ret)))

def r_wordseq_word_1 : List ResA := [.t 2]
def c_wordseq_word_1 : AC := (.seq (some [0]) (.reg none [
    ⟨(some 2), .mov (.c (.bool false)), [], none, []⟩])
  (.seq (some [2]) (.reg none [
    ⟨(some 3), .mov (.t 0), [], none, []⟩
    , ⟨(some 4), .bin .lss (.t 3) (.c (.int .u8 33)), [], none, []⟩
    , ⟨(some 5), .mov (.t 4), [], none, []⟩
    , ⟨(some 6), .mov (.t 0), [], some (5, false), []⟩
    , ⟨(some 7), .bin .gtr (.t 6) (.c (.int .u8 126)), [], some (5, false), []⟩
    , ⟨(some 8), .pick (.t 5) (.c (.bool true)) (.t 7), [], none, []⟩
    , ⟨(some 2), .mov (.t 8), [], none, []⟩])
  .ret))

def r_slices_ContainsFunc___byte_byte_ : List ResA := [.t 4]
def c_slices_ContainsFunc___byte_byte_ : AC := (.seq (some [0, 1]) (.reg none [
    ⟨(some 4), .mov (.c (.bool false)), [], none, []⟩])
  (.seq (some [4]) (.reg none [
    ⟨(some 5), .mov (.t 0), [], none, []⟩
    , ⟨(some 6), .mov (.t 1), [], none, []⟩
    , ⟨(some 7), .call n_slices_IndexFunc___byte_byte_ [(.t 5), (.t 6)], [], none, []⟩
    , ⟨(some 8), .bin .geq (.t 7) (.c (.int .i64 0)), [], none, []⟩
    , ⟨(some 4), .mov (.t 8), [], none, []⟩])
  .ret))

def r_strings_indexFunc : List ResA := [.t 6]
def c_strings_indexFunc : AC := (.seq (some [0, 1, 2]) (.reg none [
    ⟨(some 6), .mov (.c (.int .i64 0)), [], none, []⟩])
  (.seq (some []) (.seq (some [1, 2, 10]) (.reg none [
    ⟨(some 9), .mov (.t 0), [], none, []⟩
    , ⟨(some 10), .rng (.t 9), [], none, []⟩])
  (.block 0
    (.loop (some [1, 2, 10])
      (.seq (some [1, 2, 10, 11, 12]) (.reg none [
        ⟨(some 11), .nxt (.t 10), [], none, []⟩
        , ⟨(some 12), .ext (.t 11) 0, [], none, []⟩])
      (.seq (some [1, 2, 10, 11]) (.cond (.t 12)
        .skip
        (.exit 0))
      (.block 1
        (.seq (some [1, 2, 7, 8, 10]) (.reg none [
          ⟨(some 13), .ext (.t 11) 1, [], none, []⟩
          , ⟨(some 14), .ext (.t 11) 2, [], none, []⟩
          , ⟨(some 7), .mov (.t 13), [], none, []⟩
          , ⟨(some 8), .mov (.t 14), [], none, []⟩])
        (.seq (some [1, 2, 7, 10, 19]) (.reg none [
          ⟨(some 15), .mov (.t 1), [], none, []⟩
          , ⟨(some 16), .mov (.t 8), [], none, []⟩
          , ⟨(some 17), .calld (.t 15) [(.t 16)], [], none, []⟩
          , ⟨(some 18), .mov (.t 2), [], none, []⟩
          , ⟨(some 19), .binB false (.t 17) (.t 18), [], none, []⟩])
        (.cond (.t 19)
          (.seq (some [6]) (.reg none [
            ⟨(some 20), .mov (.t 7), [], none, []⟩
            , ⟨(some 6), .mov (.t 20), [], none, []⟩])
          .ret)
          .skip)))))))))
  (.seq (some [6]) (.reg none [
    ⟨(some 6), .mov (.c (.int .i64 (-1))), [], none, []⟩])
  .ret)))

def r_slices_IndexFunc___byte_byte_ : List ResA := [.t 4]
def c_slices_IndexFunc___byte_byte_ : AC := (.seq (some [0, 1]) (.reg none [
    ⟨(some 4), .mov (.c (.int .i64 0)), [], none, []⟩])
  (.seq (some []) (.seq (some [0, 1, 7, 8]) (.reg none [
    ⟨(some 6), .mov (.t 0), [], none, []⟩
    , ⟨(some 7), .len (.t 6), [(.sl, (.t 6))], none, []⟩
    , ⟨(some 8), .mov (.c (.int .i64 0)), [], none, []⟩])
  (.block 0
    (.loop (some [0, 1, 7, 8])
      (.seq (some [0, 1, 7, 8, 9]) (.reg none [
        ⟨(some 9), .bin .lss (.t 8) (.t 7), [], none, []⟩])
      (.seq (some [0, 1, 7, 8]) (.cond (.t 9)
        .skip
        (.exit 0))
      (.seq (some [0, 1, 7, 8]) (.block 1
        (.seq (some [0, 1, 5, 7, 8]) (.reg none [
          ⟨(some 10), .mov (.t 8), [], none, []⟩
          , ⟨(some 5), .mov (.t 10), [], none, []⟩])
        (.seq (some [0, 1, 5, 7, 8, 16]) (.reg none [
          ⟨(some 11), .mov (.t 1), [], none, []⟩
          , ⟨(some 12), .mov (.t 0), [], none, []⟩
          , ⟨(some 13), .mov (.t 5), [], none, []⟩
          , ⟨(some 14), .ixs 1 (.t 12) (.t 13), [], none, []⟩
          , ⟨(some 15), .ld none (.t 14), [], none, []⟩
          , ⟨(some 16), .calld (.t 11) [(.t 15)], [], none, []⟩])
        (.cond (.t 16)
          (.seq (some [4]) (.reg none [
            ⟨(some 17), .mov (.t 5), [], none, []⟩
            , ⟨(some 4), .mov (.t 17), [], none, []⟩])
          .ret)
          .skip))))
      (.reg none [
        ⟨(some 18), .bin .add (.t 8) (.c (.int .i64 1)), [], none, []⟩
        , ⟨(some 8), .mov (.t 18), [], none, []⟩])))))))
  (.seq (some [4]) (.reg none [
    ⟨(some 4), .mov (.c (.int .i64 (-1))), [], none, []⟩])
  .ret)))
end Go.Am
