/- Part of the proof. -/
import Derived.Test.YtfhilbdpejljdaaGreatDoorC3
import Derived.KernelRfl
import Derived.Test.YtfhilbdpejljdaaGreatDoorD1
set_option linter.all false
namespace Go.Am
open Go
theorem orders6 (xs : List (List Av)) (t : Tk) : Ret Fk 16 [.int .i64 6, .sl xs t, .sl (givenA 6) .any] (.sl [] .nil) := runsTo_sound (Memo.ok_nil _) (n := 300) (by kernel_rfl)
theorem orders7 (xs : List (List Av)) (t : Tk) : Ret Fk 16 [.int .i64 7, .sl xs t, .sl (givenA 7) .any] (.sl [] .nil) := runsTo_sound (Memo.ok_nil _) (n := 300) (by kernel_rfl)
theorem orders8 (xs : List (List Av)) (t : Tk) : Ret Fk 16 [.int .i64 8, .sl xs t, .sl (givenA 8) .any] (.sl [] .nil) := runsTo_sound (Memo.ok_nil _) (n := 300) (by kernel_rfl)
theorem orders9 (xs : List (List Av)) (t : Tk) : Ret Fk 16 [.int .i64 9, .sl xs t, .sl (givenA 9) .any] (.sl [] .nil) := runsTo_sound (Memo.ok_nil _) (n := 300) (by kernel_rfl)
theorem orders10 (xs : List (List Av)) (t : Tk) : Ret Fk 16 [.int .i64 10, .sl xs t, .sl (givenA 10) .any] (.sl [] .nil) := runsTo_sound (Memo.ok_nil _) (n := 300) (by kernel_rfl)
theorem orders11 (xs : List (List Av)) (t : Tk) : Ret Fk 16 [.int .i64 11, .sl xs t, .sl (givenA 11) .any] (.sl [] .nil) := runsTo_sound (Memo.ok_nil _) (n := 300) (by kernel_rfl)
theorem orders12 (xs : List (List Av)) (t : Tk) : Ret Fk 16 [.int .i64 12, .sl xs t, .sl (givenA 12) .any] (.sl [] .nil) := runsTo_sound (Memo.ok_nil _) (n := 300) (by kernel_rfl)
theorem orders13 (xs : List (List Av)) (t : Tk) : Ret Fk 16 [.int .i64 13, .sl xs t, .sl (givenA 13) .any] (.sl [] .nil) := runsTo_sound (Memo.ok_nil _) (n := 300) (by kernel_rfl)
theorem orders14 (xs : List (List Av)) (t : Tk) : Ret Fk 16 [.int .i64 14, .sl xs t, .sl (givenA 14) .any] (.sl [] .nil) := runsTo_sound (Memo.ok_nil _) (n := 300) (by kernel_rfl)
theorem orders15 (xs : List (List Av)) (t : Tk) : Ret Fk 16 [.int .i64 15, .sl xs t, .sl (givenA 15) .any] (.sl [] .nil) := runsTo_sound (Memo.ok_nil _) (n := 300) (by kernel_rfl)
theorem orders16 (xs : List (List Av)) (t : Tk) : Ret Fk 16 [.int .i64 16, .sl xs t, .sl (givenA 16) .any] (.sl [] .nil) := runsTo_sound (Memo.ok_nil _) (n := 300) (by kernel_rfl)
theorem orders17 (xs : List (List Av)) (t : Tk) : Ret Fk 16 [.int .i64 17, .sl xs t, .sl (givenA 17) .any] (.sl [] .nil) := runsTo_sound (Memo.ok_nil _) (n := 300) (by kernel_rfl)
theorem orders18 (xs : List (List Av)) (t : Tk) : Ret Fk 16 [.int .i64 18, .sl xs t, .sl (givenA 18) .any] (.sl [] .nil) := runsTo_sound (Memo.ok_nil _) (n := 300) (by kernel_rfl)
theorem orders19 (xs : List (List Av)) (t : Tk) : Ret Fk 16 [.int .i64 19, .sl xs t, .sl (givenA 19) .any] (.sl [] .nil) := runsTo_sound (Memo.ok_nil _) (n := 300) (by kernel_rfl)
theorem orders20 (xs : List (List Av)) (t : Tk) : Ret Fk 16 [.int .i64 20, .sl xs t, .sl (givenA 20) .any] (.sl [] .nil) := runsTo_sound (Memo.ok_nil _) (n := 300) (by kernel_rfl)
theorem orders21 (xs : List (List Av)) (t : Tk) : Ret Fk 16 [.int .i64 21, .sl xs t, .sl (givenA 21) .any] (.sl [] .nil) := runsTo_sound (Memo.ok_nil _) (n := 300) (by kernel_rfl)
theorem orders22 (xs : List (List Av)) (t : Tk) : Ret Fk 16 [.int .i64 22, .sl xs t, .sl (givenA 22) .any] (.sl [] .nil) := runsTo_sound (Memo.ok_nil _) (n := 300) (by kernel_rfl)
theorem orders23 (xs : List (List Av)) (t : Tk) : Ret Fk 16 [.int .i64 23, .sl xs t, .sl (givenA 23) .any] (.sl [] .nil) := runsTo_sound (Memo.ok_nil _) (n := 300) (by kernel_rfl)
end Go.Am
