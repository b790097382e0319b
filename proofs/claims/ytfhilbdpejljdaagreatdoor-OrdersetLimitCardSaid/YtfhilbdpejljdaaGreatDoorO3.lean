/- Part of the proof. -/
import Derived.Test.YtfhilbdpejljdaaGreatDoorC3
import Derived.KernelRfl
import Derived.Test.YtfhilbdpejljdaaGreatDoorD1
set_option linter.all false
namespace Go.Am
open Go
theorem orders33 (xs : List (List Av)) (t : Tk) : Ret Fk 16 [.int .i64 33, .sl xs t, .sl (givenA 33) .any] (.sl [] .nil) := runsTo_sound (Memo.ok_nil _) (n := 300) (by kernel_rfl)
theorem orders34 (xs : List (List Av)) (t : Tk) : Ret Fk 16 [.int .i64 34, .sl xs t, .sl (givenA 34) .any] (.sl [] .nil) := runsTo_sound (Memo.ok_nil _) (n := 300) (by kernel_rfl)
theorem orders35 (xs : List (List Av)) (t : Tk) : Ret Fk 16 [.int .i64 35, .sl xs t, .sl (givenA 35) .any] (.sl [] .nil) := runsTo_sound (Memo.ok_nil _) (n := 300) (by kernel_rfl)
theorem orders36 (xs : List (List Av)) (t : Tk) : Ret Fk 16 [.int .i64 36, .sl xs t, .sl (givenA 36) .any] (.sl [] .nil) := runsTo_sound (Memo.ok_nil _) (n := 300) (by kernel_rfl)
theorem orders37 (xs : List (List Av)) (t : Tk) : Ret Fk 16 [.int .i64 37, .sl xs t, .sl (givenA 37) .any] (.sl [] .nil) := runsTo_sound (Memo.ok_nil _) (n := 300) (by kernel_rfl)
theorem orders38 (xs : List (List Av)) (t : Tk) : Ret Fk 16 [.int .i64 38, .sl xs t, .sl (givenA 38) .any] (.sl [] .nil) := runsTo_sound (Memo.ok_nil _) (n := 300) (by kernel_rfl)
theorem orders39 (xs : List (List Av)) (t : Tk) : Ret Fk 16 [.int .i64 39, .sl xs t, .sl (givenA 39) .any] (.sl [] .nil) := runsTo_sound (Memo.ok_nil _) (n := 300) (by kernel_rfl)
theorem orders40 (xs : List (List Av)) (t : Tk) : Ret Fk 16 [.int .i64 40, .sl xs t, .sl (givenA 40) .any] (.sl [] .nil) := runsTo_sound (Memo.ok_nil _) (n := 300) (by kernel_rfl)
end Go.Am
