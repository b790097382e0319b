/- Part of the proof. -/
import Derived.Test.YtfhilbdpejljdaaGreatDoorC3
import Derived.KernelRfl
import Derived.Test.YtfhilbdpejljdaaGreatDoorD1
set_option linter.all false
namespace Go.Am
open Go
theorem orders24 (xs : List (List Av)) (t : Tk) : Ret Fk 16 [.int .i64 24, .sl xs t, .sl (givenA 24) .any] (.sl [] .nil) := runsTo_sound (Memo.ok_nil _) (n := 300) (by kernel_rfl)
theorem orders25 (xs : List (List Av)) (t : Tk) : Ret Fk 16 [.int .i64 25, .sl xs t, .sl (givenA 25) .any] (.sl [] .nil) := runsTo_sound (Memo.ok_nil _) (n := 300) (by kernel_rfl)
theorem orders26 (xs : List (List Av)) (t : Tk) : Ret Fk 16 [.int .i64 26, .sl xs t, .sl (givenA 26) .any] (.sl [] .nil) := runsTo_sound (Memo.ok_nil _) (n := 300) (by kernel_rfl)
theorem orders27 (xs : List (List Av)) (t : Tk) : Ret Fk 16 [.int .i64 27, .sl xs t, .sl (givenA 27) .any] (.sl [] .nil) := runsTo_sound (Memo.ok_nil _) (n := 300) (by kernel_rfl)
theorem orders28 (xs : List (List Av)) (t : Tk) : Ret Fk 16 [.int .i64 28, .sl xs t, .sl (givenA 28) .any] (.sl [] .nil) := runsTo_sound (Memo.ok_nil _) (n := 300) (by kernel_rfl)
theorem orders29 (xs : List (List Av)) (t : Tk) : Ret Fk 16 [.int .i64 29, .sl xs t, .sl (givenA 29) .any] (.sl [] .nil) := runsTo_sound (Memo.ok_nil _) (n := 300) (by kernel_rfl)
theorem orders30 (xs : List (List Av)) (t : Tk) : Ret Fk 16 [.int .i64 30, .sl xs t, .sl (givenA 30) .any] (.sl [] .nil) := runsTo_sound (Memo.ok_nil _) (n := 300) (by kernel_rfl)
theorem orders31 (xs : List (List Av)) (t : Tk) : Ret Fk 16 [.int .i64 31, .sl xs t, .sl (givenA 31) .any] (.sl [] .nil) := runsTo_sound (Memo.ok_nil _) (n := 300) (by kernel_rfl)
theorem orders32 (xs : List (List Av)) (t : Tk) : Ret Fk 16 [.int .i64 32, .sl xs t, .sl (givenA 32) .any] (.sl [] .nil) := runsTo_sound (Memo.ok_nil _) (n := 300) (by kernel_rfl)
end Go.Am
