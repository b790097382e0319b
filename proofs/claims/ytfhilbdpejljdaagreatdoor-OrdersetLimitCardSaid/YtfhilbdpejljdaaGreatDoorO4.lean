/- Orders of a list of more than five. -/
import Derived.Test.YtfhilbdpejljdaaGreatDoorO1
import Derived.Test.YtfhilbdpejljdaaGreatDoorO2
import Derived.Test.YtfhilbdpejljdaaGreatDoorO3
import Derived.Test.YtfhilbdpejljdaaGreatDoorF5
set_option linter.all false
namespace Go.Am
open Go
theorem orders_many (n : Int) (h1 : 6 ≤ n) (h2 : n ≤ 40) (xs : List (List Av)) (t : Tk) : Ret Fk 16 [.int .i64 n, .sl xs t, .sl (givenA n.toNat) .any] (.sl [] .nil) := by
  have h : n = 6 ∨ n = 7 ∨ n = 8 ∨ n = 9 ∨ n = 10 ∨ n = 11 ∨ n = 12 ∨ n = 13 ∨ n = 14 ∨ n = 15 ∨ n = 16 ∨ n = 17 ∨ n = 18 ∨ n = 19 ∨ n = 20 ∨ n = 21 ∨ n = 22 ∨ n = 23 ∨ n = 24 ∨ n = 25 ∨ n = 26 ∨ n = 27 ∨ n = 28 ∨ n = 29 ∨ n = 30 ∨ n = 31 ∨ n = 32 ∨ n = 33 ∨ n = 34 ∨ n = 35 ∨ n = 36 ∨ n = 37 ∨ n = 38 ∨ n = 39 ∨ n = 40 := by omega
  rcases h with rfl | rfl | rfl | rfl | rfl | rfl | rfl | rfl | rfl | rfl | rfl | rfl | rfl | rfl | rfl | rfl | rfl | rfl | rfl | rfl | rfl | rfl | rfl | rfl | rfl | rfl | rfl | rfl | rfl | rfl | rfl | rfl | rfl | rfl | rfl
  · exact orders6 xs t
  · exact orders7 xs t
  · exact orders8 xs t
  · exact orders9 xs t
  · exact orders10 xs t
  · exact orders11 xs t
  · exact orders12 xs t
  · exact orders13 xs t
  · exact orders14 xs t
  · exact orders15 xs t
  · exact orders16 xs t
  · exact orders17 xs t
  · exact orders18 xs t
  · exact orders19 xs t
  · exact orders20 xs t
  · exact orders21 xs t
  · exact orders22 xs t
  · exact orders23 xs t
  · exact orders24 xs t
  · exact orders25 xs t
  · exact orders26 xs t
  · exact orders27 xs t
  · exact orders28 xs t
  · exact orders29 xs t
  · exact orders30 xs t
  · exact orders31 xs t
  · exact orders32 xs t
  · exact orders33 xs t
  · exact orders34 xs t
  · exact orders35 xs t
  · exact orders36 xs t
  · exact orders37 xs t
  · exact orders38 xs t
  · exact orders39 xs t
  · exact orders40 xs t
end Go.Am
