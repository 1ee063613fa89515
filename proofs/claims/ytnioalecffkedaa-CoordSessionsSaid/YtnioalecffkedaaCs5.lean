/- The equations of the walk of CoordSessions: the cells of the table, and the end of a round. -/
import Derived.Test.YtnioalecffkedaaCs4
open Go Go.AM
namespace Go.Proofs.CsE
set_option maxRecDepth 100000
set_option maxHeartbeats 0
open Cs
def upd (h : Nat → Int) (j : Nat) (r : Int) : Nat → Int := fun k => bif Nat.beq k j then r else h k

theorem f3_cell (N n m q p : Nat) (g h : Nat → Int) (s i w v sd r : Int) (os od : List O3) : ∀ x y : Nat, x < 4 → y < 4 →
    LP envL N 0 3 snK 4 [m, q] (p + 1) (S2 n g s os h i w v sd od r x y) =
      bif decide (0 < r) then bif decide (h (x * 4 + y) = r) then bif !decide ((x : Int) = w) then some (.bool false)
        else bif !decide ((y : Int) = v) then some (.bool false) else LP envL N 0 3 snK 4 [m, q] p (S2 n g s os h i w v sd od r x (y + 1))
        else LP envL N 0 3 snK 4 [m, q] p (S2 n g s os h i w v sd od r x (y + 1))
      else LP envL N 0 3 snK 4 [m, q] p (S2 n g s os h i w v sd od r x (y + 1))
  | 0, 0, _, _ => by kernel_rfl
  | 0, 1, _, _ => by kernel_rfl
  | 0, 2, _, _ => by kernel_rfl
  | 0, 3, _, _ => by kernel_rfl
  | 1, 0, _, _ => by kernel_rfl
  | 1, 1, _, _ => by kernel_rfl
  | 1, 2, _, _ => by kernel_rfl
  | 1, 3, _, _ => by kernel_rfl
  | 2, 0, _, _ => by kernel_rfl
  | 2, 1, _, _ => by kernel_rfl
  | 2, 2, _, _ => by kernel_rfl
  | 2, 3, _, _ => by kernel_rfl
  | 3, 0, _, _ => by kernel_rfl
  | 3, 1, _, _ => by kernel_rfl
  | 3, 2, _, _ => by kernel_rfl
  | 3, 3, _, _ => by kernel_rfl

theorem f3_end (N n m q : Nat) (g h : Nat → Int) (s i sd r : Int) (os od : List O3) : ∀ w v : Nat, w < 4 → v < 4 →
    LP envL N 0 3 snK 2 [m] (q + 1) (S1 n g s os h i w v sd od r 4) = LP envL N 0 3 snK 0 [] m (S0 n g sd od (upd h (w * 4 + v) r) (IntKind.i64.wrap (i + 1)))
  | 0, 0, _, _ => by kernel_rfl
  | 0, 1, _, _ => by kernel_rfl
  | 0, 2, _, _ => by kernel_rfl
  | 0, 3, _, _ => by kernel_rfl
  | 1, 0, _, _ => by kernel_rfl
  | 1, 1, _, _ => by kernel_rfl
  | 1, 2, _, _ => by kernel_rfl
  | 1, 3, _, _ => by kernel_rfl
  | 2, 0, _, _ => by kernel_rfl
  | 2, 1, _, _ => by kernel_rfl
  | 2, 2, _, _ => by kernel_rfl
  | 2, 3, _, _ => by kernel_rfl
  | 3, 0, _, _ => by kernel_rfl
  | 3, 1, _, _ => by kernel_rfl
  | 3, 2, _, _ => by kernel_rfl
  | 3, 3, _, _ => by kernel_rfl
end Go.Proofs.CsE
