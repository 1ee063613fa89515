/- The equations of the walk of CoordSessions: its beginning, its outer loop, the two loops within. -/
import Derived.Test.YtnioalecffkedaaCs3
open Go Go.AM
namespace Go.Proofs.CsE
set_option maxRecDepth 100000
set_option maxHeartbeats 0
open Cs
def frA (n : Nat) (g : Nat → Int) (i : Int) : Fr := [(0, .tr 1 n fun i => [.int .u8 (g i)]), (3, .ptr 0 0 0), (4, .ptr 1 0 0), (5, .ptr 2 0 0), (6, .int .i64 i)]
def gotC (h : Nat → Int) : List AV := (List.range 16).map fun k => .int .i64 (h k)
def S0 (n : Nat) (g : Nat → Int) (s : Int) (os : List O3) (h : Nat → Int) (i : Int) : St :=
  { fr := frA n g i, hp := [.arr true 15 [conf1.cells], .arr true 7 [burC s (encL 31 encO z0 os)], .arr true 16 [gotC h]] }
def hpB (s : Int) (os : List O3) (h : Nat → Int) (sd : Int) (od : List O3) : Heap := [.arr true 15 [conf1.cells], .arr true 7 [burC s (encL 31 encO z0 os)], .arr true 16 [gotC h], .arr true 7 [burC sd (encL 31 encO z0 od)]]
def S1 (n : Nat) (g : Nat → Int) (s : Int) (os : List O3) (h : Nat → Int) (i w v sd : Int) (od : List O3) (r x : Int) : St :=
  { fr := frA n g i ++ [(7, .int .i64 w), (8, .int .i64 v), (9, .ptr 3 0 0), (11, .int .i64 r), (14, .int .i64 x)], hp := hpB s os h sd od }
def S2 (n : Nat) (g : Nat → Int) (s : Int) (os : List O3) (h : Nat → Int) (i w v sd : Int) (od : List O3) (r x y : Int) : St :=
  { fr := frA n g i ++ [(7, .int .i64 w), (8, .int .i64 v), (9, .ptr 3 0 0), (11, .int .i64 r), (14, .int .i64 x), (15, .int .i64 y)], hp := hpB s os h sd od }
def whoE (b : Int) : Int := IntKind.i64.wrap (b.tmod 4)
def numE (b : Int) : Int := IntKind.i64.wrap ((IntKind.u8.wrap (b.tdiv 4)).tmod 4)
def stp (y : HX) : Int × List O3 × Int := Cs.step y.1 y.2.1 y.2.2.1 y.2.2.2
def argsH (s : Int) (os : List O3) (f n : Int) : List AV := [.agg (burC s (encL 31 encO z0 os)), conf1, .agg (msgC f n)]
def un1 : List AV → Unit := fun _ => ()

theorem f3_in (N n : Nat) (g : Nat → Int) : callT envL (N + 1) 3 [.tr 1 n fun i => [.int .u8 (g i)]] =
    gC unD unP (fun _ => []) [] fun _ => bif decide (60 < (n : Int)) then gC unD unP (fun _ => []) [] fun _ => some (.bool true)
      else gC unD unP (fun _ => [.int .i64 0]) [.int .i64 0] fun _ => gC unD unP (fun _ => [conf1]) [conf1] fun _ => gC unD unP (fun _ => [book0]) [book0] fun _ =>
        LP envL N 0 3 snK 0 [] N (S0 n g 0 [] (fun _ => 0) 0) := by kernel_rfl

theorem f3_out (N n m : Nat) (g h : Nat → Int) (s i : Int) (os : List O3) : LP envL N 0 3 snK 0 [] (m + 1) (S0 n g s os h i) =
    bif decide (i < (n : Int)) then bif decide (0 ≤ i) && decide (i < (n : Int)) then bif decide (0 ≤ i) && decide (i < (n : Int)) then
      gC decH preH encH (argsH s os (IntKind.i64.wrap (100 + whoE (g i.toNat))) (numE (g i.toNat))) fun y =>
        bif !decide (y.2.2.1 = IntKind.i64.wrap (100 + whoE (g i.toNat))) then some (.bool false)
        else bif !decide (y.2.2.2 = numE (g i.toNat)) then some (.bool false)
        else bif decide ((stp y).2.2 < 0) then some (.bool false)
        else bif decide (3 < (stp y).2.2) then some (.bool false)
        else gC decH preH encH (argsH (stp y).1 (stp y).2.1 (IntKind.i64.wrap (100 + whoE (g i.toNat))) (numE (g i.toNat))) fun y' =>
          bif decide (0 < (stp y).2.2) then
            bif !decide ((stp y').2.2 = (stp y).2.2) then some (.bool false)
            else bif !decide ((stp y').1 = (stp y).1) then some (.bool false)
            else LP envL N 0 3 snK 2 [m] N (S1 n g s os h i (whoE (g i.toNat)) (numE (g i.toNat)) (stp y).1 (stp y).2.1 (stp y).2.2 0)
          else LP envL N 0 3 snK 2 [m] N (S1 n g s os h i (whoE (g i.toNat)) (numE (g i.toNat)) (stp y).1 (stp y).2.1 (stp y).2.2 0)
    else none else none else some (.bool (decide (s ≤ 3))) := by kernel_rfl

theorem f3_mid (N n m q : Nat) (g h : Nat → Int) (s i w v sd r : Int) (os od : List O3) : ∀ x : Nat, x < 4 →
    LP envL N 0 3 snK 2 [m] (q + 1) (S1 n g s os h i w v sd od r x) = LP envL N 0 3 snK 4 [m, q] N (S2 n g s os h i w v sd od r x 0)
  | 0, _ => by kernel_rfl
  | 1, _ => by kernel_rfl
  | 2, _ => by kernel_rfl
  | 3, _ => by kernel_rfl

theorem f3_row (N n m q p : Nat) (g h : Nat → Int) (s i w v sd r : Int) (os od : List O3) : ∀ x : Nat, x < 4 →
    LP envL N 0 3 snK 4 [m, q] (p + 1) (S2 n g s os h i w v sd od r x 4) = LP envL N 0 3 snK 2 [m] q (S1 n g s os h i w v sd od r (x + 1))
  | 0, _ => by kernel_rfl
  | 1, _ => by kernel_rfl
  | 2, _ => by kernel_rfl
  | 3, _ => by kernel_rfl

end Go.Proofs.CsE
