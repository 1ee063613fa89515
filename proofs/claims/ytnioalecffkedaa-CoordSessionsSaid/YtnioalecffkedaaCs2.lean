/- coord.Handle at an Open, over a bureau of up to three Opens, by the kernel; and the calls at fixed arguments. -/
import Derived.Test.YtnioalecffkedaaCsE
import Derived.Test.YtnioalecffkedaaCsSpec
import Derived.Test.YtnioalecffkedaaAm31
open Go Go.AM
namespace Go.Proofs.CsE
set_option maxRecDepth 100000
set_option maxHeartbeats 0
open Cs

def sh0 : List AV := [.int .i64 0, .int .i64 0, .int .i64 0, .bool false, .int .i64 0, .int .i64 0, .nils, .nils]
def wk0 : List AV := [.bool false, .nils, .nils, .bool false]
def encO (o : O3) : List AV := [.int .i64 0, .int .i64 o.f, .int .i64 0, .int .i64 0, .int .i64 0, .int .i64 0, .int .i64 0, .int .i64 0, .int .i64 o.s, .int .i64 o.n, .int .i64 0, .int .i64 0, .bool false, .bool false, .str [], .str [], .cplx .f64 0 0, .cplx .f64 0 0, .int .i64 0, .str [], .str [], .str [], .bool false, .nils, .nils, .nils, .cplx .f64 0 0, .cplx .f64 0 0, .int .i64 0, .nils, .nils]
def decO (cs : List AV) : O3 := ⟨getI cs 1, getI cs 9, getI cs 8⟩
def msgC (f n : Int) : List AV := [.int .i64 1, .int .i64 f, .int .i64 1, .int .i64 0, .int .i64 0, .int .i64 0, .int .i64 0, .int .i64 0, .int .i64 0, .int .i64 n, .int .i64 0, .int .i64 0, .bool false, .bool false, .str [], .str [], .cplx .f64 0 0, .cplx .f64 0 0, .int .i64 0, .str [], .str [], .str [], .bool false, .nils, .nils, .nils, .cplx .f64 0 0, .cplx .f64 0 0, .int .i64 0, .nils, .nils]
def rep (f n s : Int) : List AV := [.int .i64 2, .int .i64 1, .int .i64 f, .int .i64 0, .int .i64 0, .int .i64 0, .int .i64 0, .int .i64 0, .int .i64 s, .int .i64 n, .int .i64 0, .int .i64 0, .bool false, .bool false, .str [], .str [], .cplx .f64 0 0, .cplx .f64 0 0, .int .i64 0, .str [], .str [], .str [], .bool false, .nils, .nils, .nils, .cplx .f64 0 0, .cplx .f64 0 0, .int .i64 0, .nils, .nils]
def conf1 : AV := .agg [.int .i64 3, .int .i64 1, .int .i64 1, .int .i64 0, .int .i64 0, .int .i64 0, .int .i64 0, .int .i64 0, .int .i64 0, .int .i64 0, .int .i64 0, .int .i64 3, .int .i64 2, .int .i64 0, .int .i64 0]
def burC (s : Int) (ops : AV) : List AV := [.int .i64 s, .int .i64 0, .trl 8 [sh0], .nils, .trl 4 [wk0], ops, .nils]
def book0 : AV := .agg [.int .i64 0, .int .i64 0, .trl 8 [sh0]]

noncomputable def envN : Env := envO fun _ _ => none
theorem aw : callT envN 400 4 [] = some (.bool true) := by kernel_rfl
theorem conf_run : callT envN 40 5 [.int .i64 0] = some conf1 := by kernel_rfl
theorem new_run : callT envN 40 7 [conf1] = some book0 := by kernel_rfl
theorem open_run : callT envN 40 6 [book0] = some (.agg (burC 0 .nils)) := by kernel_rfl

/-- what Handle answers, as it goes through the Opens -/
def ansR (s : Int) (os : List O3) (f n r : Int) : Option AV := some (.tup [.agg (burC s (.trl 31 (os.map encO))), .trl 31 [rep f n r]])
def findR (s f n : Int) : List O3 → List O3 → Option AV
  | pre, [] => bif decide (s < 3) then ansR (IntKind.i64.wrap (s + 1)) (pre ++ [⟨f, n, IntKind.i64.wrap (s + 1)⟩]) f n (IntKind.i64.wrap (s + 1)) else ansR s pre f n 0
  | pre, a :: r => bif decide (a.f = f) then (bif decide (a.n = n) then ansR s (pre ++ a :: r) f n a.s
      else bif decide (s < 3) then ansR (IntKind.i64.wrap (s + 1)) (pre ++ (r ++ [⟨f, n, IntKind.i64.wrap (s + 1)⟩])) f n (IntKind.i64.wrap (s + 1)) else ansR s (pre ++ a :: r) f n 0)
    else findR s f n (pre ++ [a]) r

theorem han0 (s f n : Int) : callT envN 40 8 [.agg (burC s (.trl 31 [])), conf1, .agg (msgC f n)] = findR s f n [] [] := by kernel_rfl
theorem han1 (s f n : Int) (a : O3) : callT envN 40 8 [.agg (burC s (.trl 31 [encO a])), conf1, .agg (msgC f n)] = findR s f n [] [a] := by kernel_rfl
theorem han2 (s f n : Int) (a b : O3) : callT envN 40 8 [.agg (burC s (.trl 31 [encO a, encO b])), conf1, .agg (msgC f n)] = findR s f n [] [a, b] := by kernel_rfl
theorem han3 (s f n : Int) (a b c : O3) : callT envN 40 8 [.agg (burC s (.trl 31 [encO a, encO b, encO c])), conf1, .agg (msgC f n)] = findR s f n [] [a, b, c] := by kernel_rfl
end Go.Proofs.CsE
