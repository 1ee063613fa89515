/- Proved: the law KeeperBooks returns true for every book, and leaves its argument as it was (Rows.KeeperBooksSaid). Conditions: none. -/
import Derived.Test.YtjhfgaadinklhaaGreatPart4
import Derived.Test.YtjhfgaadinklhaaGreatRows
import Derived.WalkKit
import Derived.ProofKit
import Derived.OpenShut
open Go Go.AM
namespace Go.Proofs.YtjhfgaadinklhaaGreat
open Go.ChangeShapes Go.WideShapes Go.ChangeAt Go.RowKit

theorem keeperBooks_own : ownKnob Tryz.prog.godebug = none := by kernel_rfl

set_option maxRecDepth 100000 in
theorem keeperBooks_contract (H : Type) (enc : TypeId × Value → H) (W : World) (base : Nat) (args : Array Value) (ds gs : List (DataW H)) (before : List MemPlace)
    (hval : ∀ (j : Nat) t v, Tryz.f3.params[j]? = some t → args[j]? = some v → Value.okWide Tryz.prog W .any base t v)
    (hW : DataW.Whole enc Tryz.prog Tryz.f3.params.toList Rows.keeperBooksSpec.vars false W args.toList ds gs before) :
    Calls Tryz.prog 3 args W fun e W' => ∃ v, e = .returned v ∧ Rows.keeperBooksSpec.post enc Tryz.prog Tryz.f3 false true false false W args v W' :=
  law_postC (N := 9) (tb := 4) Tryz.func3 (by kernel_rfl) (by kernel_rfl) rfl (by kernel_rfl) (by kernel_rfl)
    (fun ds hd => by
      have : ds.length = 1 := by rw [hd]; kernel_rfl
      match ds, this with
      | [d], _ => rfl)
    (by kernel_rfl) (fun t ht => by
      have e : Tryz.f3.params.toList = [24] := by kernel_rfl
      rw [e] at ht
      rw [List.mem_singleton] at ht; subst ht
      exact ⟨by kernel_rfl, by decide +kernel⟩)
    (fun t ht => by
      have e : Tryz.f3.params.toList = [24] := by kernel_rfl
      rw [e] at ht
      rw [List.mem_singleton] at ht; subst ht
      exact (by kernel_rfl : goodT Tryz.prog 9 24 = true))
    (by
      have e : Tryz.f3.params.toList = [24] := by kernel_rfl
      rw [e]; exact Wk.books_ok) hval hW

set_option maxRecDepth 100000 in
theorem keeperBooks_lifted (os : Os) (started : os.Started) (H : Type) (enc : TypeId × Value → H) :
    ReturnsInHanded {} Tryz.checked os 3 .any (Rows.keeperBooksSpec.pre6 enc Tryz.prog Tryz.f3 Rows.keeperBooksRow.domain false) (Rows.keeperBooksSpec.post enc Tryz.prog Tryz.f3 false true false false) :=
  returnsInHanded_of_change (C := Tryz.checked) keeperBooks_own started (by kernel_rfl) Tryz.func3
    (ChangeSpec.witness6 (C := Tryz.checked) false ⟨#[], #[.agg #[.int .i64 0, .int .i64 0, .slice none 0 0]], []⟩ 8 (by kernel_rfl) (by kernel_rfl) (by kernel_rfl) (by kernel_rfl))
    (fun W base args ds gs before hval hW _ _ => keeperBooks_contract H enc W base args ds gs before hval hW)

theorem keeperBooks_holds : Rows.KeeperBooksSaid :=
  OpenClaim.holds_of_wide 3 Tryz.f3 rfl rfl rfl rfl rfl rfl rfl ⟨rfl, rfl, rfl, rfl, rfl⟩ rfl rfl rfl rfl rfl (by kernel_rfl) Tryz.func3 (by kernel_rfl)
    (of_decide_eq_true (by kernel_rfl)) (by unfold Func.isWrapper; first | (rw [if_pos (by decide +kernel)]; kernel_rfl) | (rw [if_neg (by decide +kernel)]; exact ⟨rfl, rfl⟩))
    (fun os started H enc _ => keeperBooks_lifted os started H enc)

#print axioms keeperBooks_holds
end Go.Proofs.YtjhfgaadinklhaaGreat
