/- Proved: the law CoordKeeps returns true, without a panic, for every uint8 and every list of steps: what coord.Tick and coord.Handle answer is new memory, and writing into it changes nothing of the bureau that was handed in (Rows.CoordKeepsSaid). Conditions: none. -/
import Derived.Test.YtiehekhdjafbaaaGreatPart5
import Derived.Test.YtiehekhdjafbaaaGreatRows
import Derived.WalkKit
import Derived.ProofKit
import Derived.OpenShut
open Go Go.AM
namespace Go.Proofs.YtiehekhdjafbaaaGreat
open Go.ChangeShapes Go.WideShapes Go.ChangeAt Go.RowKit

theorem coordKeeps_own : ownKnob Tryz.prog.godebug = none := by kernel_rfl

set_option maxRecDepth 100000 in
theorem coordKeeps_contract (H : Type) (enc : TypeId × Value → H) (W : World) (base : Nat) (args : Array Value) (ds gs : List (DataW H)) (before : List MemPlace)
    (hval : ∀ (j : Nat) t v, Tryz.f4.params[j]? = some t → args[j]? = some v → Value.okWide Tryz.prog W .any base t v)
    (hW : DataW.Whole enc Tryz.prog Tryz.f4.params.toList Rows.coordKeepsSpec.vars false W args.toList ds gs before) :
    Calls Tryz.prog 4 args W fun e W' => ∃ v, e = .returned v ∧ Rows.coordKeepsSpec.post enc Tryz.prog Tryz.f4 false true false false W args v W' :=
  law_postC (N := 9) (tb := 4) Tryz.func4 (by kernel_rfl) (by kernel_rfl) rfl (by kernel_rfl) (by kernel_rfl)
    (fun ds hd => by
      have : ds.length = 2 := by rw [hd]; kernel_rfl
      match ds, this with
      | [d, d'], _ => rfl)
    (by kernel_rfl) (fun t ht => by
      have e : Tryz.f4.params.toList = [5, 22] := by kernel_rfl
      rw [e] at ht
      rcases List.mem_cons.1 ht with h | ht
      · subst h; exact ⟨by kernel_rfl, by decide +kernel⟩
      rw [List.mem_singleton] at ht; subst ht
      exact ⟨by kernel_rfl, by decide +kernel⟩)
    (fun t ht => by
      have e : Tryz.f4.params.toList = [5, 22] := by kernel_rfl
      rw [e] at ht
      rcases List.mem_cons.1 ht with h | ht
      · subst h; exact (by kernel_rfl : goodT Tryz.prog 9 5 = true)
      rw [List.mem_singleton] at ht; subst ht
      exact (by kernel_rfl : goodT Tryz.prog 9 22 = true))
    (by
      have e : Tryz.f4.params.toList = [5, 22] := by kernel_rfl
      rw [e]; exact Wk.coordKeeps_ok) hval hW

set_option maxRecDepth 100000 in
theorem coordKeeps_lifted (os : Os) (started : os.Started) (H : Type) (enc : TypeId × Value → H) :
    ReturnsInHanded {} Tryz.checked os 4 .any (Rows.coordKeepsSpec.pre6 enc Tryz.prog Tryz.f4 Rows.coordKeepsRow.domain false) (Rows.coordKeepsSpec.post enc Tryz.prog Tryz.f4 false true false false) :=
  returnsInHanded_of_change (C := Tryz.checked) coordKeeps_own started (by kernel_rfl) Tryz.func4
    (ChangeSpec.witness6 (C := Tryz.checked) false ⟨#[], #[.int .u8 0, .slice none 0 0], []⟩ 8 (by kernel_rfl) (by kernel_rfl) (by kernel_rfl) (by kernel_rfl))
    (fun W base args ds gs before hval hW _ _ => coordKeeps_contract H enc W base args ds gs before hval hW)

theorem coordKeeps_holds : Rows.CoordKeepsSaid :=
  OpenClaim.holds_of_wide 4 Tryz.f4 rfl rfl rfl rfl rfl rfl rfl ⟨rfl, rfl, rfl, rfl, rfl⟩ rfl rfl rfl rfl rfl (by kernel_rfl) Tryz.func4 (by kernel_rfl)
    (of_decide_eq_true (by kernel_rfl)) (by unfold Func.isWrapper; first | (rw [if_pos (by decide +kernel)]; kernel_rfl) | (rw [if_neg (by decide +kernel)]; exact ⟨rfl, rfl⟩))
    (fun os started H enc _ => coordKeeps_lifted os started H enc)

#print axioms coordKeeps_holds
end Go.Proofs.YtiehekhdjafbaaaGreat
