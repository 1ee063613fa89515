/- Proved: the law NodeTicks returns true for every list of steps (Rows.NodeTicksSaid). Conditions: none. -/
import Derived.Test.YtbalmcpknmjgkaaGreatPart5
import Derived.Test.YtbalmcpknmjgkaaGreatRows
import Derived.WalkKit
import Derived.ProofKit
import Derived.OpenShut
open Go Go.AM
namespace Go.Proofs.YtbalmcpknmjgkaaGreat
open Go.ChangeShapes Go.WideShapes Go.ChangeAt Go.RowKit

theorem nodeTicks_own : ownKnob Tryz.prog.godebug = none := by kernel_rfl

set_option maxRecDepth 100000 in
theorem nodeTicks_contract (H : Type) (enc : TypeId × Value → H) (W : World) (base : Nat) (args : Array Value) (ds gs : List (DataW H)) (before : List MemPlace)
    (hval : ∀ (j : Nat) t v, Tryz.f7.params[j]? = some t → args[j]? = some v → Value.okWide Tryz.prog W .any base t v)
    (hW : DataW.Whole enc Tryz.prog Tryz.f7.params.toList Rows.nodeTicksSpec.vars false W args.toList ds gs before) :
    Calls Tryz.prog 7 args W fun e W' => ∃ v, e = .returned v ∧ Rows.nodeTicksSpec.post enc Tryz.prog Tryz.f7 false true false false W args v W' :=
  law_postC (N := 9) (tb := 4) Tryz.func7 (by kernel_rfl) (by kernel_rfl) rfl (by kernel_rfl) (by kernel_rfl)
    (fun ds hd => by
      have : ds.length = 1 := by rw [hd]; kernel_rfl
      match ds, this with
      | [d], _ => rfl)
    (by kernel_rfl) (fun t ht => by
      have e : Tryz.f7.params.toList = [87] := by kernel_rfl
      rw [e] at ht
      rw [List.mem_singleton] at ht; subst ht
      exact ⟨by kernel_rfl, by decide +kernel⟩)
    (fun t ht => by
      have e : Tryz.f7.params.toList = [87] := by kernel_rfl
      rw [e] at ht
      rw [List.mem_singleton] at ht; subst ht
      exact (by kernel_rfl : goodT Tryz.prog 9 87 = true))
    (by
      have e : Tryz.f7.params.toList = [87] := by kernel_rfl
      rw [e]; exact Hd.nodeTicks_ok) hval hW

set_option maxRecDepth 100000 in
theorem nodeTicks_lifted (os : Os) (started : os.Started) (H : Type) (enc : TypeId × Value → H) :
    ReturnsInHanded {} Tryz.checked os 7 .any (Rows.nodeTicksSpec.pre6 enc Tryz.prog Tryz.f7 Rows.nodeTicksRow.domain false) (Rows.nodeTicksSpec.post enc Tryz.prog Tryz.f7 false true false false) :=
  returnsInHanded_of_change (C := Tryz.checked) nodeTicks_own started (by kernel_rfl) Tryz.func7
    (ChangeSpec.witness6 (C := Tryz.checked) false ⟨#[], #[.slice none 0 0], []⟩ 8 (by kernel_rfl) (by kernel_rfl) (by kernel_rfl) (by kernel_rfl))
    (fun W base args ds gs before hval hW _ _ => nodeTicks_contract H enc W base args ds gs before hval hW)

theorem nodeTicks_holds : Rows.NodeTicksSaid :=
  OpenClaim.holds_of_wide 7 Tryz.f7 rfl rfl rfl rfl rfl rfl rfl ⟨rfl, rfl, rfl, rfl, rfl⟩ rfl rfl rfl rfl rfl (by kernel_rfl) Tryz.func7 (by kernel_rfl)
    (of_decide_eq_true (by kernel_rfl)) (by unfold Func.isWrapper; first | (rw [if_pos (by decide +kernel)]; kernel_rfl) | (rw [if_neg (by decide +kernel)]; exact ⟨rfl, rfl⟩))
    (fun os started H enc _ => nodeTicks_lifted os started H enc)

#print axioms nodeTicks_holds
end Go.Proofs.YtbalmcpknmjgkaaGreat
