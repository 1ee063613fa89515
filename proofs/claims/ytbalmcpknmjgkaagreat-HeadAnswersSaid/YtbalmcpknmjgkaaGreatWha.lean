/- Proved: the law HeadAnswers returns true for whatever steps of a little play (Rows.HeadAnswersSaid). Conditions: none. -/
import Derived.Test.YtbalmcpknmjgkaaGreatPart6
import Derived.Test.YtbalmcpknmjgkaaGreatRows
import Derived.WalkKit
import Derived.ProofKit
import Derived.OpenShut
open Go Go.AM
namespace Go.Proofs.YtbalmcpknmjgkaaGreat
open Go.ChangeShapes Go.WideShapes Go.ChangeAt Go.RowKit

theorem headAnswers_own : ownKnob Tryz.prog.godebug = none := by kernel_rfl

set_option maxRecDepth 100000 in
theorem headAnswers_contract (H : Type) (enc : TypeId × Value → H) (W : World) (base : Nat) (args : Array Value) (ds gs : List (DataW H)) (before : List MemPlace)
    (hval : ∀ (j : Nat) t v, Tryz.f3.params[j]? = some t → args[j]? = some v → Value.okWide Tryz.prog W .any base t v)
    (hW : DataW.Whole enc Tryz.prog Tryz.f3.params.toList Rows.headAnswersSpec.vars false W args.toList ds gs before) :
    Calls Tryz.prog 3 args W fun e W' => ∃ v, e = .returned v ∧ Rows.headAnswersSpec.post enc Tryz.prog Tryz.f3 false true false false W args v W' :=
  qU (N := 9) (tb := 4) Tryz.func3 (by kernel_rfl) (by kernel_rfl) rfl (by kernel_rfl) (by kernel_rfl)
    (fun ds hd => by
      have : ds.length = 1 := by rw [hd]; kernel_rfl
      match ds, this with
      | [d], _ => rfl)
    (by kernel_rfl) (fun t ht => by
      have e : Tryz.f3.params.toList = [22] := by kernel_rfl
      rw [e] at ht
      rw [List.mem_singleton] at ht; subst ht
      exact ⟨by kernel_rfl, by decide +kernel⟩)
    (fun t ht => by
      have e : Tryz.f3.params.toList = [22] := by kernel_rfl
      rw [e] at ht
      rw [List.mem_singleton] at ht; subst ht
      exact (by kernel_rfl : La Tryz.prog 9 22 = true))
    (by
      have e : Tryz.f3.params.toList = [22] := by kernel_rfl
      rw [e]; exact Hd.headAnswers_ok) hval hW

set_option maxRecDepth 100000 in
theorem headAnswers_lifted (os : Os) (started : os.Started) (H : Type) (enc : TypeId × Value → H) :
    ReturnsInHanded {} Tryz.checked os 3 .any (Rows.headAnswersSpec.pre6 enc Tryz.prog Tryz.f3 Rows.headAnswersRow.domain false) (Rows.headAnswersSpec.post enc Tryz.prog Tryz.f3 false true false false) :=
  returnsInHanded_of_change (C := Tryz.checked) headAnswers_own started (by kernel_rfl) Tryz.func3
    (ChangeSpec.witness6 (C := Tryz.checked) false ⟨#[], #[.slice none 0 0], []⟩ 8 (by kernel_rfl) (by kernel_rfl) (by kernel_rfl) (by kernel_rfl))
    (fun W base args ds gs before hval hW _ _ => headAnswers_contract H enc W base args ds gs before hval hW)

theorem headAnswers_holds : Rows.HeadAnswersSaid :=
  OpenClaim.holds_of_wide 3 Tryz.f3 rfl rfl rfl rfl rfl rfl rfl ⟨rfl, rfl, rfl, rfl, rfl⟩ rfl rfl rfl rfl rfl (by kernel_rfl) Tryz.func3 (by kernel_rfl)
    (of_decide_eq_true (by kernel_rfl)) (by unfold Func.isWrapper; first | (rw [if_pos (by decide +kernel)]; kernel_rfl) | (rw [if_neg (by decide +kernel)]; exact ⟨rfl, rfl⟩))
    (fun os started H enc _ => headAnswers_lifted os started H enc)

#print axioms headAnswers_holds
end Go.Proofs.YtbalmcpknmjgkaaGreat
