/- Proved: the law CoordSessions returns true for every list of bytes, and leaves its argument as it was (Rows.CoordSessionsSaid). Conditions: none. -/
import Derived.Test.YtnioalecffkedaaCs7
import Derived.Test.YtnioalecffkedaaRows
import Derived.WalkKit
import Derived.ProofKit
import Derived.OpenShut
open Go Go.AM
namespace Go.Proofs.Ytnioalecffkedaa
open Go.ChangeShapes Go.WideShapes Go.ChangeAt Go.RowKit

theorem sessions_own : ownKnob Try.prog.godebug = none := by kernel_rfl

set_option maxRecDepth 100000 in
theorem sessions_contract (H : Type) (enc : TypeId × Value → H) (W : World) (base : Nat) (args : Array Value) (ds gs : List (DataW H)) (before : List MemPlace)
    (hval : ∀ (j : Nat) t v, Try.f3.params[j]? = some t → args[j]? = some v → Value.okWide Try.prog W .any base t v)
    (hW : DataW.Whole enc Try.prog Try.f3.params.toList Rows.coordSessionsSpec.vars false W args.toList ds gs before) :
    Calls Try.prog 3 args W fun e W' => ∃ v, e = .returned v ∧ Rows.coordSessionsSpec.post enc Try.prog Try.f3 false true false false W args v W' :=
  law_postC (N := 5) (tb := 4) Try.func3 (by kernel_rfl) (by kernel_rfl) rfl (by kernel_rfl) (by kernel_rfl)
    (fun ds hd => by
      have : ds.length = 1 := by rw [hd]; kernel_rfl
      match ds, this with
      | [d], _ => rfl)
    (by kernel_rfl) (fun t ht => by
      have : t = 22 := by
        have e : Try.f3.params.toList = [22] := by kernel_rfl
        rw [e] at ht; simpa using ht
      subst this
      exact ⟨by kernel_rfl, by decide +kernel⟩)
    (fun t ht => by
      have : t = 22 := by
        have e : Try.f3.params.toList = [22] := by kernel_rfl
        rw [e] at ht; simpa using ht
      subst this
      show goodT Try.prog 5 22 = true
      kernel_rfl)
    (by
      have e : Try.f3.params.toList = [22] := by kernel_rfl
      rw [e]; exact CsE.law_ok) hval hW

set_option maxRecDepth 100000 in
theorem sessions_lifted (os : Os) (started : os.Started) (H : Type) (enc : TypeId × Value → H) :
    ReturnsInHanded {} Try.checked os 3 .any (Rows.coordSessionsSpec.pre6 enc Try.prog Try.f3 Rows.coordSessionsRow.domain false) (Rows.coordSessionsSpec.post enc Try.prog Try.f3 false true false false) :=
  returnsInHanded_of_change (C := Try.checked) sessions_own started (by kernel_rfl) Try.func3
    (ChangeSpec.witness6 (C := Try.checked) false ⟨#[], #[.slice none 0 0], []⟩ 8 (by kernel_rfl) (by kernel_rfl) (by kernel_rfl) (by kernel_rfl))
    (fun W base args ds gs before hval hW _ _ => sessions_contract H enc W base args ds gs before hval hW)

theorem sessions_holds : Rows.CoordSessionsSaid :=
  OpenClaim.holds_of_wide 3 Try.f3 rfl rfl rfl rfl rfl rfl rfl ⟨rfl, rfl, rfl, rfl, rfl⟩ rfl rfl rfl rfl rfl (by kernel_rfl) Try.func3 (by kernel_rfl)
    (of_decide_eq_true (by kernel_rfl)) (by unfold Func.isWrapper; first | (rw [if_pos (by decide +kernel)]; kernel_rfl) | (rw [if_neg (by decide +kernel)]; exact ⟨rfl, rfl⟩))
    (fun os started H enc _ => sessions_lifted os started H enc)

#print axioms sessions_holds
end Go.Proofs.Ytnioalecffkedaa
