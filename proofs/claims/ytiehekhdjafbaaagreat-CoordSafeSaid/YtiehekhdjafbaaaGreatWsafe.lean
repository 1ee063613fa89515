/- Proved: the law CoordSafe returns true, without a panic, for every uint8 and every list of steps: at each step of a play whoever may take over the shard and has not crashed has all that was ever committed since the shard was last begun afresh (Rows.CoordSafeSaid). Conditions: none. -/
import Derived.Test.YtiehekhdjafbaaaGreatPart6
import Derived.Test.YtiehekhdjafbaaaGreatRows
import Derived.WalkKit
import Derived.ProofKit
import Derived.OpenShut
open Go Go.AM
namespace Go.Proofs.YtiehekhdjafbaaaGreat
open Go.ChangeShapes Go.WideShapes Go.ChangeAt Go.RowKit

theorem coordSafe_own : ownKnob Tryz.prog.godebug = none := by kernel_rfl

set_option maxRecDepth 100000 in
theorem coordSafe_contract (H : Type) (enc : TypeId × Value → H) (W : World) (base : Nat) (args : Array Value) (ds gs : List (DataW H)) (before : List MemPlace)
    (hval : ∀ (j : Nat) t v, Tryz.f5.params[j]? = some t → args[j]? = some v → Value.okWide Tryz.prog W .any base t v)
    (hW : DataW.Whole enc Tryz.prog Tryz.f5.params.toList Rows.coordSafeSpec.vars false W args.toList ds gs before) :
    Calls Tryz.prog 5 args W fun e W' => ∃ v, e = .returned v ∧ Rows.coordSafeSpec.post enc Tryz.prog Tryz.f5 false true false false W args v W' :=
  law_postC (N := 9) (tb := 4) Tryz.func5 (by kernel_rfl) (by kernel_rfl) rfl (by kernel_rfl) (by kernel_rfl)
    (fun ds hd => by
      have : ds.length = 2 := by rw [hd]; kernel_rfl
      match ds, this with
      | [d, d'], _ => rfl)
    (by kernel_rfl) (fun t ht => by
      have e : Tryz.f5.params.toList = [5, 22] := by kernel_rfl
      rw [e] at ht
      rcases List.mem_cons.1 ht with h | ht
      · subst h; exact ⟨by kernel_rfl, by decide +kernel⟩
      rw [List.mem_singleton] at ht; subst ht
      exact ⟨by kernel_rfl, by decide +kernel⟩)
    (fun t ht => by
      have e : Tryz.f5.params.toList = [5, 22] := by kernel_rfl
      rw [e] at ht
      rcases List.mem_cons.1 ht with h | ht
      · subst h; exact (by kernel_rfl : goodT Tryz.prog 9 5 = true)
      rw [List.mem_singleton] at ht; subst ht
      exact (by kernel_rfl : goodT Tryz.prog 9 22 = true))
    (by
      have e : Tryz.f5.params.toList = [5, 22] := by kernel_rfl
      rw [e]; exact Wk.coordSafe_ok) hval hW

set_option maxRecDepth 100000 in
theorem coordSafe_lifted (os : Os) (started : os.Started) (H : Type) (enc : TypeId × Value → H) :
    ReturnsInHanded {} Tryz.checked os 5 .any (Rows.coordSafeSpec.pre6 enc Tryz.prog Tryz.f5 Rows.coordSafeRow.domain false) (Rows.coordSafeSpec.post enc Tryz.prog Tryz.f5 false true false false) :=
  returnsInHanded_of_change (C := Tryz.checked) coordSafe_own started (by kernel_rfl) Tryz.func5
    (ChangeSpec.witness6 (C := Tryz.checked) false ⟨#[], #[.int .u8 0, .slice none 0 0], []⟩ 8 (by kernel_rfl) (by kernel_rfl) (by kernel_rfl) (by kernel_rfl))
    (fun W base args ds gs before hval hW _ _ => coordSafe_contract H enc W base args ds gs before hval hW)

theorem coordSafe_holds : Rows.CoordSafeSaid :=
  OpenClaim.holds_of_wide 5 Tryz.f5 rfl rfl rfl rfl rfl rfl rfl ⟨rfl, rfl, rfl, rfl, rfl⟩ rfl rfl rfl rfl rfl (by kernel_rfl) Tryz.func5 (by kernel_rfl)
    (of_decide_eq_true (by kernel_rfl)) (by unfold Func.isWrapper; first | (rw [if_pos (by decide +kernel)]; kernel_rfl) | (rw [if_neg (by decide +kernel)]; exact ⟨rfl, rfl⟩))
    (fun os started H enc _ => coordSafe_lifted os started H enc)

#print axioms coordSafe_holds
end Go.Proofs.YtiehekhdjafbaaaGreat
