/- Proved: the law HeadStore returns true for whatever steps of a little play (Rows.HeadStoreSaid). Conditions: none. -/
import Derived.Test.YtbalmcpknmjgkaaGreatPart6
import Derived.Test.YtbalmcpknmjgkaaGreatRows
import Derived.WalkKit
import Derived.ProofKit
import Derived.OpenShut
open Go Go.AM
namespace Go.Proofs.YtbalmcpknmjgkaaGreat
open Go.ChangeShapes Go.WideShapes Go.ChangeAt Go.RowKit

theorem headStore_own : ownKnob Tryz.prog.godebug = none := by kernel_rfl

set_option maxRecDepth 100000 in
theorem headStore_contract (H : Type) (enc : TypeId × Value → H) (W : World) (base : Nat) (args : Array Value) (ds gs : List (DataW H)) (before : List MemPlace)
    (hval : ∀ (j : Nat) t v, Tryz.f4.params[j]? = some t → args[j]? = some v → Value.okWide Tryz.prog W .any base t v)
    (hW : DataW.Whole enc Tryz.prog Tryz.f4.params.toList Rows.headStoreSpec.vars false W args.toList ds gs before) :
    Calls Tryz.prog 4 args W fun e W' => ∃ v, e = .returned v ∧ Rows.headStoreSpec.post enc Tryz.prog Tryz.f4 false true false false W args v W' :=
  qE (N := 9) (tb := 4) Tryz.func4 (by kernel_rfl) (by kernel_rfl) rfl (by kernel_rfl) (by kernel_rfl)
    (fun ds hd => by
      have : ds.length = 1 := by rw [hd]; kernel_rfl
      match ds, this with
      | [d], _ => rfl)
    (by kernel_rfl) (fun t ht => by
      have e : Tryz.f4.params.toList = [22] := by kernel_rfl
      rw [e] at ht
      rw [List.mem_singleton] at ht; subst ht
      exact ⟨by kernel_rfl, by decide +kernel⟩)
    (fun t ht => by
      have e : Tryz.f4.params.toList = [22] := by kernel_rfl
      rw [e] at ht
      rw [List.mem_singleton] at ht; subst ht
      exact (by kernel_rfl : K6 Tryz.prog 9 22 = true))
    (by
      have e : Tryz.f4.params.toList = [22] := by kernel_rfl
      rw [e]; exact Hd.headStore_ok) hval hW

set_option maxRecDepth 100000 in
theorem headStore_lifted (os : Os) (started : os.Started) (H : Type) (enc : TypeId × Value → H) :
    ReturnsInHanded {} Tryz.checked os 4 .any (Rows.headStoreSpec.pre6 enc Tryz.prog Tryz.f4 Rows.headStoreRow.domain false) (Rows.headStoreSpec.post enc Tryz.prog Tryz.f4 false true false false) :=
  returnsInHanded_of_change (C := Tryz.checked) headStore_own started (by kernel_rfl) Tryz.func4
    (ChangeSpec.witness6 (C := Tryz.checked) false ⟨#[], #[.slice none 0 0], []⟩ 8 (by kernel_rfl) (by kernel_rfl) (by kernel_rfl) (by kernel_rfl))
    (fun W base args ds gs before hval hW _ _ => headStore_contract H enc W base args ds gs before hval hW)

theorem headStore_holds : Rows.HeadStoreSaid :=
  OpenClaim.holds_of_wide 4 Tryz.f4 rfl rfl rfl rfl rfl rfl rfl ⟨rfl, rfl, rfl, rfl, rfl⟩ rfl rfl rfl rfl rfl (by kernel_rfl) Tryz.func4 (by kernel_rfl)
    (of_decide_eq_true (by kernel_rfl)) (by unfold Func.isWrapper; first | (rw [if_pos (by decide +kernel)]; kernel_rfl) | (rw [if_neg (by decide +kernel)]; exact ⟨rfl, rfl⟩))
    (fun os started H enc _ => headStore_lifted os started H enc)

#print axioms headStore_holds
end Go.Proofs.YtbalmcpknmjgkaaGreat
