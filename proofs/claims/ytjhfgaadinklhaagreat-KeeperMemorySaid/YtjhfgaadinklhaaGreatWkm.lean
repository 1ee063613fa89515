/- Proved: the law KeeperMemory returns true, without a panic, for every list of steps: what a keeper's Bureau answers is new memory, and writing into it changes nothing of what the keeper has (Rows.KeeperMemorySaid). Conditions: none. -/
import Derived.Test.YtjhfgaadinklhaaGreatPart6
import Derived.Test.YtjhfgaadinklhaaGreatRows
import Derived.WalkKit
import Derived.ProofKit
import Derived.OpenShut
open Go Go.AM
namespace Go.Proofs.YtjhfgaadinklhaaGreat
open Go.ChangeShapes Go.WideShapes Go.ChangeAt Go.RowKit

theorem keeperMemory_own : ownKnob Tryz.prog.godebug = none := by kernel_rfl

set_option maxRecDepth 100000 in
theorem keeperMemory_contract (H : Type) (enc : TypeId × Value → H) (W : World) (base : Nat) (args : Array Value) (ds gs : List (DataW H)) (before : List MemPlace)
    (hval : ∀ (j : Nat) t v, Tryz.f5.params[j]? = some t → args[j]? = some v → Value.okWide Tryz.prog W .any base t v)
    (hW : DataW.Whole enc Tryz.prog Tryz.f5.params.toList Rows.keeperMemorySpec.vars false W args.toList ds gs before) :
    Calls Tryz.prog 5 args W fun e W' => ∃ v, e = .returned v ∧ Rows.keeperMemorySpec.post enc Tryz.prog Tryz.f5 false true false false W args v W' :=
  law_postC (N := 9) (tb := 4) Tryz.func5 (by kernel_rfl) (by kernel_rfl) rfl (by kernel_rfl) (by kernel_rfl)
    (fun ds hd => by
      have : ds.length = 1 := by rw [hd]; kernel_rfl
      match ds, this with
      | [d], _ => rfl)
    (by kernel_rfl) (fun t ht => by
      have e : Tryz.f5.params.toList = [34] := by kernel_rfl
      rw [e] at ht
      rw [List.mem_singleton] at ht; subst ht
      exact ⟨by kernel_rfl, by decide +kernel⟩)
    (fun t ht => by
      have e : Tryz.f5.params.toList = [34] := by kernel_rfl
      rw [e] at ht
      rw [List.mem_singleton] at ht; subst ht
      exact (by kernel_rfl : goodT Tryz.prog 9 34 = true))
    (by
      have e : Tryz.f5.params.toList = [34] := by kernel_rfl
      rw [e]; exact Kp.memory_ok) hval hW

set_option maxRecDepth 100000 in
theorem keeperMemory_lifted (os : Os) (started : os.Started) (H : Type) (enc : TypeId × Value → H) :
    ReturnsInHanded {} Tryz.checked os 5 .any (Rows.keeperMemorySpec.pre6 enc Tryz.prog Tryz.f5 Rows.keeperMemoryRow.domain false) (Rows.keeperMemorySpec.post enc Tryz.prog Tryz.f5 false true false false) :=
  returnsInHanded_of_change (C := Tryz.checked) keeperMemory_own started (by kernel_rfl) Tryz.func5
    (ChangeSpec.witness6 (C := Tryz.checked) false ⟨#[], #[.slice none 0 0], []⟩ 8 (by kernel_rfl) (by kernel_rfl) (by kernel_rfl) (by kernel_rfl))
    (fun W base args ds gs before hval hW _ _ => keeperMemory_contract H enc W base args ds gs before hval hW)

theorem keeperMemory_holds : Rows.KeeperMemorySaid :=
  OpenClaim.holds_of_wide 5 Tryz.f5 rfl rfl rfl rfl rfl rfl rfl ⟨rfl, rfl, rfl, rfl, rfl⟩ rfl rfl rfl rfl rfl (by kernel_rfl) Tryz.func5 (by kernel_rfl)
    (of_decide_eq_true (by kernel_rfl)) (by unfold Func.isWrapper; first | (rw [if_pos (by decide +kernel)]; kernel_rfl) | (rw [if_neg (by decide +kernel)]; exact ⟨rfl, rfl⟩))
    (fun os started H enc _ => keeperMemory_lifted os started H enc)

#print axioms keeperMemory_holds
end Go.Proofs.YtjhfgaadinklhaaGreat
