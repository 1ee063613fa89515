/- Proved: the law HeadKeeps returns true for whatever steps of a little play and whatever step behind it (Rows.HeadKeepsSaid). Conditions: none. -/
import Derived.Test.YtbalmcpknmjgkaaGreatPart5
import Derived.Test.YtbalmcpknmjgkaaGreatRows
import Derived.WalkKit
import Derived.ProofKit
import Derived.OpenShut
open Go Go.AM
namespace Go.Proofs.YtbalmcpknmjgkaaGreat
open Go.ChangeShapes Go.WideShapes Go.ChangeAt Go.RowKit

theorem headKeeps_own : ownKnob Tryz.prog.godebug = none := by kernel_rfl

set_option maxRecDepth 100000 in
theorem headKeeps_contract (H : Type) (enc : TypeId × Value → H) (W : World) (base : Nat) (args : Array Value) (ds gs : List (DataW H)) (before : List MemPlace)
    (C8 : ∀ (j : Nat) t v, Tryz.f5.params[j]? = some t → args[j]? = some v → Value.okWide Tryz.prog W .any base t v)
    (hW : DataW.Whole enc Tryz.prog Tryz.f5.params.toList Rows.headKeepsSpec.vars false W args.toList ds gs before) :
    Calls Tryz.prog 5 args W fun e W' => ∃ v, e = .returned v ∧ Rows.headKeepsSpec.post enc Tryz.prog Tryz.f5 false true false false W args v W' :=
  alg (N := 9) (tb := 4) Tryz.func5 (by kernel_rfl) (by kernel_rfl) rfl (by kernel_rfl) (by kernel_rfl)
    (fun ds hd => by
      have : ds.length = 2 := by rw [hd]; kernel_rfl
      match ds, this with
      | [d, d'], _ => rfl)
    (by kernel_rfl) (fun t ht => by
      have e : Tryz.f5.params.toList = [22, 80] := by kernel_rfl
      rw [e] at ht
      rcases List.mem_cons.1 ht with h | ht
      · subst h; exact ⟨by kernel_rfl, by decide +kernel⟩
      rw [List.mem_singleton] at ht; subst ht
      exact ⟨by kernel_rfl, by decide +kernel⟩)
    (fun t ht => by
      have e : Tryz.f5.params.toList = [22, 80] := by kernel_rfl
      rw [e] at ht
      rcases List.mem_cons.1 ht with h | ht
      · subst h; exact (by kernel_rfl : P4 Tryz.prog 9 22 = true)
      rw [List.mem_singleton] at ht; subst ht
      exact (by kernel_rfl : P4 Tryz.prog 9 80 = true))
    (by
      have e : Tryz.f5.params.toList = [22, 80] := by kernel_rfl
      rw [e]; exact Hd.ajw) C8 hW

set_option maxRecDepth 100000 in
theorem headKeeps_lifted (os : Os) (started : os.Started) (H : Type) (enc : TypeId × Value → H) :
    ReturnsInHanded {} Tryz.checked os 5 .any (Rows.headKeepsSpec.pre6 enc Tryz.prog Tryz.f5 Rows.headKeepsRow.domain false) (Rows.headKeepsSpec.post enc Tryz.prog Tryz.f5 false true false false) :=
  returnsInHanded_of_change (C := Tryz.checked) headKeeps_own started (by kernel_rfl) Tryz.func5
    (ChangeSpec.witness6 (C := Tryz.checked) false ⟨#[], #[.slice none 0 0, .agg #[.int .u8 0, .int .u8 0, .int .u8 0, .int .i64 0, .string ⟨#[]⟩, .string ⟨#[]⟩, .string ⟨#[]⟩, .bool false]], []⟩ 8 (by kernel_rfl) (by kernel_rfl) (by kernel_rfl) (by kernel_rfl))
    (fun W base args ds gs before C8 hW _ _ => headKeeps_contract H enc W base args ds gs before C8 hW)

theorem headKeeps_holds : Rows.HeadKeepsSaid :=
  OpenClaim.holds_of_wide 5 Tryz.f5 rfl rfl rfl rfl rfl rfl rfl ⟨rfl, rfl, rfl, rfl, rfl⟩ rfl rfl rfl rfl rfl (by kernel_rfl) Tryz.func5 (by kernel_rfl)
    (of_decide_eq_true (by kernel_rfl)) (by unfold Func.isWrapper; first | (rw [if_pos (by decide +kernel)]; kernel_rfl) | (rw [if_neg (by decide +kernel)]; exact ⟨rfl, rfl⟩))
    (fun os started H enc _ => headKeeps_lifted os started H enc)

#print axioms headKeeps_holds
end Go.Proofs.YtbalmcpknmjgkaaGreat
