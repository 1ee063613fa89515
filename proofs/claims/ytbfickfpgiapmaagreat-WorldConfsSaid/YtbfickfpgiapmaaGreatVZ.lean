/- Proved: the law WorldConfs returns true for every Conf, and leaves its argument as it was (Rows.WorldConfsSaid). Conditions: none. -/
import Derived.Test.YtbfickfpgiapmaaGreatPart10
import Derived.Test.YtbfickfpgiapmaaGreatRows
import Derived.WalkKit
import Derived.ProofKit
import Derived.OpenShut
open Go Go.AM
namespace Go.Proofs.YtbfickfpgiapmaaGreat
open Go.ChangeShapes Go.WideShapes Go.ChangeAt Go.RowKit

theorem worldConfs_own : ownKnob Tryz.prog.godebug = none := by kernel_rfl

set_option maxRecDepth 100000 in
theorem worldConfs_contract (H : Type) (enc : TypeId × Value → H) (W : World) (base : Nat) (args : Array Value) (ds gs : List (DataW H)) (before : List MemPlace)
    (hval : ∀ (j : Nat) t v, Tryz.f3.params[j]? = some t → args[j]? = some v → Value.okWide Tryz.prog W .any base t v)
    (hW : DataW.Whole enc Tryz.prog Tryz.f3.params.toList Rows.worldConfsSpec.vars false W args.toList ds gs before) :
    Calls Tryz.prog 3 args W fun e W' => ∃ v, e = .returned v ∧ Rows.worldConfsSpec.post enc Tryz.prog Tryz.f3 false true false false W args v W' :=
  law_postC (N := 9) (tb := 4) Tryz.func3 (by kernel_rfl) (by kernel_rfl) rfl (by kernel_rfl) (by kernel_rfl)
    (fun ds hd => by
      have : ds.length = 1 := by rw [hd]; kernel_rfl
      match ds, this with
      | [d], _ => rfl)
    (by kernel_rfl) (fun t ht => by
      have e : Tryz.f3.params.toList = [23] := by kernel_rfl
      rw [e] at ht
      rw [List.mem_singleton] at ht; subst ht
      exact ⟨by kernel_rfl, by decide +kernel⟩)
    (fun t ht => by
      have e : Tryz.f3.params.toList = [23] := by kernel_rfl
      rw [e] at ht
      rw [List.mem_singleton] at ht; subst ht
      exact (by kernel_rfl : goodT Tryz.prog 9 23 = true))
    (by
      have e : Tryz.f3.params.toList = [23] := by kernel_rfl
      rw [e]; exact Wk.confs_ok) hval hW

set_option maxRecDepth 100000 in
theorem worldConfs_lifted (os : Os) (started : os.Started) (H : Type) (enc : TypeId × Value → H) :
    ReturnsInHanded {} Tryz.checked os 3 .any (Rows.worldConfsSpec.pre6 enc Tryz.prog Tryz.f3 Rows.worldConfsRow.domain false) (Rows.worldConfsSpec.post enc Tryz.prog Tryz.f3 false true false false) :=
  returnsInHanded_of_change (C := Tryz.checked) worldConfs_own started (by kernel_rfl) Tryz.func3
    (ChangeSpec.witness6 (C := Tryz.checked) false ⟨#[], #[.agg #[.int .i64 0, .int .i64 0, .int .i64 0, .int .i64 0, .int .i64 0, .int .i64 0, .int .i64 0, .int .i64 0, .int .i64 0, .int .i64 0, .int .i64 0, .int .i64 0, .int .i64 0, .int .i64 0, .int .i64 0]], []⟩ 8 (by kernel_rfl) (by kernel_rfl) (by kernel_rfl) (by kernel_rfl))
    (fun W base args ds gs before hval hW _ _ => worldConfs_contract H enc W base args ds gs before hval hW)

set_option maxRecDepth 100000
set_option maxHeartbeats 0
theorem andL {a b : Bool} (h : (a && b) = true) : a = true := by
  cases a with
  | true => rfl
  | false => cases h
theorem andR {a b : Bool} (h : (a && b) = true) : b = true := by
  cases a with
  | true => exact h
  | false => cases h
theorem andI {a b : Bool} (ha : a = true) (hb : b = true) : (a && b) = true := by rw [ha, hb]; rfl
theorem jf0 : (Rows.worldConfsRow.wf (OpenSpec.ofChange Rows.worldConfsSpec)) = true := by kernel_rfl
theorem jf1 : (laidOutB Tryz.pinned.checked.prog) = true := by kernel_rfl
theorem jf2 : (mapsRowed Tryz.pinned.checked.prog) = true := by kernel_rfl
theorem jf3 : (Tryz.f3.params.all (Tryz.pinned.checked.prog.readableRec ·)) = true := by kernel_rfl
theorem jf4 : (namedTie Tryz.pinned.checked.prog Rows.worldConfsRow.named Rows.worldConfsSpec.vars) = true := by kernel_rfl
theorem jf5 : ((Rows.worldConfsRow.stops == [])) = true := by kernel_rfl
theorem jgA : (((Tryz.pinned.checked.prog.stops == [])) && ((Rows.worldConfsRow.knobs == [])) && ((Tryz.pinned.checked.prog.stopKnobs == []))) = true := by kernel_rfl
theorem jf6 : ((Tryz.pinned.checked.prog.stops == [])) = true := (andL (andL jgA))
theorem jf7 : ((Rows.worldConfsRow.knobs == [])) = true := (andR (andL jgA))
theorem jf8 : ((Tryz.pinned.checked.prog.stopKnobs == [])) = true := (andR jgA)
theorem jgB : (((Rows.worldConfsRow.inPlace == Tryz.pinned.checked.prog.inPlace 3)) && ((Rows.worldConfsRow.unfollowed == Tryz.pinned.checked.prog.unfollowed 3)) && ((Rows.worldConfsRow.recurses == Tryz.pinned.checked.prog.recurses 3)) && ((Rows.worldConfsRow.named == Tryz.pinned.checked.prog.varsNamed 3))) = true := by kernel_rfl
theorem jf9 : ((Rows.worldConfsRow.inPlace == Tryz.pinned.checked.prog.inPlace 3)) = true := (andL (andL (andL jgB)))
theorem jf10 : ((Rows.worldConfsRow.unfollowed == Tryz.pinned.checked.prog.unfollowed 3)) = true := (andR (andL (andL jgB)))
theorem jf11 : ((Rows.worldConfsRow.recurses == Tryz.pinned.checked.prog.recurses 3)) = true := (andR (andL jgB))
theorem jf12 : ((Rows.worldConfsRow.named == Tryz.pinned.checked.prog.varsNamed 3)) = true := (andR jgB)
theorem jf13 : ((Rows.worldConfsRow.maps == (Tryz.f3.params.toList ++ Rows.worldConfsSpec.plain.varTypes Tryz.pinned.checked.prog).any (Tryz.pinned.checked.prog.mapsRec ·))) = true := by kernel_rfl
theorem jf14 : ((Rows.worldConfsRow.ifaces == (Tryz.f3.params.toList ++ Rows.worldConfsSpec.plain.varTypes Tryz.pinned.checked.prog).any (Tryz.pinned.checked.prog.ifacesRec ·))) = true := by kernel_rfl
theorem jf15 : ((Rows.worldConfsRow.mapsOut == Tryz.pinned.checked.prog.mapsAmong Tryz.f3.resultTypes.toList)) = true := by kernel_rfl
theorem jf16 : ((Rows.worldConfsRow.loops == (Tryz.f3.params.toList ++ Rows.worldConfsSpec.plain.varTypes Tryz.pinned.checked.prog).any (Tryz.pinned.checked.prog.loopsFrom ·))) = true := by kernel_rfl
theorem jf17 : ((Rows.worldConfsRow.wideKeys == (Tryz.f3.params.toList ++ Rows.worldConfsSpec.plain.varTypes Tryz.pinned.checked.prog ++ Tryz.f3.resultTypes.toList).any (Tryz.pinned.checked.prog.wideKeysFrom ·))) = true := by kernel_rfl
theorem jf18 : (Rows.worldConfsSpec.vars.all (Tryz.pinned.checked.prog.varReadable ·)) = true := by kernel_rfl
theorem jf19 : (Tryz.f3.resultTypes.all (fun t => Tryz.pinned.checked.prog.readableRec t && decide (t < Tryz.pinned.checked.prog.types.size))) = true := by kernel_rfl
theorem jf20 : ((Rows.worldConfsRow.ifacesOut == Tryz.f3.resultTypes.toList.any (Tryz.pinned.checked.prog.ifacesRec ·))) = true := by kernel_rfl
theorem jf21 : ((Rows.worldConfsRow.loopsOut == Tryz.f3.resultTypes.toList.any (Tryz.pinned.checked.prog.loopsFrom ·))) = true := by kernel_rfl
theorem jgC : (((Rows.worldConfsRow.plainKeys == Tryz.pinned.checked.prog.plainKeys)) && (Rows.worldConfsRow.shortTexts.isNone) && (Tryz.pinned.checked.prog.stopsHeard) && (Tryz.pinned.checked.prog.mayEnter)) = true := by kernel_rfl
theorem jf22 : ((Rows.worldConfsRow.plainKeys == Tryz.pinned.checked.prog.plainKeys)) = true := (andL (andL (andL jgC)))
theorem jf23 : (Rows.worldConfsRow.shortTexts.isNone) = true := (andR (andL (andL jgC)))
theorem jf24 : (Tryz.pinned.checked.prog.stopsHeard) = true := (andR (andL jgC))
theorem jf25 : (Tryz.pinned.checked.prog.mayEnter) = true := (andR jgC)
theorem jf26 : ((Rows.worldConfsRow.lifted == Tryz.pinned.checked.prog.liftsFinal)) = true := by kernel_rfl
theorem jf27 : ((Tryz.pinned.checked.prog.make == some Rows.worldConfsRow.make)) = true := by kernel_rfl
theorem jf28 : ((Rows.worldConfsRow.kinds == (if Rows.worldConfsRow.domain.isEmpty then [] else Tryz.f3.params.toList.map fun t => match Tryz.pinned.checked.prog.underlying t with | some (.int k) => some k | _ => none))) = true := by kernel_rfl
theorem jf29 : ((Rows.worldConfsRow.pinned == Rows.worldConfsRow.pinnedBy)) = true := by kernel_rfl
theorem jf30 : ((Rows.worldConfsRow.veiled == (Tryz.f3.params.toList ++ Rows.worldConfsSpec.plain.varTypes Tryz.pinned.checked.prog ++ Tryz.f3.resultTypes.toList).any (Tryz.pinned.checked.prog.veiledRec ·))) = true := by kernel_rfl
theorem jf31 : (Rows.worldConfsRow.veiledFits Tryz.pinned.checked.prog Tryz.f3.params.toList (Tryz.f3.params.toList ++ Rows.worldConfsSpec.plain.varTypes Tryz.pinned.checked.prog ++ Tryz.f3.resultTypes.toList)) = true := by kernel_rfl
theorem jf : joinedFacts Tryz.pinned.checked.prog 3 Tryz.f3 Rows.worldConfsSpec Rows.worldConfsRow = true := (andI (andI (andI (andI (andI (andI (andI (andI (andI (andI (andI (andI (andI (andI (andI (andI (andI (andI (andI (andI (andI (andI (andI (andI (andI (andI (andI (andI (andI (andI (andI jf0 jf1) jf2) jf3) jf4) jf5) jf6) jf7) jf8) jf9) jf10) jf11) jf12) jf13) jf14) jf15) jf16) jf17) jf18) jf19) jf20) jf21) jf22) jf23) jf24) jf25) jf26) jf27) jf28) jf29) jf30) jf31)
theorem worldConfs_holds : Rows.WorldConfsSaid :=
  OpenClaim.holds_of_wide 3 Tryz.f3 rfl rfl rfl rfl rfl rfl rfl ⟨rfl, rfl, rfl, rfl, rfl⟩ rfl rfl rfl rfl rfl (by kernel_rfl) Tryz.func3 jf
    (of_decide_eq_true (by kernel_rfl)) (by unfold Func.isWrapper; first | (rw [if_pos (by decide +kernel)]; kernel_rfl) | (rw [if_neg (by decide +kernel)]; exact ⟨rfl, rfl⟩))
    (fun os started H enc _ => worldConfs_lifted os started H enc)

#print axioms worldConfs_holds
end Go.Proofs.YtbfickfpgiapmaaGreat
