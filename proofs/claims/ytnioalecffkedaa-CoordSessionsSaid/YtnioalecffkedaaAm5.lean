/- Operations that call nothing: the abstract answer is the model's. -/
import Derived.Test.YtnioalecffkedaaAm4
set_option linter.unusedVariables false
set_option linter.unusedSimpArgs false
namespace Go.AM

variable {R : Type}

theorem onK_some {α : Type} {b : Option α} {k : α → Option R} {r : R} (h : onK b k = some r) : ∃ x, b = some x ∧ k x = some r := by
  cases b with
  | none => cases h
  | some x => exact ⟨x, rfl, h⟩

theorem cond_some {c : Bool} {x : Option R} {r : R} (h : (bif c then x else .none) = some r) : c = true ∧ x = some r := by
  cases c with
  | false => cases h
  | true => exact ⟨rfl, h⟩

theorem ncond_some {c : Bool} {x : Option R} {r : R} (h : (bif c then .none else x) = some r) : c = false ∧ x = some r := by
  cases c with
  | true => cases h
  | false => exact ⟨rfl, h⟩

theorem and_true' {a b : Bool} (h : (a && b) = true) : a = true ∧ b = true := by simpa using h

theorem partK_inv {ti : TI} {cs : List AV} {j : Nat} {k : AV → Option R} {r : R} (h : partK ti cs j k = some r) :
    ∃ v, k v = some r ∧ ∀ {R' : Type} (k' : AV → Option R'), partK ti cs j k' = k' v := by
  unfold partK at h ⊢
  cases ha : ti.agg with
  | true =>
    rw [ha, cond_true] at h
    obtain ⟨h1, h2⟩ := cond_some h
    exact ⟨_, h2, fun k' => by simp [h1]⟩
  | false =>
    rw [ha, cond_false] at h
    cases hc : cs[j]? with
    | none => rw [hc] at h; cases h
    | some c => rw [hc] at h; exact ⟨c, h, fun k' => rfl⟩

theorem elemK_inv {x : BS} {i : Nat} {k : List AV → Option R} {r : R} (h : elemK x i k = some r) :
    ∃ cs, k cs = some r ∧ ∀ {R' : Type} (k' : List AV → Option R'), elemK x i k' = k' cs := by
  unfold elemK at h ⊢
  cases x with
  | arr m s es =>
    simp only at h ⊢
    cases hc : es[i]? with
    | none => rw [hc] at h; cases h
    | some c => rw [hc] at h; exact ⟨c, h, fun k' => rfl⟩
  | seq m s n f =>
    obtain ⟨h1, h2⟩ := cond_some h
    exact ⟨_, h2, fun k' => by simp [h1]⟩
  | none => cases h
  | dead => cases h
  | map m es => cases h
  | iter m es st => cases h

section
variable {P : Program} {tt : TT} {ρ : Operand → AV} {rd : Nat → BS} {nx : Nat} {k : AopK R} {r : R} {o : Oper}

/-- what the lemmas of this file say -/
def Good (P : Program) (o : Oper) (ρ : Operand → AV) (rd : Nat → BS) (k : AopK R) (r : R) : Prop :=
  ∃ v wr rdl, k v wr rdl = some r ∧ Sim P o ρ rd v wr rdl

/-- a value out of the operands' values alone -/
theorem Good.pure {v : AV} (hk : k v [] [] = some r)
    (h : ∀ (ρr : Operand → Value) (w : World) (φ : Phi) (I : Nat → Prop), (∀ x ∈ o.op.operands, RV w I φ (ρ x) (ρr x)) → ∃ u, (execOp ρr o).run P w = .ok (.value u) w ∧ RV w I φ v u) :
    Good P o ρ rd k r :=
  ⟨v, [], [], hk, fun rd' ρr w φ I _ _ hh hx => let ⟨u, h1, h2⟩ := h ρr w φ I hx; OpOk.pure hh h1 h2⟩

theorem aop_move {x : Operand} (ho : o.op = .move x ∨ o.op = .assign x) (h : k (ρ x) [] [] = some r) : Good P o ρ rd k r :=
  Good.pure h fun ρr w φ I hx => ⟨ρr x, by rcases ho with ho | ho <;> simp [execOp, ho], hx x (by rcases ho with ho | ho <;> simp [ho, Op.operands])⟩

theorem aop_pick {c a b : Operand} (ho : o.op = .pick c a b) (h : aopK tt ρ rd nx (.pick c a b) k = some r) : Good P o ρ rd k r := by
  simp only [aopK] at h
  split at h
  · rename_i cb hc
    cases cb with
    | true =>
      refine Good.pure h fun ρr w φ I hx => ⟨ρr a, ?_, hx a (by simp [ho, Op.operands])⟩
      have := hx c (by simp [ho, Op.operands])
      rw [hc] at this
      generalize hu : ρr c = u at this
      cases this
      simp [execOp, ho, hu, asBool]
    | false =>
      refine Good.pure h fun ρr w φ I hx => ⟨ρr b, ?_, hx b (by simp [ho, Op.operands])⟩
      have := hx c (by simp [ho, Op.operands])
      rw [hc] at this
      generalize hu : ρr c = u at this
      cases this
      simp [execOp, ho, hu, asBool]
  · cases h

theorem aop_alloc (htt : TTok P tt) (hnx : rd nx = .none) {t : TypeId} (ho : o.op = .alloc t) (h : aopK tt ρ rd nx (.alloc t) k = some r) : Good P o ρ rd k r := by
  simp only [aopK] at h
  obtain ⟨ti, hti, h⟩ := onK_some h
  obtain ⟨z, hz, h⟩ := onK_some h
  refine ⟨_, _, _, h, fun rd' ρr w φ I _ hwr hh hx => ?_⟩
  have hn : rd' nx = .none := (hwr _ List.mem_cons_self).trans hnx
  obtain ⟨v, hv, hs, hc, hr⟩ := run_zero (htt t ti hti) hz w I φ
  have le := Phi.le_set (hh.none nx hn) (w.heap.size, 0, z.length)
  refine OpOk.alloc (u := .pointer (some ⟨w.heap.size, 0, none⟩)) hh hn (.cells v.cells t) _ z.length rfl (RB.one hr hh.lt le t) ?_ (.ptr nx _ 0 _ 0 0 0 (Phi.set_same _ _ _) (by simp))
  simp [execOp, ho, Instr.alloc, hv, newVar, newRow]

theorem aop_box (hnx : rd nx = .none) {t : TypeId} {x : Operand} (ho : o.op = .box t x) (h : aopK tt ρ rd nx (.box t x) k = some r) : Good P o ρ rd k r := by
  simp only [aopK] at h
  obtain ⟨hs, h⟩ := cond_some h
  refine ⟨_, _, _, h, fun rd' ρr w φ I _ hwr hh hx => ?_⟩
  have hn : rd' nx = .none := (hwr _ List.mem_cons_self).trans hnx
  have hr := (hx x (by simp [ho, Op.operands])).cells hs
  have le := Phi.le_set (hh.none nx hn) (w.heap.size, 0, (ρ x).cells.length)
  refine OpOk.alloc (u := .pointer (some ⟨w.heap.size, 0, none⟩)) hh hn (.cells (ρr x).cells t) _ _ rfl (RB.one hr hh.lt le t) ?_ (.ptr nx _ 0 _ 0 0 0 (Phi.set_same _ _ _) (by simp))
  simp [execOp, ho, Instr.box, newVar, newRow]

theorem aop_load (htt : TTok P tt) {t : TypeId} {a : Operand} (ho : o.op = .load t a) (h : aopK tt ρ rd nx (.load t a) k = some r) : Good P o ρ rd k r := by
  simp only [aopK] at h
  obtain ⟨ti, hti, h⟩ := onK_some h
  split at h
  · rename_i b i j ha
    have key : ∃ v, k v [] [b] = some r ∧ ∀ (w : World) (φ : Phi) (I : Nat → Prop) B o sz, φ b = some (B, o, sz) → RB w I φ B o sz (rd b) →
        ∃ u, (loadVar t ⟨B, o + i * sz + j, none⟩).run P w = .ok u w ∧ RV w I φ v u := by
      obtain ⟨cs, h1, h2⟩ := elemK_inv h
      obtain ⟨v, h3, h4⟩ := partK_inv h1
      refine ⟨v, h3, fun w φ I B o sz _ hrb => ?_⟩
      obtain ⟨cs', e, hc⟩ := elem_ok hrb (h2 (R' := List AV) some)
      cases e
      obtain ⟨v', u, e', hl, hv⟩ := load_ok (htt t ti hti) hc (h4 (R' := AV) some)
      cases e'
      exact ⟨u, hl, hv⟩
    obtain ⟨v, hkv, hrun⟩ := key
    refine ⟨v, [], [b], hkv, fun rd' ρr w φ I hrd _ hh hx => ?_⟩
    have hp := hx a (by simp [ho, Op.operands])
    rw [ha] at hp
    generalize hu : ρr a = u at hp
    cases hp with
    | ptr _ B ob sz _ _ q hφ hq =>
      have hb := hrd b (by simp)
      have hlive : live (rd' b) = true := by
        rw [hb]
        cases hrb : rd b <;> first | rfl | (rw [hrb] at h; simp [elemK] at h)
      obtain ⟨B', o', sz', e, hrb⟩ := hh.blk b hlive
      rw [hφ] at e; cases e
      rw [hb] at hrb
      obtain ⟨u, hl, hv⟩ := hrun w φ I B ob sz hφ hrb
      refine OpOk.pure hh ?_ hv
      rw [← hq] at hl
      simp [execOp, ho, hu, Instr.loadAt, Instr.sureAddr, hl]
  · rename_i cs j ha
    obtain ⟨v, hkv, hpv⟩ := partK_inv h
    refine Good.pure hkv fun ρr w φ I hx => ?_
    have hp := hx a (by simp [ho, Op.operands])
    rw [ha] at hp
    generalize hu : ρr a = u at hp
    cases hp with
    | tp _ _ B ob q uf hI hq hc h1 hr =>
      have hcells : Cells w I Phi.no B ob cs := fun q c e => ⟨uf q, hc q c e, h1 q c e, hr q c e⟩
      obtain ⟨v', u, e, hl, hv⟩ := load_ok (htt t ti hti) hcells (hpv (R' := AV) some)
      cases e
      refine ⟨u, ?_, hv.mono (fun B hB => ⟨hB, rfl⟩) (fun _ => Nat.le_refl _) (Phi.no_le _)⟩
      rw [← hq] at hl
      simp [execOp, ho, hu, Instr.loadAt, Instr.sureAddr, hl]
  · cases h

end
end Go.AM
