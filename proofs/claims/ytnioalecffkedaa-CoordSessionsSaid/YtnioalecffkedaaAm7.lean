/- Addresses; parts of values; functions as values. -/
import Derived.Test.YtnioalecffkedaaAm6
set_option linter.unusedVariables false
set_option linter.unusedSimpArgs false
namespace Go.AM

variable {R : Type}

section
variable {P : Program} {tt : TT} {ρ : Operand → AV} {rd : Nat → BS} {nx : Nat} {k : AopK R} {r : R} {o : Oper}

theorem aop_nilCheck {x : Operand} (ho : o.op = .nilCheck x) (h : aopK tt ρ rd nx (.nilCheck x) k = some r) : Good P o ρ rd k r := by
  simp only [aopK] at h
  have hm : x ∈ o.op.operands := by simp [ho, Op.operands]
  split at h
  · rename_i b i j ha
    refine Good.pure h fun ρr w φ I hx => ?_
    have hp := hx x hm
    rw [ha] at hp
    generalize hu : ρr x = u at hp
    refine ⟨u, ?_, hp⟩
    cases hp
    simp [execOp, ho, hu]
  · rename_i cs j ha
    refine Good.pure h fun ρr w φ I hx => ?_
    have hp := hx x hm
    rw [ha] at hp
    generalize hu : ρr x = u at hp
    refine ⟨u, ?_, hp⟩
    cases hp
    simp [execOp, ho, hu]
  · rename_i f a c ha
    refine Good.pure h fun ρr w φ I hx => ?_
    have hp := hx x hm
    rw [ha] at hp
    generalize hu : ρr x = u at hp
    refine ⟨u, ?_, hp⟩
    cases hp
    simp [execOp, ho, hu]
  · cases h

theorem aop_fieldAddr (htt : TTok P tt) {t : TypeId} {x : Operand} {f : Nat} (ho : o.op = .fieldAddr t x f) (h : aopK tt ρ rd nx (.fieldAddr t x f) k = some r) : Good P o ρ rd k r := by
  simp only [aopK] at h
  have hm : x ∈ o.op.operands := by simp [ho, Op.operands]
  obtain ⟨ti, hti, h⟩ := onK_some h
  split at h
  · rename_i fields hd
    obtain ⟨fd, hfd, h⟩ := onK_some h
    obtain ⟨tf, htf, h⟩ := onK_some h
    obtain ⟨hz, h⟩ := ncond_some h
    have hz : tf.size ≠ 0 := fun e => by rw [e] at hz; cases hz
    have hfd' : fields[f]? = some fd := by simpa using hfd
    have hrun : ∀ (ρr : Operand → Value) (w : World) B q, ρr x = .pointer (some ⟨B, q, none⟩) → (execOp ρr o).run P w = .ok (.value (.pointer (some ⟨B, q + fd.offset, none⟩))) w := by
      intro ρr w B q e
      simp [execOp, ho, Instr.fieldAt, run_underlying (htt t ti hti), hd, hfd', Instr.sureAddr, e, fieldPlace, run_sizeOf (htt fd.type tf htf), hz, add_none]
    split at h
    · rename_i b i j ha
      refine Good.pure h fun ρr w φ I hx => ?_
      have hp := hx x hm
      rw [ha] at hp
      generalize hu : ρr x = u at hp
      cases hp with
      | ptr _ B ob sz _ _ q hφ hq => exact ⟨_, hrun ρr w B q hu, .ptr b B ob sz i (j + fd.offset) _ hφ (by omega)⟩
    · rename_i cs j ha
      refine Good.pure h fun ρr w φ I hx => ?_
      have hp := hx x hm
      rw [ha] at hp
      generalize hu : ρr x = u at hp
      cases hp with
      | tp _ _ B ob q uf hI hq hc h1 hr => exact ⟨_, hrun ρr w B q hu, .tp cs (j + fd.offset) B ob _ uf hI (by omega) hc h1 hr⟩
    · cases h
  · cases h

theorem aop_field (htt : TTok P tt) {t : TypeId} {x : Operand} {f : Nat} (ho : o.op = .field t x f) (h : aopK tt ρ rd nx (.field t x f) k = some r) : Good P o ρ rd k r := by
  simp only [aopK] at h
  have hm : x ∈ o.op.operands := by simp [ho, Op.operands]
  obtain ⟨ti, hti, h⟩ := onK_some h
  split at h
  · rename_i fields cs hd ha
    obtain ⟨fd, hfd, h⟩ := onK_some h
    obtain ⟨tf, htf, h⟩ := onK_some h
    have hfd' : fields[f]? = some fd := by simpa using hfd
    obtain ⟨v, hkv, hpv⟩ := partK_inv h
    refine Good.pure hkv fun ρr w φ I hx => ?_
    have hp := hx x hm
    rw [ha] at hp
    generalize hu : ρr x = u at hp
    cases hp with
    | agg _ vs hl h1 hr =>
      obtain ⟨v', u, e, hrun, hv⟩ := part_ok (htt fd.type tf htf) (w := w) (I := I) (φ := φ) (vs := vs) ⟨hl, h1, hr⟩ (hpv (R' := AV) some)
      cases e
      refine ⟨u, ?_, hv⟩
      simp [execOp, ho, Instr.field, run_underlying (htt t ti hti), hd, hfd', hu, asAgg, hrun]
  · cases h

theorem two_true {a b : Bool} (h : (a && b) = true) : a = true ∧ b = true := and_true' h

theorem in_range {i : Int} {n : Nat} (h : (decide (0 ≤ i) && decide (i < (n : Int))) = true) : 0 ≤ i ∧ i < (n : Int) ∧ i.toNat < n := by
  obtain ⟨h1, h2⟩ := and_true' h
  have h1 := of_decide_eq_true h1
  have h2 := of_decide_eq_true h2
  omega

theorem aop_indexAddr (htt : TTok P tt) {t : TypeId} {x ix : Operand} (ho : o.op = .indexAddr t x ix) (h : aopK tt ρ rd nx (.indexAddr t x ix) k = some r) : Good P o ρ rd k r := by
  simp only [aopK] at h
  have hm : x ∈ o.op.operands := by simp [ho, Op.operands]
  have hmi : ix ∈ o.op.operands := by simp [ho, Op.operands]
  obtain ⟨ti, hti, h⟩ := onK_some h
  split at h
  · rename_i kd i hi
    have hix : ∀ (ρr : Operand → Value) (w : World) (φ : Phi) (I : Nat → Prop), (∀ x ∈ o.op.operands, RV w I φ (ρ x) (ρr x)) → ρr ix = .int kd i := by
      intro ρr w φ I hx
      have hp := hx ix hmi
      rw [hi] at hp
      generalize ρr ix = u at hp
      cases hp
      rfl
    split at h
    · rename_i n e hd
      obtain ⟨te, hte, h⟩ := onK_some h
      obtain ⟨hr, h⟩ := cond_some h
      obtain ⟨h0, h1, _⟩ := in_range hr
      have hrun : ∀ (ρr : Operand → Value) (w : World) B q, ρr ix = .int kd i → ρr x = .pointer (some ⟨B, q, none⟩) →
          (execOp ρr o).run P w = .ok (.value (.pointer (some ⟨B, q + i.toNat * te.size, none⟩))) w := by
        intro ρr w B q e1 e2
        simp [execOp, ho, Instr.indexAt, run_underlying (htt t ti hti), hd, e1, e2, Instr.sureAddr, asIntOf, run_sizeOf (htt e te hte), h0, h1, add_none]
      split at h
      · rename_i b i' j ha
        refine Good.pure h fun ρr w φ I hx => ?_
        have hp := hx x hm
        rw [ha] at hp
        generalize hu : ρr x = u at hp
        cases hp with
        | ptr _ B ob sz _ _ q hφ hq => exact ⟨_, hrun ρr w B q (hix ρr w φ I hx) hu, .ptr b B ob sz i' _ _ hφ (by omega)⟩
      · rename_i cs j ha
        refine Good.pure h fun ρr w φ I hx => ?_
        have hp := hx x hm
        rw [ha] at hp
        generalize hu : ρr x = u at hp
        cases hp with
        | tp _ _ B ob q uf hI hq hc h1 hr => exact ⟨_, hrun ρr w B q (hix ρr w φ I hx) hu, .tp cs _ B ob _ uf hI (by omega) hc h1 hr⟩
      · cases h
    · rename_i e hd
      obtain ⟨te, hte, h⟩ := onK_some h
      have hrun : ∀ (ρr : Operand → Value) (w : World) B q (n cap : Nat), ρr ix = .int kd i → 0 ≤ i → i < (n : Int) → ρr x = .slice (some ⟨B, q, none⟩) n cap →
          (execOp ρr o).run P w = .ok (.value (.pointer (some ⟨B, q + i.toNat * te.size, none⟩))) w := by
        intro ρr w B q n cap e1 h0 h1 e2
        simp [execOp, ho, Instr.indexAt, run_underlying (htt t ti hti), hd, e1, e2, asIntOf, run_sizeOf (htt e te hte), h0, h1, add_none]
      split at h
      · rename_i sz b off len cm ha
        obtain ⟨hr, h⟩ := cond_some h
        obtain ⟨hsz, hr⟩ := and_true' hr
        have hsz := Nat.eq_of_beq_eq_true hsz
        obtain ⟨h0, h1, h2⟩ := in_range hr
        refine Good.pure h fun ρr w φ I hx => ?_
        have hp := hx x hm
        rw [ha] at hp
        generalize hu : ρr x = u at hp
        cases hp with
        | sl _ _ B ob _ _ _ cap q hφ hq hl hc hs =>
          refine ⟨_, hrun ρr w B q len cap (hix ρr w φ I hx) h0 h1 hu, .ptr b B ob sz _ 0 _ hφ ?_⟩
          rw [← hsz, hq, Nat.add_mul]; omega
        | sle => omega
      · rename_i sz es ha
        obtain ⟨hr, h⟩ := cond_some h
        obtain ⟨hsz, h0⟩ := and_true' hr
        have hsz := Nat.eq_of_beq_eq_true hsz
        have h0 := of_decide_eq_true h0
        split at h
        · rename_i cs hcs
          have hlt : i.toNat < es.length := by
            rcases Nat.lt_or_ge i.toNat es.length with h | h
            · exact h
            · rw [List.getElem?_eq_none h] at hcs; cases hcs
          have hget : es.getD i.toNat [] = cs := by simp [List.getD, hcs]
          refine Good.pure h fun ρr w φ I hx => ?_
          have hp := hx x hm
          rw [ha] at hp
          generalize hu : ρr x = u at hp
          cases hp with
          | trl _ _ _ hp hz =>
            generalize hn : es.length = n at hp
            generalize hf : (fun i => es.getD i []) = f at hp
            cases hp with
            | tr _ _ _ B ob cap uf hI hn' hlen hc h1 hr =>
              have hfi : f i.toNat = cs := by rw [← hf]; exact hget
              refine ⟨_, hrun ρr w B ob n cap (hix ρr w φ I hx) h0 (by omega) hu, .tp cs 0 B (ob + i.toNat * sz) _ (uf i.toNat) (hI (by omega)) (by rw [hsz]; omega) ?_ ?_ ?_⟩
              · intro q c e; exact hc i.toNat q c (by omega) (by rw [hfi]; exact e)
              · intro q c e; exact h1 i.toNat q c (by omega) (by rw [hfi]; exact e)
              · intro q c e; exact hr i.toNat q c (by omega) (by rw [hfi]; exact e)
            | trn => omega
        · cases h
      · rename_i sz n f ha
        obtain ⟨hr, h⟩ := cond_some h
        obtain ⟨hsz, hr⟩ := and_true' hr
        have hsz := Nat.eq_of_beq_eq_true hsz
        obtain ⟨h0, h1, h2⟩ := in_range hr
        refine Good.pure h fun ρr w φ I hx => ?_
        have hp := hx x hm
        rw [ha] at hp
        generalize hu : ρr x = u at hp
        cases hp with
        | tr _ _ _ B ob cap uf hI hn' hlen hc hh1 hr =>
          refine ⟨_, hrun ρr w B ob n cap (hix ρr w φ I hx) h0 h1 hu, .tp (f i.toNat) 0 B (ob + i.toNat * sz) _ (uf i.toNat) (hI (by omega)) (by rw [hsz]; omega) ?_ ?_ ?_⟩
          · intro q c e; exact hc i.toNat q c h2 e
          · intro q c e; exact hh1 i.toNat q c h2 e
          · intro q c e; exact hr i.toNat q c h2 e
        | trn => omega
      · cases h
    · cases h
  · cases h

theorem aop_index (htt : TTok P tt) {t : TypeId} {x ix : Operand} (ho : o.op = .index t x ix) (h : aopK tt ρ rd nx (.index t x ix) k = some r) : Good P o ρ rd k r := by
  simp only [aopK] at h
  have hm : x ∈ o.op.operands := by simp [ho, Op.operands]
  have hmi : ix ∈ o.op.operands := by simp [ho, Op.operands]
  obtain ⟨ti, hti, h⟩ := onK_some h
  split at h
  · rename_i kd i hi
    have hix : ∀ (ρr : Operand → Value) (w : World) (φ : Phi) (I : Nat → Prop), (∀ x ∈ o.op.operands, RV w I φ (ρ x) (ρr x)) → ρr ix = .int kd i := by
      intro ρr w φ I hx
      have hp := hx ix hmi
      rw [hi] at hp
      generalize ρr ix = u at hp
      cases hp
      rfl
    split at h
    · rename_i s hd ha
      obtain ⟨hr, h⟩ := cond_some h
      obtain ⟨h0, h1, h2⟩ := in_range hr
      refine Good.pure h fun ρr w φ I hx => ?_
      have hp := hx x hm
      rw [ha] at hp
      generalize hu : ρr x = u at hp
      cases hp with
      | str b _ hb =>
        subst hb
        refine ⟨_, ?_, .int _ _⟩
        have hlt : i.toNat < b.size := by simpa using h2
        have hg : b[i.toNat]? = some b[i.toNat] := by simp [getElem?_def, hlt]
        simp [execOp, ho, Instr.index, hix ρr w φ I hx, asIntOf, run_underlying (htt t ti hti), hd, hu, h0, hg]
        have : b.data[i.toNat]? = some b.data[i.toNat] := Array.getElem?_eq_getElem hlt
        simp [this]
        rfl
    · rename_i n e cs hd ha
      obtain ⟨te, hte, h⟩ := onK_some h
      obtain ⟨hr, h⟩ := cond_some h
      obtain ⟨h0, h1, h2⟩ := in_range hr
      obtain ⟨v, hkv, hpv⟩ := partK_inv h
      refine Good.pure hkv fun ρr w φ I hx => ?_
      have hp := hx x hm
      rw [ha] at hp
      generalize hu : ρr x = u at hp
      cases hp with
      | agg _ vs hl hh1 hr =>
        obtain ⟨v', u, e', hrun, hv⟩ := part_ok (htt e te hte) (w := w) (I := I) (φ := φ) (vs := vs) ⟨hl, hh1, hr⟩ (hpv (R' := AV) some)
        cases e'
        refine ⟨u, ?_, hv⟩
        simp [execOp, ho, Instr.index, hix ρr w φ I hx, asIntOf, run_underlying (htt t ti hti), hd, hu, h0, h1, run_sizeOf (htt e te hte), hrun]
    · cases h
  · cases h

theorem aop_extract {x : Operand} {i : Nat} (ho : o.op = .extract x i) (h : aopK tt ρ rd nx (.extract x i) k = some r) : Good P o ρ rd k r := by
  simp only [aopK] at h
  have hm : x ∈ o.op.operands := by simp [ho, Op.operands]
  split at h
  · rename_i vs ha
    obtain ⟨v, hv, h⟩ := onK_some h
    refine Good.pure h fun ρr w φ I hx => ?_
    have hp := hx x hm
    rw [ha] at hp
    generalize hu : ρr x = u at hp
    cases hp with
    | tup _ us hl hr =>
      have hi : i < us.size := by
        rcases Nat.lt_or_ge i vs.length with h | h
        · omega
        · rw [List.getElem?_eq_none h] at hv; cases hv
      refine ⟨us[i], ?_, hr i v _ hv (Array.getElem?_eq_getElem hi)⟩
      simp [execOp, ho, Instr.extract, hu, hi]
  · cases h

theorem aop_makeFunc {f : Fn} {first cap : Array Operand} (ho : o.op = .makeFunc f first cap) (h : aopK tt ρ rd nx (.makeFunc f first cap) k = some r) : Good P o ρ rd k r := by
  simp only [aopK] at h
  refine Good.pure h fun ρr w φ I hx => ?_
  refine ⟨.func f (first.map ρr) (cap.map ρr), by simp [execOp, ho, Instr.makeFunc], .fn f _ _ _ _ (by simp) (by simp) ?_ ?_⟩
  · intro q x u e e'
    rw [List.getElem?_map] at e
    rw [Array.getElem?_map] at e'
    rw [Array.getElem?_toList] at e
    cases hq : first[q]? with
    | none => rw [hq] at e; cases e
    | some y =>
      rw [hq] at e e'
      cases e; cases e'
      exact hx y (by simp [ho, Op.operands, Array.mem_of_getElem? hq])
  · intro q x u e e'
    rw [List.getElem?_map] at e
    rw [Array.getElem?_map] at e'
    rw [Array.getElem?_toList] at e
    cases hq : cap[q]? with
    | none => rw [hq] at e; cases e
    | some y =>
      rw [hq] at e e'
      cases e; cases e'
      exact hx y (by simp [ho, Op.operands, Array.mem_of_getElem? hq])

end
end Go.AM
