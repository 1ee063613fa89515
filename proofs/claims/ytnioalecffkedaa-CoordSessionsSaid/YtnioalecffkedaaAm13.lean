/- Literals; what is made anew. -/
import Derived.Test.YtnioalecffkedaaAm12
import Derived.Laws.MakeOwn
set_option linter.unusedVariables false
set_option linter.unusedSimpArgs false
namespace Go.AM

variable {R : Type}

theorem foldl_zipIdx : ∀ (l : List Value) (i off : Nat) (c : Array Value),
    (l.zipIdx i).foldl (fun (cs : Array Value) (p : Value × Nat) => cs.setIfInBounds (off + p.2) p.1) c = splice c (off + i) l
  | [], i, off, c => rfl
  | v :: r, i, off, c => by
    simp only [List.zipIdx_cons, List.foldl_cons, splice]
    rw [foldl_zipIdx r (i + 1) off]
    rfl

theorem fill_ok {w : World} {I : Nat → Prop} {φ : Phi} {place place' : Nat → Option (Nat × Nat)} (hp : ∀ i p, place i = some p → place' i = some p) :
    ∀ {ps : List (Nat × AV)} {qs : List (Nat × Value)} {cs cs' : List AV} {us : Array Value}, ps.length = qs.length →
      (∀ (n : Nat) p q, ps[n]? = some p → qs[n]? = some q → p.1 = q.1 ∧ RV w I φ p.2 q.2) → RC w I φ cs us → fillL place cs ps = some cs' →
      ∃ us', Instr.fill place' us qs = some us' ∧ RC w I φ cs' us'
  | [], [], cs, cs', us, _, _, hc, h => by cases h; exact ⟨us, rfl, hc⟩
  | [], _ :: _, _, _, _, hl, _, _, _ => by simp at hl
  | _ :: _, [], _, _, _, hl, _, _, _ => by simp at hl
  | (i, v) :: ps, (i', u) :: qs, cs, cs', us, hl, hr, hc, h => by
    obtain ⟨he, hv⟩ := hr 0 _ _ rfl rfl
    simp only at he hv
    subst he
    simp only [fillL] at h
    split at h
    · cases h
    · rename_i off size hpl
      obtain ⟨hcond, h⟩ := cond_some h
      obtain ⟨hst, hcond⟩ := and_true' hcond
      obtain ⟨h1, h2⟩ := and_true' hcond
      have h1 := Nat.eq_of_beq_eq_true h1
      have h2 := Nat.le_of_ble_eq_true h2
      have hvc := hv.cells hst
      have hsz : u.cells.size = size := by have := hvc.1; omega
      have hus : cs.length = us.size := hc.1
      have hnew : RC w I φ (setAt cs off v.cells) (splice us off u.cells.toList) := by
        have hle : off + v.cells.length ≤ cs.length := by omega
        have hle' : off + u.cells.toList.length ≤ us.size := by rw [Array.length_toList]; omega
        refine ⟨?_, ?_, ?_⟩
        · rw [setAt_length hle, splice_size]; exact hc.1
        · intro q x e
          rw [splice_get _ _ _ _ hle'] at e
          split at e
          · exact hvc.2.1 _ x (by simpa using e)
          · exact hc.2.1 _ x e
        · intro q c x ec e
          rw [splice_get _ _ _ _ hle'] at e
          rw [setAt_get hle] at ec
          simp only [Array.length_toList] at e
          have : v.cells.length = u.cells.size := hvc.1
          rw [this] at ec
          split at e
          · rename_i hin; rw [if_pos hin] at ec; exact hvc.2.2 _ c x ec (by simpa using e)
          · rename_i hin; rw [if_neg hin] at ec; exact hc.2.2 _ c x ec e
      obtain ⟨us', h3, h4⟩ := fill_ok hp (by simpa using hl) (fun n p q e e' => hr (n + 1) p q (by simpa using e) (by simpa using e')) hnew h
      refine ⟨us', ?_, h4⟩
      simp only [Instr.fill, hp i _ hpl]
      rw [if_neg (by simp [hsz]; omega)]
      rw [← h3]
      congr 1
      rw [← Array.foldl_toList, Array.toList_zipIdx]
      exact foldl_zipIdx _ 0 off us

section
variable {P : Program} {tt : TT} {ρ : Operand → AV} {rd : Nat → BS} {nx : Nat} {k : AopK R} {r : R} {o : Oper}

theorem run_places (htt : TTok P tt) (w : World) : ∀ (fs : List Field), fs.all (fun f => (tt f.type).isSome) = true →
    ∃ l : List (Nat × Nat), (fs.mapM fun f => (do pure (f.offset, ← sizeOf f.type) : Sem (Nat × Nat))).run P w = .ok l w ∧ l.length = fs.length ∧
      ∀ (i : Nat) f, fs[i]? = some f → ∃ ti, tt f.type = some ti ∧ l[i]? = some (f.offset, ti.size)
  | [], _ => ⟨[], rfl, rfl, fun i f e => by cases e⟩
  | f :: fs, h => by
    simp only [List.all_cons, Bool.and_eq_true] at h
    obtain ⟨ti, hti⟩ := Option.isSome_iff_exists.1 h.1
    obtain ⟨l, h1, h2, h3⟩ := run_places htt w fs h.2
    refine ⟨(f.offset, ti.size) :: l, ?_, by simp [h2], ?_⟩
    · simp only [List.mapM_cons, Sem.run_bind, run_sizeOf (htt f.type ti hti), Result.andThen_ok, Sem.run_pure, h1]
    · intro i g e
      cases i with
      | zero => simp at e; subst e; exact ⟨ti, hti, rfl⟩
      | succ i => obtain ⟨t, a, b⟩ := h3 i g (by simpa using e); exact ⟨t, a, by simpa using b⟩

theorem parts_ok {w : World} {I : Nat → Prop} {φ : Phi} {ρr : Operand → Value} (parts : Array (Nat × Operand)) (hx : ∀ x ∈ (parts.toList.map (·.2)).toArray, RV w I φ (ρ x) (ρr x)) :
    ∀ (n : Nat) (p : Nat × AV) (q : Nat × Value), (parts.toList.map fun (i, x) => (i, ρ x))[n]? = some p → ((parts.map fun (i, x) => (i, ρr x)).toList)[n]? = some q → p.1 = q.1 ∧ RV w I φ p.2 q.2 := by
  intro n p q e e'
  rw [List.getElem?_map] at e
  rw [Array.getElem?_toList, Array.getElem?_map] at e'
  rw [Array.getElem?_toList] at e
  cases hp : parts[n]? with
  | none => rw [hp] at e; cases e
  | some y =>
    rw [hp] at e e'
    cases e; cases e'
    refine ⟨rfl, hx y.2 ?_⟩
    have : y ∈ parts.toList := by simpa using Array.mem_of_getElem? hp
    simp only [List.mem_toArray, List.mem_map]
    exact ⟨y, this, rfl⟩

theorem aop_build (htt : TTok P tt) {t : TypeId} {parts : Array (Nat × Operand)} (ho : o.op = .build t parts) (h : aopK tt ρ rd nx (.build t parts) k = some r) : Good P o ρ rd k r := by
  simp only [aopK] at h
  obtain ⟨ti, hti, h⟩ := onK_some h
  obtain ⟨z, hz, h⟩ := onK_some h
  have hlen : ∀ ρr : Operand → Value, (parts.toList.map fun (x : Nat × Operand) => (x.1, ρ x.2)).length = ((parts.map fun (x : Nat × Operand) => (x.1, ρr x.2)).toList).length := fun ρr => by simp
  split at h
  · rename_i fields hd
    obtain ⟨hall, h⟩ := cond_some h
    obtain ⟨cs, hcs, h⟩ := onK_some h
    refine Good.pure h fun ρr w φ I hx => ?_
    have hx' : ∀ x ∈ (parts.toList.map (·.2)).toArray, RV w I φ (ρ x) (ρr x) := fun x hm => hx x (by simp only [ho, Op.operands]; exact hm)
    obtain ⟨v, hv, hs, hc, hr⟩ := run_zero (htt t ti hti) hz w I φ
    obtain ⟨l, hl1, hl2, hl3⟩ := run_places htt w fields.toList hall
    obtain ⟨us', hf, hrc⟩ := fill_ok (place := structPlace tt fields.toList) (place' := fun i => l.toArray[i]?) (fun i p hp => by
      unfold structPlace at hp
      split at hp
      · rename_i f hfi
        split at hp
        · rename_i tf htf
          cases hp
          obtain ⟨tf', h1, h2⟩ := hl3 i f hfi
          rw [htf] at h1; cases h1
          simpa using h2
        · cases hp
      · cases hp) (hlen ρr) (parts_ok parts hx') hr hcs
    refine ⟨.agg us', ?_, .agg _ _ hrc.1 hrc.2.1 hrc.2.2⟩
    have hm : (fields.mapM fun f => (do pure (f.offset, ← sizeOf f.type) : Sem (Nat × Nat))).run P w = .ok l.toArray w := by
      rw [Array.mapM_eq_mapM_toList]
      simp only [Sem.run_map, hl1, Result.andThen_ok]
    simp only [execOp, ho, Instr.build, Sem.run_bind, hv, run_underlying (htt t ti hti), hd, Result.andThen_ok, hm, hf, Sem.run_pure]
  · rename_i n e hd
    obtain ⟨te, hte, h⟩ := onK_some h
    obtain ⟨cs, hcs, h⟩ := onK_some h
    refine Good.pure h fun ρr w φ I hx => ?_
    have hx' : ∀ x ∈ (parts.toList.map (·.2)).toArray, RV w I φ (ρ x) (ρr x) := fun x hm => hx x (by simp only [ho, Op.operands]; exact hm)
    obtain ⟨v, hv, hs, hc, hr⟩ := run_zero (htt t ti hti) hz w I φ
    obtain ⟨us', hf, hrc⟩ := fill_ok (place := fun i => some (i * te.size, te.size)) (place' := fun i => some (i * te.size, te.size)) (fun i p hp => hp) (hlen ρr) (parts_ok parts hx') hr hcs
    refine ⟨.agg us', ?_, .agg _ _ hrc.1 hrc.2.1 hrc.2.2⟩
    simp only [execOp, ho, Instr.build, Sem.run_bind, hv, run_underlying (htt t ti hti), hd, Result.andThen_ok, run_sizeOf (htt e te hte), hf, Sem.run_pure]
  · cases h

theorem chunks_length (sz : Nat) : ∀ (n : Nat) (cs : List AV), (chunks sz n cs).length = n
  | 0, _ => rfl
  | n + 1, cs => by simp [chunks, chunks_length sz n]

theorem chunks_get (sz : Nat) : ∀ (n : Nat) (cs : List AV) (i : Nat), i < n → (chunks sz n cs)[i]? = some ((cs.drop (i * sz)).take sz)
  | 0, _, i, h => by omega
  | n + 1, cs, 0, _ => by simp [chunks]
  | n + 1, cs, i + 1, h => by
    simp only [chunks, List.getElem?_cons_succ]
    rw [chunks_get sz n _ i (by omega), List.drop_drop]
    congr 3
    rw [Nat.succ_mul]; omega

/-- a new row out of its cells -/
theorem RB.of_chunks {w : World} {I : Nat → Prop} {φ φ' : Phi} {sz n : Nat} {cs : List AV} {vs : Array Value} (hc : RC w I φ cs vs) (hn : cs.length = n * sz) (hlt : ∀ B, I B → B < w.heap.size)
    (le : Phi.le φ φ') (t : TypeId) : RB (w.alloc (.cells vs t)) I φ' w.heap.size 0 sz (.arr true sz (chunks sz n cs)) := by
  have hc' := cells_new hc hlt le t (0, 0)
  have hi : ∀ {i : Nat} {c : List AV}, (chunks sz n cs)[i]? = some c → i < n ∧ c = (cs.drop (i * sz)).take sz := by
    intro i c e
    have hin : i < n := by
      rcases Nat.lt_or_ge i n with h | h
      · exact h
      · rw [List.getElem?_eq_none (by rw [chunks_length]; exact h)] at e; cases e
    rw [chunks_get sz n cs i hin] at e
    cases e
    exact ⟨hin, rfl⟩
  refine ⟨rfl, Row.new w vs t true, fun i c e => ?_, fun i c k x e e' => ?_⟩
  · obtain ⟨h1, rfl⟩ := hi e
    have := Nat.mul_le_mul_right sz (Nat.succ_le_of_lt h1)
    rw [Nat.succ_mul] at this
    simp; omega
  · obtain ⟨h1, rfl⟩ := hi e
    rw [List.getElem?_take] at e'
    split at e'
    · rename_i hk
      rw [List.getElem?_drop] at e'
      have hp := idx_lt h1 hk
      have hlt' : i * sz + k < vs.size := by have := hc.1; omega
      refine ⟨vs[i * sz + k], ?_, hc.2.1 _ _ (Array.getElem?_eq_getElem hlt'), hc'.2.2 _ x _ e' (Array.getElem?_eq_getElem hlt')⟩
      rw [cell_new, Nat.zero_add, Array.getElem?_eq_getElem hlt']
    · cases e'

theorem RC.zeros {w : World} {I : Nat → Prop} {φ : Phi} {z : List AV} {vs : Array Value} (h : RC w I φ z vs) (hz : 1 ≤ z.length) (n : Nat) :
    RC w I φ (zeros z n) ((Array.range (n * vs.size)).map fun i => vs[i % vs.size]!) := by
  have hs : z.length = vs.size := h.1
  have hget : ∀ (q : Nat) u, ((Array.range (n * vs.size)).map fun i => vs[i % vs.size]!)[q]? = some u → q < n * vs.size ∧ vs[q % vs.size]? = some u := by
    intro q u e
    rw [Array.getElem?_map] at e
    have hq : q < n * vs.size := by
      rcases Nat.lt_or_ge q (n * vs.size) with h' | h'
      · exact h'
      · rw [Array.getElem?_eq_none (by simpa using h')] at e; cases e
    rw [Array.getElem?_range, if_pos hq] at e
    have hlt : q % vs.size < vs.size := Nat.mod_lt _ (by omega)
    simp only [Option.map_some, Option.some.injEq] at e
    rw [getElem!_pos vs _ hlt] at e
    exact ⟨hq, by rw [Array.getElem?_eq_getElem hlt, e]⟩
  refine ⟨by simp [AM.zeros, hs], fun q u e => h.2.1 _ u (hget q u e).2, fun q c u ec e => ?_⟩
  obtain ⟨hq, hu⟩ := hget q u e
  unfold AM.zeros at ec
  rw [hs, List.getElem?_map, List.getElem?_range hq] at ec
  simp only [Option.map_some, Option.some.injEq] at ec
  have hlt : q % vs.size < z.length := by rw [hs]; exact Nat.mod_lt _ (by omega)
  have : z[q % vs.size]? = some c := by
    rw [List.getElem?_eq_getElem hlt]
    rw [List.getD, List.getElem?_eq_getElem hlt, Option.getD_some] at ec
    rw [ec]
  exact h.2.2 _ c u this hu

theorem aop_buildSlice (htt : TTok P tt) (hnx : rd nx = .none) {t : TypeId} {n : Nat} {parts : Array (Nat × Operand)} (ho : o.op = .buildSlice t n parts)
    (h : aopK tt ρ rd nx (.buildSlice t n parts) k = some r) : Good P o ρ rd k r := by
  simp only [aopK] at h
  obtain ⟨ti, hti, h⟩ := onK_some h
  have hlen : ∀ ρr : Operand → Value, (parts.toList.map fun (x : Nat × Operand) => (x.1, ρ x.2)).length = ((parts.map fun (x : Nat × Operand) => (x.1, ρr x.2)).toList).length := fun ρr => by simp
  split at h
  · rename_i e hd
    obtain ⟨te, hte, h⟩ := onK_some h
    obtain ⟨z, hz, h⟩ := onK_some h
    obtain ⟨hcond, h⟩ := cond_some h
    obtain ⟨hzl, hcond⟩ := and_true' hcond
    obtain ⟨h1, h2⟩ := and_true' hcond
    have hzl := Nat.eq_of_beq_eq_true hzl
    have h1 := Nat.le_of_ble_eq_true h1
    have h2 := Nat.le_of_ble_eq_true h2
    obtain ⟨cs, hcs, h⟩ := onK_some h
    refine ⟨_, _, _, h, fun rd' ρr w φ I _ hwr hh hx => ?_⟩
    have hn : rd' nx = .none := (hwr _ List.mem_cons_self).trans hnx
    have hx' : ∀ x ∈ (parts.toList.map (·.2)).toArray, RV w I φ (ρ x) (ρr x) := fun x hm => hx x (by simp only [ho, Op.operands]; exact hm)
    obtain ⟨v, hv, hs, hc, hr⟩ := run_zero (htt e te hte) hz w I φ
    have hvs : v.cells.size = te.size := by have := hr.1; omega
    have hz0 := hr.zeros (by omega) n
    obtain ⟨us', hf, hrc⟩ := fill_ok (place := fun i => some (i * te.size, te.size)) (place' := fun i => some (i * te.size, te.size)) (fun i p hp => hp) (hlen ρr) (parts_ok parts hx') hz0 hcs
    have hcl : cs.length = n * te.size := by
      have hfl : ∀ (ps : List (Nat × AV)) (c c' : List AV), fillL (fun i => some (i * te.size, te.size)) c ps = some c' → c'.length = c.length := by
        intro ps
        induction ps with
        | nil => intro c c' e; cases e; rfl
        | cons p ps ih =>
          intro c c' e
          obtain ⟨i, v⟩ := p
          simp only [fillL] at e
          obtain ⟨hq, e⟩ := cond_some e
          obtain ⟨_, hq⟩ := and_true' hq
          obtain ⟨q1, q2⟩ := and_true' hq
          have q1 := Nat.eq_of_beq_eq_true q1
          have q2 := Nat.le_of_ble_eq_true q2
          rw [ih _ _ e, setAt_length (by omega)]
      rw [hfl _ _ _ hcs]
      simp [AM.zeros, hzl]
    have le := Phi.le_set (hh.none nx hn) (w.heap.size, 0, te.size)
    refine OpOk.alloc (u := .slice (some ⟨w.heap.size, 0, none⟩) n n) hh hn (.cells us' e) _ te.size rfl (RB.of_chunks hrc hcl hh.lt le e) ?_ ?_
    · have hm : ¬ (n * te.size > 2 ^ 24) := by
        have : (2 : Nat) ^ 24 = 16777216 := by decide
        omega
      by_cases hn0 : n * te.size = 0
      · have hn00 : n = 0 := by
          rcases Nat.eq_zero_or_pos n with h' | h'
          · exact h'
          · have := Nat.mul_le_mul h' h1; omega
        subst hn00
        have hr0 : Array.range 0 = #[] := rfl
        have hm0 : ¬ (0 > 2 ^ 24) := by decide
        have hf' : Instr.fill (fun i => some (i * te.size, te.size)) (Array.map (fun x => (#[] : Array Value)[x % (#[] : Array Value).size]!) (Array.range 0)) (Array.map (fun x => (x.1, ρr x.2)) parts).toList = some us' := by
          rw [← hf]; simp only [Nat.zero_mul, hr0, Array.map_empty]
        simp only [execOp, ho, Instr.buildSlice, Sem.run_bind, run_underlying (htt t ti hti), hd, Result.andThen_ok, run_sizeOf (htt e te hte), Nat.zero_mul, hm0, if_false, if_true, Sem.run_pure]
        simp only [hf', newRow, Sem.run_bind, run_newObj, Result.andThen_ok, Sem.run_pure]
        rfl
      · simp only [execOp, ho, Instr.buildSlice, Sem.run_bind, run_underlying (htt t ti hti), hd, Result.andThen_ok, run_sizeOf (htt e te hte), hm, if_false, hn0, hv, Sem.run_pure]
        rw [hvs] at hf
        simp only [hvs, hf, newRow, Sem.run_bind, run_newObj, Result.andThen_ok, Sem.run_pure]
        rfl
    · refine .sl te.size nx w.heap.size 0 0 n n n 0 (Phi.set_same _ _ _) (by simp) (Nat.le_refl _) (Nat.le_refl _) ?_
      have : csize (w.alloc (.cells us' e)) w.heap.size = n * te.size := by
        unfold csize
        rw [alloc_new]
        have := hrc.1
        simp; omega
      rw [this]; simp
  · cases h

end
end Go.AM
