/- A map asked; all operations that call nothing, together. -/
import Derived.Test.YtnioalecffkedaaAm14b
set_option linter.unusedVariables false
set_option linter.unusedSimpArgs false
namespace Go.AM

variable {R : Type}

section
variable {P : Program} {tt : TT} {ρ : Operand → AV} {rd : Nat → BS} {nx : Nat} {k : AopK R} {r : R} {o : Oper}

theorem tup2 {w : World} {I : Nat → Prop} {φ : Phi} {a b : AV} {u v : Value} (ha : RV w I φ a u) (hb : RV w I φ b v) : RV w I φ (.tup [a, b]) (.tuple #[u, v]) := by
  refine .tup _ _ rfl fun k c x e e' => ?_
  match k with
  | 0 => simp at e e'; subst e; subst e'; exact ha
  | 1 => simp at e e'; subst e; subst e'; exact hb
  | k + 2 => simp at e

theorem aop_lookup (htt : TTok P tt) {t : TypeId} {m key : Operand} {ok : Bool} (ho : o.op = .lookup t m key ok) (h : aopK tt ρ rd nx (.lookup t m key ok) k = some r) : Good P o ρ rd k r := by
  simp only [aopK] at h
  have hm1 : m ∈ o.op.operands := by simp [ho, Op.operands]
  have hm2 : key ∈ o.op.operands := by simp [ho, Op.operands]
  obtain ⟨ti, hti, h⟩ := onK_some h
  split at h
  · rename_i kt et hd
    obtain ⟨tk, htk, h⟩ := onK_some h
    obtain ⟨te, hte, h⟩ := onK_some h
    obtain ⟨zv, hz, h⟩ := onK_some h
    obtain ⟨hkf, h⟩ := cond_some h
    have hfin : ∀ {v : AV} {b : Bool} {l : List Nat}, (bif ok then k (.tup [v, .bool b]) [] l else k v [] l) = some r →
        (∀ (rd' : Nat → BS) (ρr : Operand → Value) (w : World) (φ : Phi) (I : Nat → Prop), (∀ b ∈ l, rd' b = rd b) → RH w I φ rd' → (∀ x ∈ o.op.operands, RV w I φ (ρ x) (ρr x)) →
          ∃ u, (Instr.lookup t (ρr m) (ρr key) ok).run P w = .ok (if ok then .tuple #[u, .bool b] else u) w ∧ RV w I φ v u) → Good P o ρ rd k r := by
      intro v b l hk hrun
      cases ok with
      | true =>
        refine ⟨_, [], l, hk, fun rd' ρr w φ I hrd _ hh hx => ?_⟩
        obtain ⟨u, h1, h2⟩ := hrun rd' ρr w φ I hrd hh hx
        refine OpOk.pure (u := .tuple #[u, .bool b]) hh ?_ (tup2 h2 (.bool b))
        simp only [execOp, ho, Sem.run_bind, h1, Result.andThen_ok, Sem.run_pure]
        rfl
      | false =>
        refine ⟨_, [], l, hk, fun rd' ρr w φ I hrd _ hh hx => ?_⟩
        obtain ⟨u, h1, h2⟩ := hrun rd' ρr w φ I hrd hh hx
        refine OpOk.pure (u := u) hh ?_ h2
        simp only [execOp, ho, Sem.run_bind, h1, Result.andThen_ok, Sem.run_pure]
        rfl
    split at h
    · rename_i b hm
      split at h
      · rename_i mu es hb
        obtain ⟨x, hx, h⟩ := onK_some h
        obtain ⟨y, hy, hyx⟩ := look_idx 0 hx
        have hpre : ∀ (rd' : Nat → BS) (ρr : Operand → Value) (w : World) (φ : Phi) (I : Nat → Prop), rd' b = rd b → RH w I φ rd' → (∀ x ∈ o.op.operands, RV w I φ (ρ x) (ρr x)) →
            ∃ B mes clock, ρr m = .map (some B) ∧ w.heap[B]? = some (.map mes clock) ∧ mes.size = es.length ∧
              (∀ (i : Nat) kv e, es[i]? = some kv → mes[i]? = some e → RV w I φ kv.1 e.key ∧ RV w I φ kv.2 e.val ∧ kv.1.single = true) := by
          intro rd' ρr w φ I hb' hh hx
          have hp := hx m hm1
          rw [hm] at hp
          generalize hu : ρr m = u at hp
          cases hp with
          | mp _ B hφ =>
            obtain ⟨B', o', sz', e, hrb⟩ := hh.blk b (by rw [hb', hb]; rfl)
            rw [hφ] at e; cases e
            rw [hb', hb] at hrb
            obtain ⟨_, _, mes, clock, h1, h2, h3, _⟩ := hrb
            exact ⟨B, mes, clock, rfl, h1, h2, h3⟩
        cases y with
        | none =>
          simp at hyx
          subst hyx
          refine hfin h fun rd' ρr w φ I hrd hh hx => ?_
          obtain ⟨B, mes, clock, hu, hheap, hsz, hrel⟩ := hpre rd' ρr w φ I (hrd b (by simp)) hh hx
          have hk := hx key hm2
          obtain ⟨u, hzu, hrv⟩ := run_zv (htt et te hte) hz w I φ
          rcases find_now hkf hk (mes := mes.toList) (by simpa using hsz) (fun j kv e h1 h2 => hrel j kv e h1 (by simpa using h2)) hy with ⟨_, hf⟩ | ⟨n, v', uv, e, _⟩
          · refine ⟨u, ?_, hrv⟩
            simp only [Instr.lookup, Sem.run_bind, run_underlying (htt t ti hti), hd, Result.andThen_ok, hu, run_getMap hheap, Sem.run_pure, check_key (htt kt tk htk) hkf hk, find_key (htt kt tk htk) hf, hzu]
          · cases e
        | some nv =>
          obtain ⟨n, v'⟩ := nv
          simp at hyx
          subst hyx
          refine hfin h fun rd' ρr w φ I hrd hh hx => ?_
          obtain ⟨B, mes, clock, hu, hheap, hsz, hrel⟩ := hpre rd' ρr w φ I (hrd b (by simp)) hh hx
          have hk := hx key hm2
          rcases find_now hkf hk (mes := mes.toList) (by simpa using hsz) (fun j kv e h1 h2 => hrel j kv e h1 (by simpa using h2)) hy with ⟨e, _⟩ | ⟨n', v'', uv, e, hf, huv⟩
          · cases e
          · cases e
            refine ⟨uv, ?_, huv⟩
            simp only [Instr.lookup, Sem.run_bind, run_underlying (htt t ti hti), hd, Result.andThen_ok, hu, run_getMap hheap, Sem.run_pure, check_key (htt kt tk htk) hkf hk, find_key (htt kt tk htk) hf]
      · cases h
    · rename_i hm
      refine hfin h fun rd' ρr w φ I hrd hh hx => ?_
      have hp := hx m hm1
      rw [hm] at hp
      generalize hu : ρr m = u at hp
      cases hp
      have hk := hx key hm2
      obtain ⟨u, hzu, hrv⟩ := run_zv (htt et te hte) hz w I φ
      refine ⟨u, ?_, hrv⟩
      have hf : Instr.findNow tk.desc (ρr key) (#[] : Array MapEntry).toList 0 = some none := rfl
      simp only [Instr.lookup, Sem.run_bind, run_underlying (htt t ti hti), hd, Result.andThen_ok, hu, Sem.run_pure, check_key (htt kt tk htk) hkf hk, find_key (htt kt tk htk) hf, hzu]
    · cases h
  · cases h

/-- ALL OPERATIONS THAT CALL NOTHING -/
theorem aop_ok (htt : TTok P tt) (hnx : rd nx = .none) (h : aopK tt ρ rd nx o.op k = some r) : Good P o ρ rd k r := by
  cases ho : o.op with
  | move x => rw [ho] at h; exact aop_move (.inl ho) h
  | assign x => rw [ho] at h; exact aop_move (.inr ho) h
  | pick c a b => rw [ho] at h; exact aop_pick ho h
  | alloc t => rw [ho] at h; exact aop_alloc htt hnx ho h
  | box t x => rw [ho] at h; exact aop_box hnx ho h
  | build t ps => rw [ho] at h; exact aop_build htt ho h
  | buildSlice t n ps => rw [ho] at h; exact aop_buildSlice htt hnx ho h
  | insert t m key v => rw [ho] at h; exact aop_mapUpdate (nx := nx) htt (.inl ho) h
  | load t a => rw [ho] at h; exact aop_load htt ho h
  | store t a x => rw [ho] at h; exact aop_store htt ho h
  | nilCheck x => rw [ho] at h; exact aop_nilCheck ho h
  | binOp op t x y t2 => rw [ho] at h; exact aop_binOp htt ho h
  | unOp op t x => rw [ho] at h; exact aop_unOp ho h
  | convert s d x => rw [ho] at h; exact aop_convert htt hnx ho h
  | makeFunc f a c => rw [ho] at h; exact aop_makeFunc ho h
  | makeMap t x => rw [ho] at h; exact aop_makeMap htt hnx ho h
  | makeSlice t l c => rw [ho] at h; exact aop_makeSlice htt hnx ho h
  | slice t x lo hi mx => rw [ho] at h; exact aop_slice htt ho h
  | fieldAddr t x f => rw [ho] at h; exact aop_fieldAddr htt ho h
  | field t x f => rw [ho] at h; exact aop_field htt ho h
  | indexAddr t x i => rw [ho] at h; exact aop_indexAddr htt ho h
  | index t x i => rw [ho] at h; exact aop_index htt ho h
  | lookup t m key ok => rw [ho] at h; exact aop_lookup htt ho h
  | mapUpdate t m key v => rw [ho] at h; exact aop_mapUpdate htt (.inr ho) h
  | extract x i => rw [ho] at h; exact aop_extract ho h
  | range t x => rw [ho] at h; exact aop_range htt hnx ho h
  | next x b => rw [ho] at h; exact aop_next (tt := tt) (nx := nx) ho h
  | entry x => rw [ho] at h; exact aop_entry (tt := tt) (nx := nx) ho h
  | _ => rw [ho] at h; simp [aopK] at h

end
end Go.AM
