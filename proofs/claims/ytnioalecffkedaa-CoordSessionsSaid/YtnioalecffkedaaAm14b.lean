/- Maps of one entry at most, gone through: in whatever order, the same. -/
import Derived.Test.YtnioalecffkedaaAm14
set_option linter.unusedVariables false
set_option linter.unusedSimpArgs false
namespace Go.AM

variable {R : Type}

/-- a block is not written any more -/
theorem RH.freeze {w : World} {I : Nat → Prop} {φ : Phi} {rd : Nat → BS} (h : RH w I φ rd) {b B o sz : Nat} (hφ : φ b = some (B, o, sz)) (hl : live (rd b) = true) {x : BS}
    (hlx : live x = true) (hmx : mutable x = false) (hx : RB w I φ B o sz x) (hlt : B < w.heap.size) (base : Nat) :
    RH w (fun B' => I B' ∨ B' = B) φ (rdput rd b x) ∧ Step base rd φ I w (rdput rd b x) φ (fun B' => I B' ∨ B' = B) w := by
  have hmono : ∀ {b' B' o' sz'}, RB w I φ B' o' sz' b' → RB w (fun B' => I B' ∨ B' = B) φ B' o' sz' b' := fun r => r.mono (fun B hB => ⟨.inl hB, rfl⟩) (fun _ => Nat.le_refl _) (Phi.le_refl _) rfl
  have hmut : ∀ b', mutable (rdput rd b x b') = true → b' ≠ b ∧ mutable (rd b') = true := by
    intro b' hm
    by_cases e : b' = b
    · subst e; rw [rdput_same, hmx] at hm; cases hm
    · rw [rdput_ne _ _ e] at hm; exact ⟨e, hm⟩
  refine ⟨⟨fun b' e => ?_, fun b' hl' => ?_, fun b1 b2 B' o1 s1 o2 s2 hm hm' e e' => ?_, fun b' B' o' sz' hm e => ?_, fun b' B' o' sz' hl' hm e => ?_, fun B' hB => hB.elim (h.lt B') (fun e => e ▸ hlt)⟩,
    ⟨fun _ _ _ e => e, fun _ hB => .inl hB, fun B' hB => ?_, fun B' hB => ?_, Ext.refl _ _⟩⟩
  · by_cases hb : b' = b
    · subst hb; rw [rdput_same] at e; subst e; cases hlx
    · rw [rdput_ne _ _ hb] at e; exact h.none b' e
  · by_cases hb : b' = b
    · subst hb; exact ⟨B, o, sz, hφ, by rw [rdput_same]; exact hmono hx⟩
    · rw [rdput_ne _ _ hb] at hl' ⊢
      obtain ⟨B', o', sz', e, r⟩ := h.blk b' hl'
      exact ⟨B', o', sz', e, hmono r⟩
  · exact h.inj b1 b2 B' o1 s1 o2 s2 (hmut b1 hm).2 (hmut b2 hm').2 e e'
  · obtain ⟨hne, hm'⟩ := hmut b' hm
    rintro (hB | hB)
    · exact h.disj b' B' o' sz' hm' e hB
    · subst hB
      cases hmb : mutable (rd b) with
      | true => exact hne (h.inj b' b _ _ _ _ _ hm' hmb e hφ)
      | false => exact h.disj b' _ _ _ hm' e (h.imm b _ _ _ hl hmb hφ)
  · by_cases hb : b' = b
    · subst hb; rw [hφ] at e; cases e; exact .inr rfl
    · rw [rdput_ne _ _ hb] at hl' hm; exact .inl (h.imm b' B' o' sz' hl' hm e)
  · rcases hB with hB | hB
    · exact .inl hB
    · subst hB
      cases hmb : mutable (rd b) with
      | true => exact .inr (.inl ⟨b, o, sz, hmb, hφ⟩)
      | false => exact .inl (h.imm b _ _ _ hl hmb hφ)
  · obtain ⟨b', o', sz', hm, e⟩ := hB
    exact .inl ⟨b', o', sz', (hmut b' hm).2, e⟩

/-- an iterator's state turned -/
theorem RH.writeIter {w : World} {I : Nat → Prop} {φ : Phi} {rd : Nat → BS} (h : RH w I φ rd) {b B : Nat} (hb : φ b = some (B, 0, 0)) (hm : mutable (rd b) = true)
    {m : Option Nat} {s c : Nat} {sn : Array Nat} (hc : w.heap[B]? = some (.mapIter m s sn c)) (ob : Obj) (x : BS) (hmx : mutable x = true) (hx : RB (World.setBlk w B ob) I φ B 0 0 x) (base : Nat) :
    RH (World.setBlk w B ob) I φ (rdput rd b x) ∧ Step base rd φ I w (rdput rd b x) φ I (World.setBlk w B ob) := by
  have hM : Mut φ rd B := ⟨b, 0, 0, hm, hb⟩
  have ext : Ext (Mut φ rd) w (World.setBlk w B ob) := by
    refine ⟨rfl, rfl, rfl, by simp, fun B' _ hn => setBlk_ne (fun e => hn (e ▸ hM)), fun B' c1 e1 fz1 h1 => ?_⟩
    by_cases hb : B' = B
    · subst hb; rw [hc] at h1; cases h1
    · exact ⟨c1, (setBlk_ne hb).trans h1, rfl⟩
  refine ⟨h.change (Phi.le_refl _) ext (· = b) (fun b' hb' => ⟨rdput_ne _ _ hb', rfl⟩) ?_ ?_, ⟨fun _ _ _ e => e, fun _ hB => hB, fun _ hB => .inl hB, ?_, ext⟩⟩
  · intro b' B' o' sz' hne hl e'
    refine setBlk_ne fun hB => ?_
    subst hB
    cases hmm : mutable (rd b') with
    | true => exact hne (h.inj b' b _ _ _ _ _ hmm hm e' hb)
    | false => exact h.disj b _ _ _ hm hb (h.imm b' _ _ _ hl hmm e')
  · rintro b' rfl
    refine ⟨(fun e' => (by rw [rdput_same] at e'; rw [e'] at hmx; cases hmx)), fun _ => ⟨by rw [rdput_same]; exact hmx, B, 0, 0, hb, by rw [rdput_same]; exact hx, h.disj _ _ _ _ hm hb, ?_⟩⟩
    intro b'' hne hm'' o' sz' e'
    rw [rdput_ne _ _ hne] at hm''
    exact hne (h.inj _ _ _ _ _ _ _ hm'' hm e' hb)
  · rintro B' ⟨b', o', sz', hm', e'⟩
    by_cases hbb : b' = b
    · subst hbb; rw [hb] at e'; cases e'; exact .inl hM
    · rw [rdput_ne _ _ hbb] at hm'; exact .inl ⟨b', o', sz', hm', e'⟩

section
variable {P : Program} {tt : TT} {ρ : Operand → AV} {rd : Nat → BS} {nx : Nat} {k : AopK R} {r : R} {o : Oper}

theorem aop_range (htt : TTok P tt) (hnx : rd nx = .none) {t : TypeId} {x : Operand} (ho : o.op = .range t x) (h : aopK tt ρ rd nx (.range t x) k = some r) : Good P o ρ rd k r := by
  simp only [aopK] at h
  obtain ⟨ti, hti, h⟩ := onK_some h
  have hm : x ∈ o.op.operands := by simp [ho, Op.operands]
  split at h
  · rename_i kt et b hd hx0
    split at h
    · rename_i mu es hb
      obtain ⟨hc, h⟩ := cond_some h
      obtain ⟨hle, hf⟩ := and_true' hc
      have hle := Nat.le_of_ble_eq_true hle
      refine ⟨_, _, _, h, fun rd' ρr w φ I hrd hwr hh hx => ?_⟩
      have hn : rd' nx = .none := (hwr (nx, _) (.tail _ (.head _))).trans hnx
      have hb' := hrd b (by simp)
      have hne : nx ≠ b := by rintro rfl; rw [hnx] at hb; cases hb
      have hp := hx x hm
      rw [hx0] at hp
      generalize hux : ρr x = u at hp
      cases hp with
      | mp _ B hφ =>
        obtain ⟨B', o', sz', e, hrb⟩ := hh.blk b (by rw [hb', hb]; rfl)
        rw [hφ] at e; cases e
        rw [hb', hb] at hrb
        have hrb2 : RB w I φ B 0 0 (.map false es) := hrb
        obtain ⟨_, _, mes, clock, h1, h2, h3, h4⟩ := hrb
        have hlt := lt_of_heap h1
        have F := fun base => hh.freeze (x := .map false es) hφ (by rw [hb', hb]; rfl) rfl rfl hrb2 hlt base
        have hn2 : rdput rd' b (.map false es) nx = .none := by rw [rdput_ne _ _ hne]; exact hn
        have G := fun base => (F 0).1.alloc hn2 (.mapIter (some B) clock #[] clock) (.iter true es false) 0 rfl (by
          refine ⟨rfl, rfl, B, clock, #[], mes, clock, alloc_new w _, .inr rfl, (alloc_old w _ hlt).trans h1, h2, hle, fun i kv e a b => ?_, fun i e a => ⟨h4 i e a, h4 i e a⟩, rfl⟩
          obtain ⟨g1, g2, _⟩ := h3 i kv e a b
          have hff := List.all_eq_true.1 hf _ (List.mem_of_getElem? a)
          obtain ⟨f1, f2⟩ := and_true' hff
          have mono : ∀ {v : AV} {u : Value}, RV w I Phi.no v u → RV (w.alloc (.mapIter (some B) clock #[] clock)) (fun B' => I B' ∨ B' = B) Phi.no v u := fun hvu =>
            hvu.mono (fun B' hB => ⟨.inl hB, alloc_old w _ (hh.lt B' hB)⟩) (Ext.alloc (fun _ => True) w _).csize (Phi.le_refl _)
          exact ⟨mono (g1.free f1), mono (g2.free f2)⟩) base
        refine ⟨.pointer (some ⟨w.heap.size, 0, none⟩), _, _, _, .inl ?_, .ptr nx w.heap.size 0 0 0 0 0 (Phi.set_same _ _ _) rfl, (G 0).1, fun base => (F base).2.trans (G base).2.1, (G 0).2.2⟩
        simp only [execOp, ho, hux, Instr.range, Sem.run_bind, run_underlying (htt t ti hti), hd, Result.andThen_ok, run_getMap h1, Sem.run_pure]
        rfl
    · cases h
  · cases h

theorem filter_all {α : Type} {l : List α} {p : α → Bool} (h : ∀ x ∈ l, p x = true) : l.filter p = l := List.filter_eq_self.2 h

theorem aop_next {x : Operand} {str : Bool} (ho : o.op = .next x str) (h : aopK tt ρ rd nx (.next x str) k = some r) : Good P o ρ rd k r := by
  simp only [aopK] at h
  have hm : x ∈ o.op.operands := by simp [ho, Op.operands]
  have hover : ∀ (w : World) (I : Nat → Prop) (φ : Phi), RV w I φ (.tup [.bool false]) (.tuple #[.bool false]) := fun w I φ => .tup _ _ rfl fun i c u e e' => by
    cases i with
    | zero => simp at e e'; subst e; subst e'; exact .bool _
    | succ i => simp at e
  split at h
  · rename_i b hx0
    have hopen : ∀ (rd' : Nat → BS) (ρr : Operand → Value) (w : World) (φ : Phi) (I : Nat → Prop) (es : List (AV × AV)) (st : Bool), rd b = .iter true es st → rd' b = rd b → RH w I φ rd' → (∀ x ∈ o.op.operands, RV w I φ (ρ x) (ρr x)) →
        ∃ B mm since seen mes clock, φ b = some (B, 0, 0) ∧ ρr x = .pointer (some ⟨B, 0, none⟩) ∧ w.heap[B]? = some (.mapIter (some mm) since seen clock) ∧ I mm ∧ w.heap[mm]? = some (.map mes clock) ∧ mes.size = es.length ∧ es.length ≤ 1 ∧
      (∀ (i : Nat) kv e, es[i]? = some kv → mes[i]? = some e → RV w I Phi.no kv.1 e.key ∧ RV w I Phi.no kv.2 e.val) ∧ (∀ (i : Nat) e, mes[i]? = some e → e.born < since ∧ e.born < clock) ∧
      seen = (bif st then mes.map (·.born) else #[]) := by
      intro rd' ρr w φ I es st hb hb' hh hx
      obtain ⟨B, oo, sz, e, hrb⟩ := hh.blk b (by rw [hb', hb]; rfl)
      rw [hb', hb] at hrb
      obtain ⟨rfl, rfl, mm, since, seen, mes, clock, h1⟩ := hrb
      have hp := hx x hm
      rw [hx0] at hp
      generalize hux : ρr x = u at hp
      cases hp with
      | ptr _ B' o' sz' _ _ q hφ hq =>
        rw [e] at hφ; cases hφ
        simp at hq
        subst hq
        exact ⟨B, mm, since, seen, mes, clock, e, rfl, h1⟩
    have hone : ∀ {mes : Array MapEntry} {p : AV × AV}, mes.size = [p].length → ∃ e, mes = #[e] := by
      intro mes p hs
      obtain ⟨l⟩ := mes
      match l, hs with
      | [e], _ => exact ⟨e, rfl⟩
    split at h
    · -- nothing
      rename_i st hb
      refine ⟨_, _, _, h, fun rd' ρr w φ I hrd _ hh hx => ?_⟩
      obtain ⟨B, mm, since, seen, mes, clock, e1, e2, e3, e4, e5, e6, e7, e8, e9, e10⟩ := hopen rd' ρr w φ I _ _ hb (hrd b (by simp)) hh hx
      have hmes : mes = #[] := Array.eq_empty_of_size_eq_zero e6
      subst hmes
      refine OpOk.pure hh (u := .tuple #[.bool false]) ?_ (hover _ _ _)
      have hg : (getObj B).run P w = .ok (.mapIter (some mm) since seen clock) w := by simp [getObj, Sem.run, e3]
      simp [execOp, ho, e2, Instr.next, hg, run_getMap e5, Question.forced]
    · -- one, seen
      rename_i p hb
      refine ⟨_, _, _, h, fun rd' ρr w φ I hrd _ hh hx => ?_⟩
      obtain ⟨B, mm, since, seen, mes, clock, e1, e2, e3, e4, e5, e6, e7, e8, e9, e10⟩ := hopen rd' ρr w φ I _ _ hb (hrd b (by simp)) hh hx
      obtain ⟨e, rfl⟩ := hone e6
      obtain ⟨hs, hck⟩ := e9 0 e rfl
      refine OpOk.pure hh (u := .tuple #[.bool false]) ?_ (hover _ _ _)
      have hg : (getObj B).run P w = .ok (.mapIter (some mm) since seen clock) w := by simp [getObj, Sem.run, e3]
      subst e10
      have hck' : ¬ clock ≤ e.born := by omega
      simp [execOp, ho, e2, Instr.next, hg, run_getMap e5, Question.forced, hck']
    · -- one
      rename_i p hb
      refine ⟨_, _, _, h, fun rd' ρr w φ I hrd _ hh hx => ?_⟩
      have hb' := hrd b (by simp)
      obtain ⟨B, mm, since, seen, mes, clock, e1, e2, e3, e4, e5, e6, e7, e8, e9, e10⟩ := hopen rd' ρr w φ I _ _ hb hb' hh hx
      obtain ⟨e, rfl⟩ := hone e6
      obtain ⟨hs, hck⟩ := e9 0 e rfl
      have hg : (getObj B).run P w = .ok (.mapIter (some mm) since seen clock) w := by simp [getObj, Sem.run, e3]
      have hse : seen = #[] := e10
      subst hse
      have hss : ∀ ob, (setObj B ob).run P w = .ok () (World.setBlk w B ob) := fun ob => by simp [setObj, Sem.run, e3, World.setBlk]
      have hmB : mm ≠ B := by rintro rfl; rw [e3] at e5; cases e5
      have hmut : mutable (rd' b) = true := by rw [hb', hb]; rfl
      have hM : Mut φ rd' B := ⟨b, 0, 0, hmut, e1⟩
      have hIk : ∀ B', I B' → I B' ∧ (World.setBlk w B (.mapIter (some mm) since #[e.born] clock)).heap[B']? = w.heap[B']? := fun B' hB => ⟨hB, setBlk_ne fun e => hh.disj b B 0 0 hmut e1 (e ▸ hB)⟩
      have hcs : ∀ B', csize w B' ≤ csize (World.setBlk w B (.mapIter (some mm) since #[e.born] clock)) B' := by
        intro B'
        by_cases hb : B' = B
        · subst hb; unfold csize; rw [e3]; exact Nat.zero_le _
        · unfold csize; rw [setBlk_ne hb]; exact Nat.le_refl _
      obtain ⟨g1, g2⟩ := e8 0 p e rfl rfl
      have g1' := g1.mono hIk hcs (Phi.le_refl _)
      have g2' := g2.mono hIk hcs (Phi.le_refl _)
      have hW := fun base => hh.writeIter e1 hmut e3 (.mapIter (some mm) since #[e.born] clock) (.iter true [p] true) rfl
        ⟨rfl, rfl, mm, since, #[e.born], #[e], clock, setBlk_same (lt_of_heap e3), e4, (setBlk_ne hmB).trans e5, rfl, Nat.le_refl _, fun i kv e' a b => (by
          cases i with
          | zero => simp at a b; subst a; subst b; exact ⟨g1', g2'⟩
          | succ i => simp at a), e9, by simp⟩ base
      refine ⟨.tuple #[.bool true, e.key, e.val], _, φ, I, .inl ?_, .tup _ _ rfl fun i c u ec eu => ?_, (hW 0).1, fun base => (hW base).2, Phi.le_refl _⟩
      · have hss' := hss (.mapIter (some mm) since #[e.born] clock)
        have hns : ¬ since ≤ e.born := by omega
        simp [execOp, ho, e2, Instr.next, hg, run_getMap e5, Question.forced, hs, hns, hss']
      · match i, ec, eu with
        | 0, ec, eu => simp at ec eu; subst ec; subst eu; exact .bool _
        | 1, ec, eu => simp at ec eu; subst ec; subst eu; exact g1'.mono (fun B hB => ⟨hB, rfl⟩) (fun _ => Nat.le_refl _) (Phi.no_le φ)
        | 2, ec, eu => simp at ec eu; subst ec; subst eu; exact g2'.mono (fun B hB => ⟨hB, rfl⟩) (fun _ => Nat.le_refl _) (Phi.no_le φ)
        | i + 3, ec, eu => simp at ec
    · cases h
  · cases h

theorem aop_entry {x : Operand} (ho : o.op = .entry x) (h : aopK tt ρ rd nx (.entry x) k = some r) : Good P o ρ rd k r := by
  simp only [aopK] at h
  have hm : x ∈ o.op.operands := by simp [ho, Op.operands]
  split at h
  · rename_i b hx0
    split at h
    · rename_i mu p hb
      refine ⟨_, _, _, h, fun rd' ρr w φ I hrd _ hh hx => ?_⟩
      have hb' := hrd b (by simp)
      obtain ⟨B, oo, sz, e, hrb⟩ := hh.blk b (by rw [hb', hb]; rfl)
      rw [hb', hb] at hrb
      obtain ⟨rfl, rfl, mm, since, seen, mes, clock, e3, e4, e5, e6, e7, e8, e9, e10⟩ := hrb
      have hp := hx x hm
      rw [hx0] at hp
      generalize hux : ρr x = u at hp
      cases hp with
      | ptr _ B' o' sz' _ _ q hφ hq =>
        rw [e] at hφ; cases hφ
        simp at hq
        subst hq
        obtain ⟨e0, rfl⟩ : ∃ e, mes = #[e] := by
          obtain ⟨l⟩ := mes
          match l, e6 with
          | [e], _ => exact ⟨e, rfl⟩
        obtain ⟨g1, g2⟩ := e8 0 p e0 rfl rfl
        have hg : (getObj B).run P w = .ok (.mapIter (some mm) since seen clock) w := by simp [getObj, Sem.run, e3]
        subst e10
        refine OpOk.pure hh (u := .tuple #[e0.key, e0.val]) ?_ (.tup _ _ rfl fun i c u ec eu => ?_)
        · simp [execOp, ho, hux, Instr.entry, hg, run_getMap e5]
        · match i, ec, eu with
          | 0, ec, eu => simp at ec eu; subst ec; subst eu; exact g1.mono (fun B hB => ⟨hB, rfl⟩) (fun _ => Nat.le_refl _) (Phi.no_le φ)
          | 1, ec, eu => simp at ec eu; subst ec; subst eu; exact g2.mono (fun B hB => ⟨hB, rfl⟩) (fun _ => Nat.le_refl _) (Phi.no_le φ)
          | i + 2, ec, eu => simp at ec
    · cases h
  · cases h

end
end Go.AM
