/- Every operation. -/
import Derived.Test.YtnioalecffkedaaAm21
set_option linter.unusedVariables false
set_option linter.unusedSimpArgs false
namespace Go.AM

theorem hput_length (h : Heap) (b : Nat) (x : BS) : h.length ≤ (hput h b x).length := by
  induction b generalizing h with
  | zero => cases h <;> simp [hput]
  | succ b ih => cases h with
    | nil => simp
    | cons y h => simp only [hput, List.length_cons]; have := ih h; omega

theorem hputs_length (l : Wr) : ∀ h : Heap, h.length ≤ (hputs h l).length := by
  induction l with
  | nil => intro h; exact Nat.le_refl _
  | cons p r ih => intro h; obtain ⟨b, x⟩ := p; exact Nat.le_trans (hput_length h b x) (ih _)

theorem hget_ge {h : Heap} {b : Nat} (hb : h.length ≤ b) : hget h b = .none := by
  simp [hget, List.getD, List.getElem?_eq_none hb]

theorem hget_frozen (h : Heap) (ρ : Nat → Option Nat) (b : Nat) : hget (h.map fun x => frozen (renB ρ x)) b = frozen (renB ρ (hget h b)) := by
  simp only [hget, List.getD, List.getElem?_map]
  cases h[b]? <;> rfl

structure EnvOk (P : Program) (env : Env) : Prop where
  tt : TTok P env.tt
  orc : ∀ f args A, env.orc f args = some A → A.g = true → Contract P f args [] (A.r A.a).1 (A.r A.a).2

variable {R : Type}

theorem insL_some {l : List Nat} {b b' : Nat} (h : insL l b = some b') : b ∈ l ∧ b' = b := by
  unfold insL at h
  cases hm : memb b l with
  | false => rw [hm] at h; cases h
  | true => rw [hm] at h; cases h; exact ⟨(memb_mem b l).1 hm, rfl⟩

theorem keep_length (l : List Nat) : ∀ (hp : Heap) (i : Nat), (keep l i hp).length = hp.length
  | [], i => rfl
  | x :: r, i => by simp [keep, keep_length l r (i + 1)]

theorem hget_keep (l : List Nat) : ∀ (hp : Heap) (i b : Nat), hget (keep l i hp) b = if b < hp.length ∧ i + b ∈ l then renB (insL l) (hget hp b) else .none
  | [], i, b => by simp [keep, hget]
  | x :: r, i, 0 => by
    simp only [keep, hget, List.getD_cons_zero, List.length_cons, Nat.add_zero]
    cases hm : memb i l with
    | true => rw [if_pos ⟨by omega, (memb_mem i l).1 hm⟩]; rfl
    | false => rw [if_neg (fun h => by rw [(memb_mem i l).2 h.2] at hm; cases hm)]; rfl
  | x :: r, i, b + 1 => by
    have := hget_keep l r (i + 1) b
    simp only [hget, keep, List.getD_cons_succ, List.length_cons] at this ⊢
    rw [this, show i + 1 + b = i + (b + 1) by omega]
    by_cases h : b < r.length ∧ i + (b + 1) ∈ l
    · rw [if_pos h, if_pos ⟨by omega, h.2⟩]
    · rw [if_neg h, if_neg (fun h' => h ⟨by omega, h'.2⟩)]

theorem rdputs_map (F : Nat → BS) (b : Nat) : ∀ (l : List Nat) (rd : Nat → BS), rdputs rd (l.map fun b => (b, F b)) b = if b ∈ l then F b else rd b := by
  intro l
  induction l with
  | nil => intro rd; simp [rdputs]
  | cons x r ih =>
    intro rd
    simp only [List.map_cons, rdputs, ih]
    by_cases h : b ∈ r
    · rw [if_pos h, if_pos (List.mem_cons_of_mem _ h)]
    · rw [if_neg h]
      by_cases e : b = x
      · subst e; rw [if_pos (by simp), rdput_same]
      · rw [if_neg (by simp [e, h]), rdput_ne _ _ e]

section
variable {P : Program} {env : Env} {run : CallK R} {hp : Heap} {r : R}

/-- a call on what its arguments lead to -/
theorem keep_ok {f : Nat} {args : List AV} {ids : List Nat} (hids : ∀ b ∈ ids, b < hp.length) {res : AV} {h' : Heap} (hlen : hp.length ≤ h'.length)
    (hc : Contract P f (renL (insL ids) args) (keep ids 0 hp) res h') {S : List Nat} (hS : ∀ b, b ∈ S ↔ b ∈ ids ∨ (hp.length ≤ b ∧ b < h'.length)) :
    CallSim P f args hp.length (hget hp) (ren (insL S) res) (.wr (S.map fun b => (b, renB (insL S) (hget h' b)))) ids := by
  intro rd' w I φ ra hrd hfit hh hx
  have hfit : ∀ b ∈ S, rd' b = hget hp b := fun b hb => hfit (b, renB (insL S) (hget h' b)) (List.mem_map.2 ⟨b, hb, rfl⟩)
  classical
  let φr : Phi := fun b => if b ∈ ids then φ b else none
  have hφr : ∀ b b', insL ids b = some b' → φr b' = φ b := by
    intro b b' e
    obtain ⟨h1, rfl⟩ := insL_some e
    simp only [φr, if_pos h1]
  have hrR : ∀ b, hget (keep ids 0 hp) b = if b ∈ ids then renB (insL ids) (rd' b) else .none := by
    intro b
    rw [hget_keep, Nat.zero_add]
    by_cases h : b ∈ ids
    · rw [if_pos ⟨hids b h, h⟩, if_pos h, hrd b h]
    · rw [if_neg (fun h' => h h'.2), if_neg h]
  have hx' : RVs w I φr (renL (insL ids) args) ra := by
    refine ⟨by rw [renL_map]; simpa using hx.1, fun k x u e e' => ?_⟩
    obtain ⟨c, e1, rfl⟩ := renL_get e
    exact (hx.2 k c u e1 e').ren hφr
  have hin : ∀ b, live (hget (keep ids 0 hp) b) = true → b ∈ ids ∧ live (rd' b) = true ∧ hget (keep ids 0 hp) b = renB (insL ids) (rd' b) := by
    intro b hl
    rw [hrR] at hl ⊢
    by_cases h : b ∈ ids
    · rw [if_pos h] at hl ⊢; exact ⟨h, (renB_kind _ _).1 hl, rfl⟩
    · rw [if_neg h] at hl; cases hl
  have hinm : ∀ b, mutable (hget (keep ids 0 hp) b) = true → b ∈ ids ∧ mutable (rd' b) = true := by
    intro b hl
    rw [hrR] at hl
    by_cases h : b ∈ ids
    · rw [if_pos h] at hl; exact ⟨h, (renB_kind _ _).2.1 hl⟩
    · rw [if_neg h] at hl; cases hl
  have hφid : ∀ b, b ∈ ids → φr b = φ b := fun b h => by simp only [φr, if_pos h]
  have hhR : RH w I φr (hget (keep ids 0 hp)) := by
    refine ⟨fun b e => ?_, fun b hl => ?_, fun b b' B o sz o' sz' hm hm' e e' => ?_, fun b B o sz hm e => ?_, fun b B o sz hl hm e => ?_, hh.lt⟩
    · by_cases h : b ∈ ids
      · rw [hrR, if_pos h] at e
        rw [hφid b h]
        exact hh.none b ((renB_kind _ _).2.2.1 e)
      · simp only [φr, if_neg h]
    · obtain ⟨h1, h2, h3⟩ := hin b hl
      obtain ⟨B, o, sz, e, r⟩ := hh.blk b h2
      exact ⟨B, o, sz, by rw [hφid b h1]; exact e, by rw [h3]; exact r.ren hφr⟩
    · obtain ⟨h1, h2⟩ := hinm b hm
      obtain ⟨h1', h2'⟩ := hinm b' hm'
      rw [hφid b h1] at e
      rw [hφid b' h1'] at e'
      exact hh.inj b b' B o sz o' sz' h2 h2' e e'
    · obtain ⟨h1, h2⟩ := hinm b hm
      rw [hφid b h1] at e
      exact hh.disj b B o sz h2 e
    · obtain ⟨h1, h2, h3⟩ := hin b hl
      rw [hφid b h1] at e
      refine hh.imm b B o sz h2 ?_ e
      rw [h3] at hm hl
      rw [← (renB_kind _ _).2.2.2 hl]; exact hm
  have hMut : ∀ B, Mut φr (hget (keep ids 0 hp)) B → ∃ b o sz, b ∈ ids ∧ mutable (rd' b) = true ∧ φ b = some (B, o, sz) := by
    rintro B ⟨b, o, sz, hm, e⟩
    obtain ⟨h1, h2⟩ := hinm b hm
    rw [hφid b h1] at e
    exact ⟨b, o, sz, h1, h2, e⟩
  refine (hc w I φr ra hhR hx').mono fun u w' ⟨φ1, I1, a1, a2, a3⟩ => ?_
  let φ2 : Phi := fun b => if b ∈ S then φ1 b else φ b
  have hφ2 : ∀ b b', insL S b = some b' → φ2 b' = φ1 b := by
    intro b b' e
    obtain ⟨h1, rfl⟩ := insL_some e
    simp only [φ2, if_pos h1]
  have hφS : ∀ b, b ∈ S → φ2 b = φ1 b := fun b h => by simp only [φ2, if_pos h]
  have hφN : ∀ b, b ∉ S → φ2 b = φ b := fun b h => by simp only [φ2, if_neg h]
  have hle : Phi.le φ φ2 := by
    intro b p e
    by_cases h : b ∈ S
    · rw [hφS b h]
      rcases (hS b).1 h with h1 | ⟨h1, _⟩
      · exact a3.le b p (by rw [keep_length]; exact hids b h1) (by rw [hφid b h1]; exact e)
      · have := hh.none b ((hfit b h).trans (hget_ge h1))
        rw [e] at this; cases this
    · rw [hφN b h]; exact e
  have hE : ∀ b, (Eff.wr (S.map fun b => (b, renB (insL S) (hget h' b)))).rd rd' b = if b ∈ S then renB (insL S) (hget h' b) else rd' b := fun b => rdputs_map _ b S rd'
  have hsub : ∀ b, b ∈ ids → b ∈ S := fun b h => (hS b).2 (.inl h)
  -- a block outside is not touched
  have hkeep : ∀ b B o sz, b ∉ S → live (rd' b) = true → φ b = some (B, o, sz) → ¬ Mut φr (hget (keep ids 0 hp)) B := by
    intro b B o sz hb hl e hM
    obtain ⟨b1, o1, sz1, h1, h2, e1⟩ := hMut B hM
    cases hm : mutable (rd' b) with
    | true =>
      have := hh.inj b b1 B o sz o1 sz1 hm h2 e e1
      subst this
      exact hb (hsub _ h1)
    | false => exact hh.disj b1 B o1 sz1 h2 e1 (hh.imm b B o sz hl hm e)
  have hIk : ∀ B, I B → I1 B ∧ w'.heap[B]? = w.heap[B]? := fun B hB => ⟨a3.Ile B hB, a3.ext.keep B (hh.lt B hB) fun hM => by
    obtain ⟨b1, o1, sz1, _, h2, e1⟩ := hMut B hM
    exact hh.disj b1 B o1 sz1 h2 e1 hB⟩
  have hlt : ∀ b B o sz, live (rd' b) = true → φ b = some (B, o, sz) → B < w.heap.size := by
    intro b B o sz hl e
    obtain ⟨B', o', sz', e', r⟩ := hh.blk b hl
    rw [e] at e'; cases e'
    exact r.lt hl
  have cross : ∀ b b' B o sz o' sz', b ∈ S → b' ∉ S → mutable (hget h' b) = true → mutable (rd' b') = true → φ1 b = some (B, o, sz) → φ b' = some (B, o', sz') → False := by
    intro b b' B o sz o' sz' hb hb' hm hm' e e'
    rcases a3.mt B ⟨b, o, sz, hm, e⟩ with hM | hge
    · exact hkeep b' B o' sz' hb' (live_of_mutable hm') e' hM
    · have := hlt b' B o' sz' (live_of_mutable hm') e'
      omega
  have hnew : RH w' I1 φ2 ((Eff.wr (S.map fun b => (b, renB (insL S) (hget h' b)))).rd rd') := by
    refine ⟨fun b e => ?_, fun b hl => ?_, fun b b' B o sz o' sz' hm hm' e e' => ?_, fun b B o sz hm e => ?_, fun b B o sz hl hm e => ?_, a2.lt⟩
    · rw [hE] at e
      by_cases h : b ∈ S
      · rw [if_pos h] at e; rw [hφS b h]; exact a2.none b ((renB_kind _ _).2.2.1 e)
      · rw [if_neg h] at e; rw [hφN b h]; exact hh.none b e
    · rw [hE] at hl ⊢
      by_cases h : b ∈ S
      · rw [if_pos h] at hl ⊢
        obtain ⟨B, o, sz, e, r⟩ := a2.blk b ((renB_kind _ _).1 hl)
        exact ⟨B, o, sz, by rw [hφS b h]; exact e, r.ren hφ2⟩
      · rw [if_neg h] at hl ⊢
        obtain ⟨B, o, sz, e, r⟩ := hh.blk b hl
        exact ⟨B, o, sz, by rw [hφN b h]; exact e, r.mono hIk a3.ext.csize hle (a3.ext.keep B (r.lt hl) (hkeep b B o sz h hl e))⟩
    · rw [hE] at hm hm'
      by_cases h : b ∈ S
      · rw [if_pos h] at hm
        rw [hφS b h] at e
        by_cases h' : b' ∈ S
        · rw [if_pos h'] at hm'
          rw [hφS b' h'] at e'
          exact a2.inj b b' B o sz o' sz' ((renB_kind _ _).2.1 hm) ((renB_kind _ _).2.1 hm') e e'
        · rw [if_neg h'] at hm'
          rw [hφN b' h'] at e'
          exact (cross b b' B o sz o' sz' h h' ((renB_kind _ _).2.1 hm) hm' e e').elim
      · rw [if_neg h] at hm
        rw [hφN b h] at e
        by_cases h' : b' ∈ S
        · rw [if_pos h'] at hm'
          rw [hφS b' h'] at e'
          exact (cross b' b B o' sz' o sz h' h ((renB_kind _ _).2.1 hm') hm e' e).elim
        · rw [if_neg h'] at hm'
          rw [hφN b' h'] at e'
          exact hh.inj b b' B o sz o' sz' hm hm' e e'
    · rw [hE] at hm
      by_cases h : b ∈ S
      · rw [if_pos h] at hm
        rw [hφS b h] at e
        exact a2.disj b B o sz ((renB_kind _ _).2.1 hm) e
      · rw [if_neg h] at hm
        rw [hφN b h] at e
        intro hB
        rcases a3.Inew B hB with h1 | h1 | h1
        · exact hh.disj b B o sz hm e h1
        · exact hkeep b B o sz h (live_of_mutable hm) e h1
        · have := hlt b B o sz (live_of_mutable hm) e
          omega
    · rw [hE] at hl hm
      by_cases h : b ∈ S
      · rw [if_pos h] at hl hm
        rw [hφS b h] at e
        exact a2.imm b B o sz ((renB_kind _ _).1 hl) (by rw [← (renB_kind _ _).2.2.2 hl]; exact hm) e
      · rw [if_neg h] at hl hm
        rw [hφN b h] at e
        exact a3.Ile B (hh.imm b B o sz hl hm e)
  have hM1 : ∀ B, Mut φr (hget (keep ids 0 hp)) B → Mut φ rd' B := fun B hM => by
    obtain ⟨b1, o1, sz1, _, h2, e1⟩ := hMut B hM
    exact ⟨b1, o1, sz1, h2, e1⟩
  refine ⟨φ2, I1, a1.ren hφ2, hnew, fun base hb => ⟨fun b p _ e => hle b p e, a3.Ile, fun B hB => (a3.Inew B hB).imp id (fun h => h.imp (hM1 B) id), fun B hB => ?_, a3.ext.weaken hM1⟩, hle⟩
  obtain ⟨b, o, sz, hm, e⟩ := hB
  rw [hE] at hm
  by_cases h : b ∈ S
  · rw [if_pos h] at hm
    rw [hφS b h] at e
    exact (a3.mt B ⟨b, o, sz, (renB_kind _ _).2.1 hm, e⟩).imp (hM1 B) id
  · rw [if_neg h] at hm
    rw [hφN b h] at e
    exact .inl ⟨b, o, sz, hm, e⟩

theorem call_ok (henv : EnvOk P env) (hrun : RunOk P run) {f : Nat} {args : List AV} {k : OperK R} (h : callK env run hp hp.length f args k = some r) :
    ∃ v e rdl, k v e rdl = some r ∧ hp.length ≤ (e.apply hp).length ∧ CallSim P f args hp.length (hget hp) v e rdl := by
  unfold callK at h
  split at h
  · -- on the heap as it is
    obtain ⟨res, hp', h1, h2, hc⟩ := hrun _ _ _ _ _ h
    refine ⟨_, _, _, h1, h2, fun rd' w I φ ra _ hfit hh hx => ?_⟩
    have hfit : rd' = hget hp := hfit
    subst hfit
    refine (hc w I φ ra hh hx).mono fun u w' ⟨φ', I', a1, a2, a3⟩ => ⟨φ', I', a1, a2, fun base hb => a3.mono hb, fun b p e => ?_⟩
    refine a3.le b p ?_ e
    rcases Nat.lt_or_ge b hp.length with hb | hb
    · exact hb
    · rw [hh.none b (hget_ge hb)] at e; cases e
  · -- on a frozen heap
    obtain ⟨res, hp', h1, h2, hc⟩ := hrun _ _ _ _ _ h
    obtain ⟨hcond, h1⟩ := cond_some h1
    obtain ⟨hf, ht⟩ := and_true' hcond
    have ht : hasTree res = false := by simpa using ht
    refine ⟨_, _, _, h1, Nat.le_refl _, fun rd' w I φ ra hrd _ hh hx => ?_⟩
    have hrd : ∀ b, b < hp.length → rd' b = hget hp b := fun b hb => hrd b (by simpa using hb)
    have hbl : ∀ b b', below hp.length b = some b' → b < hp.length ∧ b' = b := by
      intro b b' e
      unfold below at e
      cases hb : Nat.blt b hp.length with
      | false => rw [hb] at e; cases e
      | true => rw [hb] at e; cases e; exact ⟨by simpa [Nat.blt_eq] using hb, rfl⟩
    let φr : Phi := fun b => if b < hp.length then φ b else none
    have hφr : ∀ b b', below hp.length b = some b' → φr b' = φ b := by
      intro b b' e
      obtain ⟨h1, rfl⟩ := hbl b b' e
      simp only [φr, if_pos h1]
    have hx' : RVs w I φr (renL (below hp.length) args) ra := by
      refine ⟨by rw [renL_map]; simpa using hx.1, fun k x u e e' => ?_⟩
      obtain ⟨c, e1, rfl⟩ := renL_get e
      exact (hx.2 k c u e1 e').ren hφr
    generalize hpf : (hp.map fun x => frozen (renB (below hp.length) x)) = hpz at hc
    have hzf : ∀ b, hget hpz b = frozen (renB (below hp.length) (hget hp b)) := fun b => by rw [← hpf]; exact hget_frozen hp _ b
    have hlive : ∀ b, live (hget hpz b) = true → b < hp.length ∧ live (rd' b) = true ∧ hget hpz b = frozen (renB (below hp.length) (rd' b)) := by
      intro b hl
      rw [hzf] at hl ⊢
      rw [(frozen_kind _).1] at hl
      have hl := (renB_kind _ _).1 hl
      have hb : b < hp.length := by
        rcases Nat.lt_or_ge b hp.length with hb | hb
        · exact hb
        · rw [hget_ge hb] at hl; cases hl
      exact ⟨hb, by rw [hrd b hb]; exact hl, by rw [hrd b hb]⟩
    let I3 : Nat → Prop := fun B => I B ∨ ∃ b o sz, live (rd' b) = true ∧ φ b = some (B, o, sz)
    have hI3 : ∀ B, I3 B → B < w.heap.size := by
      rintro B (hB | ⟨b, o, sz, hl, e⟩)
      · exact hh.lt B hB
      · obtain ⟨B', o', sz', e', r⟩ := hh.blk b hl
        rw [e] at e'; cases e'
        exact r.lt hl
    have hmt : ∀ b, mutable (hget hpz b) = false := fun b => by rw [hzf]; exact (frozen_kind _).2.1
    have hh3 : RH w I3 φr (hget hpz) := by
      refine ⟨fun b e => ?_, fun b hl => ?_, fun b b' B o sz o' sz' hm => ?_, fun b B o sz hm => ?_, fun b B o sz hl _ e => ?_, hI3⟩
      · rw [hzf] at e
        have e := (renB_kind _ _).2.2.1 ((frozen_kind _).2.2 e)
        simp only [φr]
        split
        · rename_i hb; exact hh.none b ((hrd b hb).trans e)
        · rfl
      · obtain ⟨hb, hl', he⟩ := hlive b hl
        obtain ⟨B, o, sz, e, r⟩ := hh.blk b hl'
        have r1 := r.mono (w' := w) (I' := I3) (φ' := φ) (fun B hB => ⟨.inl hB, rfl⟩) (fun _ => Nat.le_refl _) (Phi.le_refl _) rfl
        have r2 := r1.ren hφr
        exact ⟨B, o, sz, by simp only [φr, if_pos hb, e], by rw [he]; exact r2.frozen⟩
      · rw [hmt] at hm; cases hm
      · rw [hmt] at hm; cases hm
      · obtain ⟨hb, hl', he⟩ := hlive b hl
        simp only [φr, if_pos hb] at e
        exact .inr ⟨b, o, sz, hl', e⟩
    have hx3 : RVs w I3 φr (renL (below hp.length) args) ra := ⟨hx'.1, fun k x u e e' => (hx'.2 k x u e e').mono (fun B hB => ⟨.inl hB, rfl⟩) (fun _ => Nat.le_refl _) (Phi.le_refl _)⟩
    refine (hc w I3 φr ra hh3 hx3).mono fun u w' ⟨φ', I', a1, a2, a3⟩ => ?_
    have ext : Ext (fun _ => False) w w' := a3.ext.weaken fun B ⟨b, o, sz, hm, _⟩ => by rw [hmt] at hm; cases hm
    have hk : ∀ B, B < w.heap.size → w'.heap[B]? = w.heap[B]? := fun B h => ext.keep B h fun f => f
    refine ⟨φ, I, (a1.free hf).treeless I ht, ?_, fun base hb => ⟨fun _ _ _ e => e, fun _ hB => hB, fun _ hB => .inl hB, fun _ hB => .inl hB, ext.weaken fun _ f => f.elim⟩, Phi.le_refl _⟩
    refine ⟨hh.none, fun b hl => ?_, hh.inj, hh.disj, hh.imm, fun B hB => Nat.lt_of_lt_of_le (hh.lt B hB) ext.size⟩
    obtain ⟨B, o, sz, e, r⟩ := hh.blk b hl
    exact ⟨B, o, sz, e, r.mono (fun B hB => ⟨hB, hk B (hh.lt B hB)⟩) ext.csize (Phi.le_refl _) (hk B (r.lt hl))⟩
  · -- on a part of the heap
    obtain ⟨res, h', h1, h2, hc⟩ := hrun _ _ _ _ _ h
    rw [keep_length] at h2
    refine ⟨_, _, _, h1, hputs_length _ hp, keep_ok (fun b hb => ?_) h2 hc fun b => ?_⟩
    · have := (List.mem_filter.1 hb).2
      simpa [Nat.blt_eq] using this
    · simp only [List.mem_append, List.mem_map, List.mem_range]
      refine or_congr Iff.rfl ⟨fun ⟨i, h1, h2⟩ => by omega, fun h => ⟨b - hp.length, by omega, by omega⟩⟩
  · -- on a heap of its own
    split at h
    · cases h
    · rename_i args' rch hs
      split at h
      · rename_i A ho
        obtain ⟨hg, h⟩ := cond_some h
        obtain ⟨v, l, h1, h2⟩ := own_ok hs (henv.orc _ _ _ ho hg) (fun b => hget_ge) h
        exact ⟨v, .wr l, rch, h1, hputs_length l hp, h2⟩
      · obtain ⟨res, hp', h1, _, hc⟩ := hrun _ _ _ _ _ h
        obtain ⟨v, l, h1, h2⟩ := own_ok hs (hc.renum (reach_ok (hget hp') big (roots res) [] Distinct.nil).1) (fun b => hget_ge) h1
        exact ⟨v, .wr l, rch, h1, hputs_length l hp, h2⟩

/-- what an operation does in a frame -/
def OpSim (P : Program) (o : Oper) (fr : Nat → AV) (len : Nat) (rd : Nat → BS) (v : AV) (e : Eff) (rdl : List Nat) : Prop :=
  ∀ (rd' : Nat → BS) (a : Act) (w : World) (φ : Phi) (I : Nat → Prop), (∀ b ∈ rdl, rd' b = rd b) → e.fits rd rd' → RH w I φ rd' → (∀ x ∈ o.op.operands, RV w I φ (evalO fr x) (a.eval x)) →
    ∀ (K : Act → World → Prop) (Q : Exit → Act → World → Prop), (∀ u w' φ' I', RV w' I' φ' v u → RH w' I' φ' (e.rd rd') → (∀ base, base ≤ len → Step base rd' φ I w (e.rd rd') φ' I' w') → Phi.le φ φ' → K (a.put o.dst u) w') →
      o.wp P a w K Q

theorem Good.opSim {o : Oper} {fr : Nat → AV} {k : OperK R} {len : Nat} {rd : Nat → BS} (h : Good P o (evalO fr) rd (fun v wr rd => k v (.wr wr) rd) r) :
    ∃ v wr rdl, k v (.wr wr) rdl = some r ∧ OpSim P o fr len rd v (.wr wr) rdl := by
  obtain ⟨v, wr, rdl, h1, h2⟩ := h
  refine ⟨v, wr, rdl, h1, fun rd' a w φ I hrd hfit hh hx K Q hK => ?_⟩
  obtain ⟨u, w', φ', I', hrun, hv, hh', hst, hle⟩ := h2 rd' a.eval w φ I hrd hfit hh hx
  have := hK u w' φ' I' hv hh' (fun base _ => hst base) hle
  unfold Oper.wp
  rcases hrun with hrun | ⟨hrun, rfl⟩
  · rw [hrun]; exact this
  · rw [hrun]; exact this

theorem map_get {α β : Type} {f : α → β} {l : List α} {i : Nat} {y : β} (h : (l.map f)[i]? = some y) : ∃ x, l[i]? = some x ∧ y = f x := by
  rw [List.getElem?_map] at h
  cases e : l[i]? with
  | none => rw [e] at h; cases h
  | some x => rw [e] at h; cases h; exact ⟨x, rfl, rfl⟩

theorem RVs.append {w : World} {I : Nat → Prop} {φ : Phi} {l l' : List AV} {a a' : Array Value} (h : RVs w I φ l a) (h' : RVs w I φ l' a') : RVs w I φ (l ++ l') (a ++ a') := by
  refine ⟨by simp [h.1, h'.1], fun k x u e e' => ?_⟩
  rw [List.getElem?_append] at e
  rw [Array.getElem?_append] at e'
  rw [h.1] at e
  split at e
  · rename_i hk; rw [if_pos hk] at e'; exact h.2 k x u e e'
  · rename_i hk; rw [if_neg hk] at e'; exact h'.2 _ x u e e'

theorem oper_ok (henv : EnvOk P env) (hrun : RunOk P run) {fr : Nat → AV} {o : Oper} {k : OperK R} (h : operK env run fr hp hp.length o k = some r) :
    ∃ v e rdl, k v e rdl = some r ∧ hp.length ≤ (e.apply hp).length ∧ OpSim P o fr hp.length (hget hp) v e rdl := by
  have hnx : hget hp hp.length = .none := hget_ge (Nat.le_refl _)
  unfold operK at h
  split at h
  · rename_i c hc
    split at h
    · rename_i b hb
      obtain ⟨v, wr, rdl, h1, h2⟩ := (abuilt_ok henv.tt hnx hc hb h).opSim (len := hp.length)
      exact ⟨v, .wr wr, rdl, h1, hputs_length wr hp, h2⟩
    · cases h
    · rename_i f hf
      split at h
      · rename_i g first cap hfn
        obtain ⟨v, e, rdl, h1, h2, h3⟩ := call_ok henv hrun h
        refine ⟨v, e, rdl, h1, h2, fun rd' a w φ I hrd hfit hh hx K Q hK => ?_⟩
        have hv := hx f (by simp [hc, Op.operands, Call.operands, hf])
        rw [hfn] at hv
        generalize hu : a.eval f = u at hv
        cases hv with
        | fn _ _ _ va vc hla hlc ha hcc =>
          have hxa : RVs w I φ (c.args.toList.map (evalO fr)) (c.args.map a.eval) := by
            refine ⟨by simp, fun i x u e e' => ?_⟩
            obtain ⟨y, e1, rfl⟩ := map_get e
            rw [Array.getElem?_map] at e'
            rw [Array.getElem?_toList] at e1
            rw [e1] at e'
            cases e'
            exact hx y (by simp [hc, Op.operands, Call.operands, hf]; exact .inr (Array.mem_of_getElem? e1))
          have hxs : RVs w I φ (first ++ (c.args.toList.map (evalO fr) ++ cap)) (va ++ c.args.map a.eval ++ vc) := by
            rw [Array.append_assoc]
            exact RVs.append ⟨hla, ha⟩ (hxa.append ⟨hlc, hcc⟩)
          have hans := h3 rd' w I φ _ hrd hfit hh hxs
          have hex : (execOp a.eval o).run P w = (callFunc g (va ++ c.args.map a.eval ++ vc)).run P w := by
            simp [execOp, hc, resolve, hf, hu, Deferred.ofValue, invoke]
          unfold Oper.wp
          rw [hex]
          rcases hans with ⟨e1, e2⟩ | ⟨u, w', e1, φ', I', b1, b2, b3, b4⟩
          · rw [e1, Oper.upon_enter]
            refine Calls.mono e2 fun e w' ⟨u, he, φ', I', b1, b2, b3, b4⟩ => ?_
            subst he
            exact hK u w' φ' I' b1 b2 b3 b4
          · rw [e1, Oper.upon_value]
            exact hK u w' φ' I' b1 b2 b3 b4
      · cases h
  · obtain ⟨v, wr, rdl, h1, h2⟩ := (aop_ok henv.tt hnx h).opSim (len := hp.length)
    exact ⟨v, .wr wr, rdl, h1, hputs_length wr hp, h2⟩

end
end Go.AM
