/- How the abstract heap follows the model's: a new block, a write, a block that goes over into another. -/
import Derived.Test.YtnioalecffkedaaAm2
namespace Go.AM

def rdput (rd : Nat → BS) (b : Nat) (x : BS) : Nat → BS := fun b' => if b' = b then x else rd b'
def rdputs (rd : Nat → BS) : Wr → Nat → BS
  | [] => rd
  | (b, x) :: r => rdputs (rdput rd b x) r

@[simp] theorem rdput_same (rd : Nat → BS) (b : Nat) (x : BS) : rdput rd b x b = x := by simp [rdput]
theorem rdput_ne (rd : Nat → BS) {b b' : Nat} (x : BS) (h : b' ≠ b) : rdput rd b x b' = rd b' := by simp [rdput, h]

theorem hget_hput (h : Heap) (b : Nat) (x : BS) (b' : Nat) : hget (hput h b x) b' = rdput (hget h) b x b' := by
  induction b generalizing h b' with
  | zero => cases h <;> cases b' <;> simp [hput, hget, rdput]
  | succ b ih =>
    cases h with
    | nil =>
      cases b' with
      | zero => simp [hput, hget, rdput]
      | succ b' => have := ih [] b'; simp [hput, hget, rdput] at this ⊢; simpa using this
    | cons y h =>
      cases b' with
      | zero => simp [hput, hget, rdput]
      | succ b' => have := ih h b'; simp [hput, hget, rdput] at this ⊢; simpa using this

theorem hget_hputs (h : Heap) (l : Wr) : hget (hputs h l) = rdputs (hget h) l := by
  induction l generalizing h with
  | nil => rfl
  | cons p r ih =>
    obtain ⟨b, x⟩ := p
    show hget (hputs (hput h b x) r) = _
    rw [ih]
    have : hget (hput h b x) = rdput (hget h) b x := funext (hget_hput h b x)
    rw [this]
    rfl

def Phi.set (φ : Phi) (b : Nat) (p : Nat × Nat × Nat) : Phi := fun b' => if b' = b then some p else φ b'
@[simp] theorem Phi.set_same (φ : Phi) (b : Nat) (p : Nat × Nat × Nat) : φ.set b p b = some p := by simp [Phi.set]
theorem Phi.set_ne (φ : Phi) {b b' : Nat} (p : Nat × Nat × Nat) (h : b' ≠ b) : φ.set b p b' = φ b' := by simp [Phi.set, h]
theorem Phi.le_set {φ : Phi} {b : Nat} (h : φ b = none) (p : Nat × Nat × Nat) : Phi.le φ (φ.set b p) := by
  intro b' q e
  by_cases hb : b' = b
  · subst hb; rw [h] at e; cases e
  · rw [Phi.set_ne _ _ hb]; exact e

def World.setBlk (w : World) (B : Nat) (o : Obj) : World := { w with heap := w.heap.setIfInBounds B o }

theorem setBlk_same {w : World} {B : Nat} {o : Obj} (h : B < w.heap.size) : (World.setBlk w B o).heap[B]? = some o := by
  simp [World.setBlk, h]
theorem setBlk_ne {w : World} {B B' : Nat} {o : Obj} (h : B' ≠ B) : (World.setBlk w B o).heap[B']? = w.heap[B']? := by
  simp only [World.setBlk]
  rw [Array.getElem?_setIfInBounds_ne (fun e => h e.symm)]
@[simp] theorem setBlk_size (w : World) (B : Nat) (o : Obj) : (World.setBlk w B o).heap.size = w.heap.size := by simp [World.setBlk]

theorem lt_of_heap {w : World} {B : Nat} {o : Obj} (h : w.heap[B]? = some o) : B < w.heap.size := by
  rcases Nat.lt_or_ge B w.heap.size with h' | h'
  · exact h'
  · rw [Array.getElem?_eq_none h'] at h; cases h

theorem alloc_new (w : World) (o : Obj) : (w.alloc o).heap[w.heap.size]? = some o := by
  show (w.heap.push o)[w.heap.size]? = _
  simp
theorem alloc_old (w : World) (o : Obj) {B : Nat} (h : B < w.heap.size) : (w.alloc o).heap[B]? = w.heap[B]? := by
  show (w.heap.push o)[B]? = _
  rw [Array.getElem?_push, if_neg (by omega)]

theorem Ext.alloc (M : Nat → Prop) (w : World) (o : Obj) : Ext M w (w.alloc o) :=
  ⟨rfl, rfl, rfl, by simp, fun B hB _ => alloc_old w o hB, fun B c e fz h => ⟨c, (alloc_old w o (lt_of_heap h)).trans h, rfl⟩⟩

theorem Ext.drew (M : Nat → Prop) (w : World) : Ext M w w.drew :=
  ⟨rfl, rfl, rfl, Nat.le_refl _, fun _ _ _ => rfl, fun _ c _ _ h => ⟨c, h, rfl⟩⟩

theorem Ext.setBlk {M : Nat → Prop} {w : World} {B : Nat} {c c' : Array Value} {e : TypeId} {fz : Nat × Nat} (h : w.heap[B]? = some (.cells c e fz)) (hs : c'.size = c.size)
    (hM : M B) : Ext M w (World.setBlk w B (.cells c' e fz)) := by
  refine ⟨rfl, rfl, rfl, by simp, fun B' _ hn => setBlk_ne (fun e => hn (e ▸ hM)), fun B' c1 e1 fz1 h1 => ?_⟩
  by_cases hb : B' = B
  · subst hb
    rw [h] at h1
    cases h1
    exact ⟨c', setBlk_same (lt_of_heap h), hs⟩
  · exact ⟨c1, (setBlk_ne hb).trans h1, rfl⟩

/-- the abstract heap behind a change of some of its blocks (those of C) -/
theorem RH.change {w w' : World} {I : Nat → Prop} {φ φ' : Phi} {rd rd' : Nat → BS} (h : RH w I φ rd) (le : Phi.le φ φ') (ext : Ext (Mut φ rd) w w') (C : Nat → Prop)
    (hsame : ∀ b, ¬ C b → rd' b = rd b ∧ φ' b = φ b)
    (hkeep : ∀ b B o sz, ¬ C b → live (rd b) = true → φ b = some (B, o, sz) → w'.heap[B]? = w.heap[B]?)
    (hnew : ∀ b, C b → (rd' b = .none → φ' b = .none) ∧ (live (rd' b) = true → mutable (rd' b) = true ∧ ∃ B o sz, φ' b = some (B, o, sz) ∧ RB w' I φ' B o sz (rd' b) ∧ ¬ I B ∧
      ∀ b', b' ≠ b → mutable (rd' b') = true → ∀ o' sz', φ' b' ≠ some (B, o', sz'))) : RH w' I φ' rd' := by
  have hI : ∀ B, I B → I B ∧ w'.heap[B]? = w.heap[B]? := fun B hB => ⟨hB, ext.keep B (h.lt B hB) fun ⟨b, o, sz, hm, e⟩ => h.disj b B o sz hm e hB⟩
  refine ⟨fun b e => ?_, fun b hl => ?_, fun b b' B o sz o' sz' hm hm' e e' => ?_, fun b B o sz hm e hB => ?_, fun b B o sz hl hm e => ?_, fun B hB => Nat.lt_of_lt_of_le (h.lt B hB) ext.size⟩
  · by_cases hC : C b
    · exact (hnew b hC).1 e
    · obtain ⟨h1, h2⟩ := hsame b hC; rw [h2]; exact h.none b (h1 ▸ e)
  · by_cases hC : C b
    · obtain ⟨_, B, o, sz, e, r, _⟩ := (hnew b hC).2 hl; exact ⟨B, o, sz, e, r⟩
    · obtain ⟨h1, h2⟩ := hsame b hC
      rw [h1] at hl ⊢
      obtain ⟨B, o, sz, e, r⟩ := h.blk b hl
      exact ⟨B, o, sz, by rw [h2]; exact e, r.mono hI ext.csize le (hkeep b B o sz hC hl e)⟩
  · by_cases hC : C b
    · obtain ⟨_, B1, o1, s1, e1, _, _, hd⟩ := (hnew b hC).2 (live_of_mutable hm)
      rw [e1] at e; cases e
      by_cases hb : b' = b
      · exact hb.symm
      · exact absurd e' (hd b' hb hm' _ _)
    · by_cases hC' : C b'
      · obtain ⟨_, B1, o1, s1, e1, _, _, hd⟩ := (hnew b' hC').2 (live_of_mutable hm')
        rw [e1] at e'; cases e'
        by_cases hb : b = b'
        · exact hb
        · exact absurd e (hd b hb hm _ _)
      · obtain ⟨h1, h2⟩ := hsame b hC
        obtain ⟨h3, h4⟩ := hsame b' hC'
        rw [h1] at hm; rw [h3] at hm'; rw [h2] at e; rw [h4] at e'
        exact h.inj b b' B o sz o' sz' hm hm' e e'
  · by_cases hC : C b
    · obtain ⟨_, B1, o1, s1, e1, _, hn, _⟩ := (hnew b hC).2 (live_of_mutable hm)
      rw [e1] at e; cases e; exact hn hB
    · obtain ⟨h1, h2⟩ := hsame b hC
      rw [h1] at hm; rw [h2] at e; exact h.disj b B o sz hm e hB
  · by_cases hC : C b
    · obtain ⟨hm', _⟩ := (hnew b hC).2 hl; rw [hm'] at hm; cases hm
    · obtain ⟨h1, h2⟩ := hsame b hC
      rw [h1] at hm hl; rw [h2] at e; exact h.imm b B o sz hl hm e

/-- a new block -/
theorem RH.alloc {w : World} {I : Nat → Prop} {φ : Phi} {rd : Nat → BS} (h : RH w I φ rd) {nx : Nat} (hn : rd nx = .none) (o : Obj) (x : BS) (sz : Nat)
    (hm : mutable x = true) (hx : RB (w.alloc o) I (φ.set nx (w.heap.size, 0, sz)) w.heap.size 0 sz x) (base : Nat) :
    RH (w.alloc o) I (φ.set nx (w.heap.size, 0, sz)) (rdput rd nx x) ∧ Step base rd φ I w (rdput rd nx x) (φ.set nx (w.heap.size, 0, sz)) I (w.alloc o) ∧ Phi.le φ (φ.set nx (w.heap.size, 0, sz)) := by
  have hφ := h.none nx hn
  have le := Phi.le_set hφ (w.heap.size, 0, sz)
  have hlt : ∀ b B o sz, live (rd b) = true → φ b = some (B, o, sz) → RB w I φ B o sz (rd b) → B < w.heap.size := by
    intro b B o sz hl e r
    cases hx : rd b with
    | arr m s es => rw [hx] at r; obtain ⟨_, ⟨c, t, fz, hc, _⟩, _⟩ := r; exact lt_of_heap hc
    | seq m s n f => rw [hx] at r; obtain ⟨_, ⟨c, t, fz, hc, _⟩, _⟩ := r; exact lt_of_heap hc
    | map m es => rw [hx] at r; obtain ⟨_, _, mes, clock, hc, _⟩ := r; exact lt_of_heap hc
    | iter m es st => rw [hx] at r; obtain ⟨_, _, mm, since, seen, mes, clock, hc, _⟩ := r; exact lt_of_heap hc
    | none => rw [hx] at hl; cases hl
    | dead => rw [hx] at hl; cases hl
  have hlt' : ∀ b B o sz, live (rd b) = true → φ b = some (B, o, sz) → B < w.heap.size := by
    intro b B o sz hl e
    obtain ⟨B', o', sz', e', r⟩ := h.blk b hl
    rw [e] at e'; cases e'
    exact hlt b B o sz hl e r
  refine ⟨h.change le (Ext.alloc _ w o) (· = nx) (fun b hb => ⟨rdput_ne _ _ hb, Phi.set_ne _ _ hb⟩) (fun b B o' sz' _ hl e => alloc_old w o (hlt' b B o' sz' hl e)) ?_,
    ⟨fun b p _ e => le b p e, fun _ hB => hB, fun _ hB => .inl hB, ?_, Ext.alloc _ w o⟩, le⟩
  · rintro b rfl
    refine ⟨(fun e => (by rw [rdput_same] at e; rw [e] at hm; cases hm)), fun _ => ⟨by rw [rdput_same]; exact hm, _, 0, sz, Phi.set_same _ _ _, by rw [rdput_same]; exact hx, fun hI => Nat.lt_irrefl _ (h.lt _ hI), ?_⟩⟩
    intro b' hb hm' o' sz' e
    rw [rdput_ne _ _ hb] at hm'
    rw [Phi.set_ne _ _ hb] at e
    exact Nat.lt_irrefl _ (hlt' b' _ _ _ (live_of_mutable hm') e)
  · rintro B ⟨b, o', sz', hm', e⟩
    by_cases hb : b = nx
    · subst hb; rw [Phi.set_same] at e; cases e; exact .inr (Nat.le_refl _)
    · rw [rdput_ne _ _ hb] at hm'; rw [Phi.set_ne _ _ hb] at e; exact .inl ⟨b, o', sz', hm', e⟩

/-- a write into a block -/
theorem RH.write {w : World} {I : Nat → Prop} {φ : Phi} {rd : Nat → BS} (h : RH w I φ rd) {b B o sz : Nat} (hb : φ b = some (B, o, sz)) (hm : mutable (rd b) = true)
    {c c' : Array Value} {e : TypeId} {fz : Nat × Nat} (hc : w.heap[B]? = some (.cells c e fz)) (hs : c'.size = c.size) (x : BS) (hxm : mutable x = true)
    (hx : RB (World.setBlk w B (.cells c' e fz)) I φ B o sz x) (base : Nat) :
    RH (World.setBlk w B (.cells c' e fz)) I φ (rdput rd b x) ∧ Step base rd φ I w (rdput rd b x) φ I (World.setBlk w B (.cells c' e fz)) := by
  have hM : Mut φ rd B := ⟨b, o, sz, hm, hb⟩
  have ext := Ext.setBlk (M := Mut φ rd) hc hs hM
  refine ⟨h.change (Phi.le_refl _) ext (· = b) (fun b' hb' => ⟨rdput_ne _ _ hb', rfl⟩) ?_ ?_, ⟨fun _ _ _ e => e, fun _ hB => hB, fun _ hB => .inl hB, ?_, ext⟩⟩
  · intro b' B' o' sz' hne hl e'
    refine setBlk_ne fun hB => ?_
    subst hB
    cases hmm : mutable (rd b') with
    | true => exact hne (h.inj b' b _ _ _ _ _ hmm hm e' hb)
    | false => exact h.disj b _ _ _ hm hb (h.imm b' _ _ _ hl hmm e')
  · rintro b' rfl
    refine ⟨(fun e' => (by rw [rdput_same] at e'; rw [e'] at hxm; cases hxm)), fun _ => ⟨by rw [rdput_same]; exact hxm, B, o, sz, hb, by rw [rdput_same]; exact hx, h.disj _ _ _ _ hm hb, ?_⟩⟩
    intro b'' hne hm'' o' sz' e'
    rw [rdput_ne _ _ hne] at hm''
    exact hne (h.inj _ _ _ _ _ _ _ hm'' hm e' hb)
  · rintro B' ⟨b', o', sz', hm', e'⟩
    by_cases hbb : b' = b
    · subst hbb; rw [hb] at e'; cases e'; exact .inl hM
    · rw [rdput_ne _ _ hbb] at hm'; exact .inl ⟨b', o', sz', hm', e'⟩

/-- a block ends, and goes over into a new one that lies in its place -/
theorem RH.move {w : World} {I : Nat → Prop} {φ : Phi} {rd : Nat → BS} (h : RH w I φ rd) {b nx B o sz : Nat} (hb : φ b = some (B, o, sz)) (hm : mutable (rd b) = true) (hn : rd nx = .none)
    {c c' : Array Value} {e : TypeId} {fz : Nat × Nat} (hc : w.heap[B]? = some (.cells c e fz)) (hs : c'.size = c.size) (x : BS) (o' : Nat) (hxm : mutable x = true)
    (hx : RB (World.setBlk w B (.cells c' e fz)) I (φ.set nx (B, o', sz)) B o' sz x) (base : Nat) :
    RH (World.setBlk w B (.cells c' e fz)) I (φ.set nx (B, o', sz)) (rdput (rdput rd b .dead) nx x) ∧
      Step base rd φ I w (rdput (rdput rd b .dead) nx x) (φ.set nx (B, o', sz)) I (World.setBlk w B (.cells c' e fz)) ∧ Phi.le φ (φ.set nx (B, o', sz)) := by
  have hM : Mut φ rd B := ⟨b, o, sz, hm, hb⟩
  have ext := Ext.setBlk (M := Mut φ rd) hc hs hM
  have le := Phi.le_set (h.none nx hn) (B, o', sz)
  have hbn : b ≠ nx := by rintro rfl; rw [hn] at hm; cases hm
  refine ⟨h.change le ext (fun b' => b' = b ∨ b' = nx) (fun b' hb' => ⟨by rw [rdput_ne _ _ (fun e => hb' (.inr e)), rdput_ne _ _ (fun e => hb' (.inl e))], Phi.set_ne _ _ (fun e => hb' (.inr e))⟩) ?_ ?_,
    ⟨fun b' p _ e' => le b' p e', fun _ hB => hB, fun _ hB => .inl hB, ?_, ext⟩, le⟩
  · intro b' B' o'' sz' hne hl e'
    refine setBlk_ne fun hB => ?_
    subst hB
    cases hmm : mutable (rd b') with
    | true => exact hne (.inl (h.inj b' b _ _ _ _ _ hmm hm e' hb))
    | false => exact h.disj b _ _ _ hm hb (h.imm b' _ _ _ hl hmm e')
  · intro b' hb'
    by_cases hx' : b' = nx
    · subst hx'
      refine ⟨(fun e' => (by rw [rdput_same] at e'; rw [e'] at hxm; cases hxm)), fun _ => ⟨by rw [rdput_same]; exact hxm, B, o', sz, Phi.set_same _ _ _, by rw [rdput_same]; exact hx, h.disj _ _ _ _ hm hb, ?_⟩⟩
      intro b'' hne hm'' o'' sz' e'
      rw [rdput_ne _ _ hne] at hm''
      rw [Phi.set_ne _ _ hne] at e'
      by_cases h2 : b'' = b
      · subst h2; rw [rdput_same] at hm''; cases hm''
      · rw [rdput_ne _ _ h2] at hm''
        exact h2 (h.inj _ _ _ _ _ _ _ hm'' hm e' hb)
    · have h3 : b' = b := hb'.resolve_right hx'
      subst h3
      rw [rdput_ne _ _ hx', rdput_same]
      exact ⟨(fun e' => (by cases e')), (fun e' => (by cases e'))⟩
  · rintro B' ⟨b', o'', sz', hm', e'⟩
    by_cases hx' : b' = nx
    · subst hx'; rw [Phi.set_same] at e'; cases e'; exact .inl hM
    · rw [rdput_ne _ _ hx'] at hm'
      rw [Phi.set_ne _ _ hx'] at e'
      by_cases h2 : b' = b
      · subst h2; rw [rdput_same] at hm'; cases hm'
      · rw [rdput_ne _ _ h2] at hm'; exact .inl ⟨b', o'', sz', hm', e'⟩

/-- a block ends -/
theorem RH.kill {w : World} {I : Nat → Prop} {φ : Phi} {rd : Nat → BS} (h : RH w I φ rd) (b : Nat) (hb : live (rd b) = true) (base : Nat) :
    RH w I φ (rdput rd b .dead) ∧ Step base rd φ I w (rdput rd b .dead) φ I w := by
  refine ⟨h.change (Phi.le_refl _) (Ext.refl _ _) (· = b) (fun b' hb' => ⟨rdput_ne _ _ hb', rfl⟩) (fun _ _ _ _ _ _ _ => rfl) ?_, ⟨fun _ _ _ e => e, fun _ hB => hB, fun _ hB => .inl hB, ?_, Ext.refl _ _⟩⟩
  · rintro b' rfl
    rw [rdput_same]
    exact ⟨(fun e' => (by cases e')), (fun e' => (by cases e'))⟩
  · rintro B' ⟨b', o', sz', hm', e'⟩
    by_cases hbb : b' = b
    · subst hbb; rw [rdput_same] at hm'; cases hm'
    · rw [rdput_ne _ _ hbb] at hm'; exact .inl ⟨b', o', sz', hm', e'⟩

/-- a draw -/
theorem RH.drew {w : World} {I : Nat → Prop} {φ : Phi} {rd : Nat → BS} (h : RH w I φ rd) (base : Nat) : RH w.drew I φ rd ∧ Step base rd φ I w rd φ I w.drew :=
  ⟨h.change (Phi.le_refl _) (Ext.drew _ w) (fun _ => False) (fun _ _ => ⟨rfl, rfl⟩) (fun _ _ _ _ _ _ _ => rfl) (fun _ hf => hf.elim),
    ⟨fun _ _ _ e => e, fun _ hB => hB, fun _ hB => .inl hB, fun _ hB => .inl hB, Ext.drew _ w⟩⟩

/-! ### cells written one behind the other -/

def splice (c : Array Value) (k : Nat) : List Value → Array Value
  | [] => c
  | v :: r => splice (c.setIfInBounds k v) (k + 1) r

@[simp] theorem splice_size (vs : List Value) : ∀ (c : Array Value) (k : Nat), (splice c k vs).size = c.size := by
  induction vs with
  | nil => intro c k; rfl
  | cons v r ih => intro c k; rw [splice, ih]; simp

theorem splice_get (vs : List Value) : ∀ (c : Array Value) (k q : Nat), k + vs.length ≤ c.size →
    (splice c k vs)[q]? = if k ≤ q ∧ q < k + vs.length then vs[q - k]? else c[q]? := by
  induction vs with
  | nil => intro c k q h; rw [splice, if_neg (by intro hh; simp at hh; omega)]
  | cons v r ih =>
    intro c k q h
    simp only [List.length_cons] at h ⊢
    rw [splice, ih _ _ _ (by simp; omega)]
    by_cases h1 : k + 1 ≤ q ∧ q < k + 1 + r.length
    · rw [if_pos h1, if_pos (by omega)]
      have : q - k = (q - (k + 1)) + 1 := by omega
      rw [this]; simp
    · rw [if_neg h1]
      by_cases h2 : q = k
      · subst h2
        rw [if_pos (by omega)]
        simp [show q < c.size by omega]
      · rw [if_neg (by omega), Array.getElem?_setIfInBounds_ne (fun e => h2 e.symm)]

theorem cell_of {w : World} {B q : Nat} {c : Array Value} {e : TypeId} {fz : Nat × Nat} (h : w.heap[B]? = some (.cells c e fz)) : w.cell? ⟨B, q, none⟩ = c[q]? := by
  simp [World.cell?, h]

theorem frozen_of {w : World} {B q : Nat} {c : Array Value} {e : TypeId} {fz : Nat × Nat} (h : w.heap[B]? = some (.cells c e fz)) (ht : thawed c fz) (hq : q < c.size) :
    w.frozen? ⟨B, q, none⟩ = false := by
  have := ht q hq
  simp only [World.frozen?, h]
  simpa using this

theorem add_none (B o n : Nat) : (⟨B, o, none⟩ : Addr).add n = ⟨B, o + n, none⟩ := by
  unfold Addr.add
  split
  · rename_i h; subst h; rfl
  · rfl

theorem run_storeCells {P : Program} {B o : Nat} {e : TypeId} {fz : Nat × Nat} : ∀ (vs : List Value) (i : Nat) (c : Array Value) (w : World), w.heap[B]? = some (.cells c e fz) →
    o + i + vs.length ≤ c.size → thawed c fz → (∀ v ∈ vs, v.oneCell' = true) →
    (storeCells ⟨B, o, none⟩ vs i).run P w = .ok () (World.setBlk w B (.cells (splice c (o + i) vs) e fz))
  | [], i, c, w, h, _, _, _ => by
    simp only [storeCells, Sem.run_pure, splice]
    congr 1
    cases w
    simp only [World.setBlk, World.mk.injEq, and_true]
    apply Array.ext_getElem?
    intro j
    by_cases hj : j = B
    · subst hj; rw [Array.getElem?_setIfInBounds_self_of_lt (lt_of_heap h)]; exact h
    · rw [Array.getElem?_setIfInBounds_ne (fun e => hj e.symm)]
  | v :: r, i, c, w, h, hl, ht, h1 => by
    simp only [List.length_cons] at hl
    have hq : o + i < c.size := by omega
    have hv := h1 v (by simp)
    have hset : w.setCell ⟨B, o + i, none⟩ v = World.setBlk w B (.cells (c.setIfInBounds (o + i) v) e fz) := by
      have hB := lt_of_heap h
      cases w
      simp only [World.setCell, World.setBlk, World.mk.injEq, and_true]
      apply Array.ext_getElem?
      intro j
      by_cases hj : j = B
      · subst hj
        rw [Array.getElem?_setIfInBounds_self_of_lt hB, Array.getElem?_modify, if_pos rfl, h]
        simp
      · rw [Array.getElem?_setIfInBounds_ne (fun e => hj e.symm), Array.getElem?_modify, if_neg (fun e => hj e.symm)]
    have hst : (store ((⟨B, o, none⟩ : Addr).add i) v).run P w = .ok () (World.setBlk w B (.cells (c.setIfInBounds (o + i) v) e fz)) := by
      rw [run_store P w _ v _ hv, add_none, cell_of h, Array.getElem?_eq_getElem hq]
      simp only [frozen_of h ht hq]
      rw [← hset]
      rfl
    have ih := run_storeCells (P := P) (o := o) r (i + 1) (c.setIfInBounds (o + i) v) (World.setBlk w B (.cells (c.setIfInBounds (o + i) v) e fz)) (setBlk_same (lt_of_heap h))
      (by simp; omega) (fun k hk => ht k (by simpa using hk)) (fun u hu => h1 u (by simp [hu]))
    simp only [storeCells, Sem.run_bind, hst, Result.andThen_ok, ih]
    congr 1
    simp only [World.setBlk, splice, Array.setIfInBounds_setIfInBounds]
    rfl

theorem run_loadCells_of {P : Program} {w : World} {B o n : Nat} (vs : List Value) (hn : vs.length = n) (h : ∀ (j : Nat) v, vs[j]? = some v → w.cell? ⟨B, o + j, none⟩ = some v) :
    (loadCells ⟨B, o, none⟩ n).run P w = .ok vs.toArray w := by
  subst hn
  exact run_loadCells_list w _ vs fun j v e => by rw [add_none]; exact h j v e

end Go.AM
