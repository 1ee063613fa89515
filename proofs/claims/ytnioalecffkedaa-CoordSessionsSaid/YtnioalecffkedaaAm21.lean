/- Calls: the callee's blocks come into the caller's heap. -/
import Derived.Test.YtnioalecffkedaaAm20
import Derived.Calls
set_option linter.unusedVariables false
set_option linter.unusedSimpArgs false
namespace Go.AM

theorem rdputs_append (rd : Nat → BS) : ∀ l l', rdputs rd (l ++ l') = rdputs (rdputs rd l) l'
  | [], l' => rfl
  | (b, x) :: r, l' => by rw [List.cons_append]; exact rdputs_append (rdput rd b x) r l'

theorem rdputs_not (b : Nat) : ∀ (l : Wr) (rd : Nat → BS), (∀ p ∈ l, p.1 ≠ b) → rdputs rd l b = rd b
  | [], rd, _ => rfl
  | (b', x) :: r, rd, h => by
    rw [rdputs, rdputs_not b r _ fun p hp => h p (by simp [hp]), rdput_ne _ _ (fun e => h (b', x) (by simp) e.symm)]

theorem rdputs_frozen (g rd : Nat → BS) (b : Nat) : ∀ (l : List Nat), rdputs rd (l.map fun b => (b, frozen (g b))) b = if b ∈ l then frozen (g b) else rd b := by
  intro l
  induction l generalizing rd with
  | nil => simp [rdputs]
  | cons x r ih =>
    simp only [List.map_cons, rdputs, ih]
    by_cases h1 : b ∈ r
    · simp [h1]
    · simp only [h1, if_false, List.mem_cons]
      by_cases h2 : b = x
      · subst h2; simp
      · rw [rdput_ne _ _ h2]; simp [h2]

theorem rdputs_imports (nx b : Nat) : ∀ (l : List BS) (i : Nat) (rd : Nat → BS), rdputs rd (imports nx i l) b = if nx + i ≤ b ∧ b < nx + i + l.length then l.getD (b - (nx + i)) .none else rd b
  | [], i, rd => by simp [imports, rdputs]; omega
  | x :: r, i, rd => by
    simp only [imports, rdputs, rdputs_imports nx b r (i + 1)]
    by_cases h1 : nx + (i + 1) ≤ b ∧ b < nx + (i + 1) + r.length
    · rw [if_pos h1, if_pos (by simp; omega)]
      have : b - (nx + i) = (b - (nx + (i + 1))) + 1 := by omega
      rw [this]; simp
    · rw [if_neg h1]
      by_cases h2 : b = nx + i
      · subst h2
        rw [rdput_same, if_pos (by simp)]; simp
      · rw [rdput_ne _ _ h2, if_neg (by simp; omega)]

theorem mem_imports {nx : Nat} {p : Nat × BS} : ∀ {l : List BS} {i : Nat}, p ∈ imports nx i l → nx + i ≤ p.1 ∧ p.1 < nx + i + l.length
  | [], i, h => by simp [imports] at h
  | x :: r, i, h => by
    simp only [imports, List.mem_cons] at h
    rcases h with e | h
    · subst e; simp
    · have := mem_imports h
      simp; omega

theorem imports_mem {nx : Nat} : ∀ {l : List BS} {i j : Nat}, j < l.length → ∃ x, (nx + i + j, x) ∈ imports nx i l
  | [], i, j, h => by simp at h
  | x :: r, i, 0, h => ⟨x, by simp [imports]⟩
  | x :: r, i, j + 1, h => by
    obtain ⟨y, hy⟩ := imports_mem (nx := nx) (l := r) (i := i + 1) (j := j) (by simpa using h)
    exact ⟨y, by simp only [imports, List.mem_cons]; right; rw [show nx + i + (j + 1) = nx + (i + 1) + j by omega]; exact hy⟩

theorem frozen_kind (x : BS) : live (frozen x) = live x ∧ mutable (frozen x) = false ∧ (frozen x = .none → x = .none) := by
  cases x <;> simp [frozen, live, mutable]

theorem RB.frozen {w : World} {I : Nat → Prop} {φ : Phi} {B o sz : Nat} {x : BS} (h : RB w I φ B o sz x) : RB w I φ B o sz (frozen x) := by
  cases x with
  | none => trivial
  | dead => trivial
  | arr m s es => exact ⟨h.1, let ⟨c, e, fz, hc, _⟩ := h.2.1; ⟨c, e, fz, hc, fun h => by cases h⟩, h.2.2⟩
  | seq m s n f => exact ⟨h.1, let ⟨c, e, fz, hc, _⟩ := h.2.1; ⟨c, e, fz, hc, fun h => by cases h⟩, h.2.2⟩
  | map m es => exact h
  | iter m es st => exact h

theorem RB.lt {w : World} {I : Nat → Prop} {φ : Phi} {B o sz : Nat} {x : BS} (h : RB w I φ B o sz x) (hl : live x = true) : B < w.heap.size := by
  cases x with
  | arr m s es => obtain ⟨_, ⟨c, e, fz, hc, _⟩, _⟩ := h; exact lt_of_heap hc
  | seq m s n f => obtain ⟨_, ⟨c, e, fz, hc, _⟩, _⟩ := h; exact lt_of_heap hc
  | map m es => obtain ⟨_, _, mes, clock, hc, _⟩ := h; exact lt_of_heap hc
  | iter m es st => obtain ⟨_, _, mm, since, seen, mes, clock, hc, _⟩ := h; exact lt_of_heap hc
  | none => cases hl
  | dead => cases hl

def phiIn (nx n : Nat) (φ φ' : Phi) : Phi := fun b => if nx ≤ b ∧ b < nx + n then φ' (b - nx) else φ b

/-- The caller's heap after a call on a heap of its own. t: the blocks that the call was shown stay as they are -/
theorem RH.merge {w w' : World} {I I2 : Nat → Prop} {φ φ' : Phi} {rd : Nat → BS} {bs : Heap} {nx : Nat} {t : Bool} {rch : List Nat} (hh : RH w I φ rd) (hr : ∀ b ∈ rch, live (rd b) = true)
    (hn : ∀ i, i < bs.length → rd (nx + i) = .none) (ext : Ext (fun _ => False) w w')
    (ha : ∀ B, I B → I2 B) (hb : ∀ B, I2 B → I B ∨ (t = true ∧ InL φ rch B) ∨ w.heap.size ≤ B) (hd : t = true → ∀ B, InL φ rch B → I2 B)
    (hx : RH w' I2 φ' (hget bs)) (hnew : ∀ B, Mut φ' (hget bs) B → w.heap.size ≤ B) (g : Nat → BS) (hg : ∀ b ∈ rch, g b = rd b) :
    ∃ φ2, (∀ b b', shift nx bs.length b = some b' → φ2 b' = φ' b) ∧ Phi.le φ φ2 ∧
      RH w' I2 φ2 (rdputs rd ((bif t then rch.map fun b => (b, frozen (g b)) else []) ++ imports nx 0 (bs.map (renB (shift nx bs.length))))) ∧
      (∀ base, base ≤ nx → Step base rd φ I w (rdputs rd ((bif t then rch.map fun b => (b, frozen (g b)) else []) ++ imports nx 0 (bs.map (renB (shift nx bs.length))))) φ2 I2 w') := by
  have hsz := ext.size
  have hk : ∀ B, B < w.heap.size → w'.heap[B]? = w.heap[B]? := fun B h => ext.keep B h fun f => f
  have hcs := ext.csize
  have hrd : ∀ b, rdputs rd ((bif t then rch.map fun b => (b, frozen (g b)) else []) ++ imports nx 0 (bs.map (renB (shift nx bs.length)))) b =
      if nx ≤ b ∧ b < nx + bs.length then renB (shift nx bs.length) (hget bs (b - nx)) else if t = true ∧ b ∈ rch then frozen (rd b) else rd b := by
    intro b
    rw [rdputs_append, rdputs_imports]
    simp only [Nat.add_zero, List.length_map]
    by_cases h1 : nx ≤ b ∧ b < nx + bs.length
    · rw [if_pos h1, if_pos h1]
      simp only [List.getD, List.getElem?_map, hget]
      have : b - nx < bs.length := by omega
      rw [List.getElem?_eq_getElem this]; rfl
    · rw [if_neg h1, if_neg h1]
      cases t with
      | false => simp [rdputs]
      | true =>
        rw [cond_true, rdputs_frozen]
        by_cases h2 : b ∈ rch
        · simp [h2, hg b h2]
        · simp [h2]
  generalize rdputs rd ((bif t then rch.map fun b => (b, AM.frozen (g b)) else []) ++ imports nx 0 (bs.map (renB (shift nx bs.length)))) = rd2 at hrd ⊢
  have hsh : ∀ b b', shift nx bs.length b = some b' → b < bs.length ∧ b' = nx + b := by
    intro b b' e
    unfold shift at e
    cases h : Nat.blt b bs.length with
    | false => rw [h] at e; cases e
    | true => rw [h, cond_true] at e; cases e; exact ⟨by simpa [Nat.blt_eq] using h, rfl⟩
  have hphi : ∀ b b', shift nx bs.length b = some b' → phiIn nx bs.length φ φ' b' = φ' b := by
    intro b b' e
    obtain ⟨h1, rfl⟩ := hsh b b' e
    unfold phiIn
    rw [if_pos (by omega), Nat.add_sub_cancel_left]
  have hle : Phi.le φ (phiIn nx bs.length φ φ') := by
    intro b p e
    unfold phiIn
    by_cases h1 : nx ≤ b ∧ b < nx + bs.length
    · have := hh.none b (by have := hn (b - nx) (by omega); rwa [show nx + (b - nx) = b by omega] at this)
      rw [this] at e; cases e
    · rw [if_neg h1]; exact e
  have hI : ∀ B, I B → I2 B ∧ w'.heap[B]? = w.heap[B]? := fun B hB => ⟨ha B hB, hk B (hh.lt B hB)⟩
  -- the blocks of the new heap
  have cases2 : ∀ b, live (rd2 b) = true → (∃ i, b = nx + i ∧ i < bs.length ∧ rd2 b = renB (shift nx bs.length) (hget bs i) ∧ live (hget bs i) = true ∧ mutable (rd2 b) = mutable (hget bs i) ∧ phiIn nx bs.length φ φ' b = φ' i) ∨
      (¬ (nx ≤ b ∧ b < nx + bs.length) ∧ live (rd b) = true ∧ (mutable (rd2 b) = true → mutable (rd b) = true ∧ rd2 b = rd b ∧ (t = true → b ∉ rch)) ∧ (rd2 b = rd b ∨ (rd2 b = frozen (rd b) ∧ t = true ∧ b ∈ rch)) ∧ phiIn nx bs.length φ φ' b = φ b) := by
    intro b hl
    have e := hrd b
    by_cases h1 : nx ≤ b ∧ b < nx + bs.length
    · rw [if_pos h1] at e
      rw [e] at hl
      refine .inl ⟨b - nx, by omega, by omega, e, (renB_kind _ _).1 hl, by rw [e]; exact (renB_kind _ _).2.2.2 hl, by unfold phiIn; rw [if_pos h1]⟩
    · rw [if_neg h1] at e
      have hp : phiIn nx bs.length φ φ' b = φ b := by unfold phiIn; rw [if_neg h1]
      by_cases h2 : t = true ∧ b ∈ rch
      · rw [if_pos h2] at e
        rw [e] at hl
        exact .inr ⟨h1, (frozen_kind _).1 ▸ hl, fun hm => (by rw [e, (frozen_kind _).2.1] at hm; cases hm), .inr ⟨e, h2.1, h2.2⟩, hp⟩
      · rw [if_neg h2] at e
        rw [e] at hl
        exact .inr ⟨h1, hl, fun hm => ⟨e ▸ hm, e, fun ht hb => h2 ⟨ht, hb⟩⟩, .inl e, hp⟩
  have hltB : ∀ b B o sz, live (rd b) = true → φ b = some (B, o, sz) → B < w.heap.size := by
    intro b B o sz hl e
    obtain ⟨B', o', sz', e', r⟩ := hh.blk b hl
    rw [e] at e'; cases e'
    exact r.lt hl
  have hmut : ∀ B, Mut (phiIn nx bs.length φ φ') rd2 B → Mut φ rd B ∨ w.heap.size ≤ B := by
    rintro B ⟨b, o, sz, hm, e⟩
    rcases cases2 b (live_of_mutable hm) with ⟨i, h1, h2, h3, h4, h5, h6⟩ | ⟨h1, h2, h3, h4, h5⟩
    · exact .inr (hnew B ⟨i, o, sz, h5 ▸ hm, h6 ▸ e⟩)
    · exact .inl ⟨b, o, sz, (h3 hm).1, h5 ▸ e⟩
  refine ⟨phiIn nx bs.length φ φ', hphi, hle, ⟨fun b e => ?_, fun b hl => ?_, fun b b' B o sz o' sz' hm hm' e e' => ?_, fun b B o sz hm e hB => ?_, fun b B o sz hl hm e => ?_, hx.lt⟩, fun base hbase =>
    ⟨fun b p _ e => hle b p e, ha, fun B hB => ?_, hmut, ext.weaken fun _ f => f.elim⟩⟩
  · have e0 := hrd b
    rw [e] at e0
    by_cases h1 : nx ≤ b ∧ b < nx + bs.length
    · rw [if_pos h1] at e0
      unfold phiIn
      rw [if_pos h1]
      exact hx.none _ ((renB_kind _ _).2.2.1 e0.symm)
    · rw [if_neg h1] at e0
      unfold phiIn
      rw [if_neg h1]
      by_cases h2 : t = true ∧ b ∈ rch
      · rw [if_pos h2] at e0
        exact hh.none b ((frozen_kind _).2.2 e0.symm)
      · rw [if_neg h2] at e0
        exact hh.none b e0.symm
  · rcases cases2 b hl with ⟨i, h1, h2, h3, h4, h5, h6⟩ | ⟨h1, h2, h3, h4, h5⟩
    · obtain ⟨B, o, sz, e, r⟩ := hx.blk i h4
      exact ⟨B, o, sz, h6.trans e, by rw [h3]; exact r.ren hphi⟩
    · obtain ⟨B, o, sz, e, r⟩ := hh.blk b h2
      have r' := r.mono (w' := w') hI hcs hle (hk B (r.lt h2))
      refine ⟨B, o, sz, h5.trans e, ?_⟩
      rcases h4 with h4 | ⟨h4, _⟩
      · rw [h4]; exact r'
      · rw [h4]; exact r'.frozen
  · rcases cases2 b (live_of_mutable hm) with ⟨i, h1, h2, h3, h4, h5, h6⟩ | ⟨h1, h2, h3, h4, h5⟩
    · rcases cases2 b' (live_of_mutable hm') with ⟨i', h1', h2', h3', h4', h5', h6'⟩ | ⟨h1', h2', h3', h4', h5'⟩
      · have := hx.inj i i' B o sz o' sz' (h5 ▸ hm) (h5' ▸ hm') (h6 ▸ e) (h6' ▸ e')
        rw [h1, h1', this]
      · have a1 := hnew B ⟨i, o, sz, h5 ▸ hm, h6 ▸ e⟩
        have a2 := hltB b' B o' sz' h2' (h5' ▸ e')
        omega
    · rcases cases2 b' (live_of_mutable hm') with ⟨i', h1', h2', h3', h4', h5', h6'⟩ | ⟨h1', h2', h3', h4', h5'⟩
      · have a1 := hnew B ⟨i', o', sz', h5' ▸ hm', h6' ▸ e'⟩
        have a2 := hltB b B o sz h2 (h5 ▸ e)
        omega
      · exact hh.inj b b' B o sz o' sz' (h3 hm).1 (h3' hm').1 (h5 ▸ e) (h5' ▸ e')
  · rcases cases2 b (live_of_mutable hm) with ⟨i, h1, h2, h3, h4, h5, h6⟩ | ⟨h1, h2, h3, h4, h5⟩
    · exact hx.disj i B o sz (h5 ▸ hm) (h6 ▸ e) hB
    · have hm0 := (h3 hm).1
      have e0 : φ b = some (B, o, sz) := h5 ▸ e
      rcases hb B hB with hB | ⟨ht, b1, hb1, o1, sz1, e1⟩ | hB
      · exact hh.disj b B o sz hm0 e0 hB
      · cases hm1 : mutable (rd b1) with
        | true =>
          have := hh.inj b b1 B o sz o1 sz1 hm0 hm1 e0 e1
          subst this
          exact (h3 hm).2.2 ht hb1
        | false => exact hh.disj b B o sz hm0 e0 (hh.imm b1 B o1 sz1 (hr b1 hb1) hm1 e1)
      · have := hltB b B o sz h2 e0
        omega
  · rcases cases2 b hl with ⟨i, h1, h2, h3, h4, h5, h6⟩ | ⟨h1, h2, h3, h4, h5⟩
    · exact hx.imm i B o sz h4 (h5 ▸ hm) (h6 ▸ e)
    · have e0 : φ b = some (B, o, sz) := h5 ▸ e
      rcases h4 with h4 | ⟨h4, ht, hbr⟩
      · exact ha B (hh.imm b B o sz h2 (h4 ▸ hm) e0)
      · exact hd ht B ⟨b, hbr, o, sz, e0⟩
  · rcases hb B hB with hB | ⟨ht, b1, hb1, o1, sz1, e1⟩ | hB
    · exact .inl hB
    · cases hm1 : mutable (rd b1) with
      | true => exact .inr (.inl ⟨b1, o1, sz1, hm1, e1⟩)
      | false => exact .inl (hh.imm b1 B o1 sz1 (hr b1 hb1) hm1 e1)
    · exact .inr (.inr hB)

/-! ### the contract of a function -/

/-- a call answers -/
def Ans (P : Program) (f : Nat) (ra : Array Value) (w : World) (K : Value → World → Prop) : Prop :=
  ((callFunc f ra).run P w = .ok (.enter f ra) w ∧ Calls P f ra w fun e w' => ∃ u, e = .returned u ∧ K u w') ∨ ∃ u w', (callFunc f ra).run P w = .ok (.value u) w' ∧ K u w'

theorem Ans.mono {P : Program} {f : Nat} {ra : Array Value} {w : World} {K K' : Value → World → Prop} (h : Ans P f ra w K) (hk : ∀ u w', K u w' → K' u w') : Ans P f ra w K' := by
  rcases h with ⟨h1, h2⟩ | ⟨u, w', h1, h2⟩
  · exact .inl ⟨h1, Calls.mono h2 fun e w' ⟨u, he, hu⟩ => ⟨u, he, hk u w' hu⟩⟩
  · exact .inr ⟨u, w', h1, hk u w' h2⟩

def RVs (w : World) (I : Nat → Prop) (φ : Phi) (l : List AV) (ra : Array Value) : Prop := l.length = ra.size ∧ ∀ (k : Nat) x u, l[k]? = some x → ra[k]? = some u → RV w I φ x u

/-- what a function does -/
def Contract (P : Program) (f : Nat) (args : List AV) (hp : Heap) (res : AV) (hp' : Heap) : Prop :=
  ∀ (w : World) (I : Nat → Prop) (φ : Phi) (ra : Array Value), RH w I φ (hget hp) → RVs w I φ args ra →
    Ans P f ra w fun u w' => ∃ φ' I', RV w' I' φ' res u ∧ RH w' I' φ' (hget hp') ∧ Step hp.length (hget hp) φ I w (hget hp') φ' I' w'

def RunOk {R : Type} (P : Program) (run : CallK R) : Prop := ∀ f args hp k r, run f args hp k = some r → ∃ res hp', k res hp' = some r ∧ hp.length ≤ hp'.length ∧ Contract P f args hp res hp'

theorem hget_nil (b : Nat) : hget [] b = .none := by simp [hget]

theorem RH.empty (w : World) (I : Nat → Prop) (h : ∀ B, I B → B < w.heap.size) : RH w I Phi.no (hget []) := by
  refine ⟨fun _ _ => rfl, fun b hl => ?_, fun b b' B o sz o' sz' hm => ?_, fun b B o sz hm => ?_, fun b B o sz hl => ?_, h⟩
  · rw [hget_nil] at hl; cases hl
  · rw [hget_nil] at hm; cases hm
  · rw [hget_nil] at hm; cases hm
  · rw [hget_nil] at hl; cases hl

theorem not_mut_nil {φ : Phi} {B : Nat} (h : Mut φ (hget []) B) : False := by
  obtain ⟨b, o, sz, hm, _⟩ := h
  rw [hget_nil] at hm; cases hm

/-- the answer with what it leads to, numbered anew -/
theorem Contract.renum {P : Program} {f : Nat} {args : List AV} {res : AV} {hp' : Heap} (h : Contract P f args [] res hp') {ids : List Nat} (hd : Distinct ids) :
    Contract P f args [] (ren (fun b => indexOf b ids 0) res) (reheap ids (hget hp')) := by
  intro w I φ ra hh hx
  refine (h w I φ ra hh hx).mono fun u w' ⟨φ', I', h1, h2, h3⟩ => ⟨rephi ids φ', I', h1.ren fun b b' => rephi_ren b b', h2.renum hd, ⟨fun b p hb => absurd hb (Nat.not_lt_zero b), h3.Ile, h3.Inew, fun B hB => h3.mt B (mut_renum hB), h3.ext⟩⟩

/-- effects on a heap as a function -/
def Eff.rd (rd : Nat → BS) : Eff → Nat → BS
  | .wr l => rdputs rd l
  | .full h => hget h

theorem Eff.apply_rd (h : Heap) (e : Eff) : hget (e.apply h) = e.rd (hget h) := by
  cases e with
  | wr l => exact hget_hputs h l
  | full h' => rfl

def Eff.fits (rd rd' : Nat → BS) : Eff → Prop
  | .wr l => ∀ p ∈ l, rd' p.1 = rd p.1
  | .full _ => rd' = rd

/-- what a call in a caller does -/
def CallSim (P : Program) (f : Nat) (args : List AV) (len : Nat) (rd : Nat → BS) (v : AV) (e : Eff) (rdl : List Nat) : Prop :=
  ∀ (rd' : Nat → BS) (w : World) (I : Nat → Prop) (φ : Phi) (ra : Array Value), (∀ b ∈ rdl, rd' b = rd b) → e.fits rd rd' → RH w I φ rd' → RVs w I φ args ra →
    Ans P f ra w fun u w' => ∃ φ' I', RV w' I' φ' v u ∧ RH w' I' φ' (e.rd rd') ∧ (∀ base, base ≤ len → Step base rd' φ I w (e.rd rd') φ' I' w') ∧ Phi.le φ φ'

theorem snap_args {w : World} {I : Nat → Prop} {φ : Phi} {rd : Nat → BS} {args args' : List AV} {ra : Array Value} {l : List Nat} (hh : RH w I φ rd) (hx : RVs w I φ args ra) {d : Nat} (hs : snapL d rd args = some (args', l)) :
    (∀ b ∈ l, live (rd b) = true) ∧ RVs w (fun B => I B ∨ InL φ l B) Phi.no args' ra := by
  obtain ⟨h1, h2, h3⟩ := (snap_ok hh d).2.1 _ _ _ hs
  refine ⟨h1, h2.trans hx.1, fun k x u e e' => ?_⟩
  obtain ⟨c, e1, e2⟩ := h3 k x e
  exact e2 _ (fun B hB => .inl hB) (fun B hB => .inr hB) u (hx.2 k c u e1 e')

theorem inL_lt {w : World} {I : Nat → Prop} {φ : Phi} {rd : Nat → BS} (hh : RH w I φ rd) {l : List Nat} (hl : ∀ b ∈ l, live (rd b) = true) {B : Nat} (h : InL φ l B) : B < w.heap.size := by
  obtain ⟨b, hb, o, sz, e⟩ := h
  obtain ⟨B', o', sz', e', r⟩ := hh.blk b (hl b hb)
  rw [e] at e'; cases e'
  exact r.lt (hl b hb)

theorem own_ok {R : Type} {P : Program} {f m : Nat} {args args' : List AV} {hp : Heap} {rch : List Nat} {r0 : AV} {bs : Heap} {k : OperK R} {r : R} (hs : snapL depth (hget hp) args = some (args', rch))
    (hc : Contract P f args' [] r0 bs) (hn : ∀ b, hp.length ≤ b → hget hp b = .none) (h : finishCall m (hget hp) hp.length rch r0 bs k = some r) :
    ∃ v l, k v (.wr l) rch = some r ∧ CallSim P f args hp.length (hget hp) v (.wr l) rch := by
  -- whether the blocks that the call was shown stay as they are
  obtain ⟨t, ht⟩ : ∃ t, t = (hasTree r0 || bs.any blkHasTree) := ⟨_, rfl⟩
  have hfz : (bif hasTree r0 || bs.any blkHasTree then rch.map fun b => (b, frozen (hget hp b)) else [] : Wr) = (bif t then rch.map fun b => (b, frozen (hget hp b)) else []) := by rw [ht]
  -- what the callee leaves
  have leaves : ∀ (rd' : Nat → BS) (w : World) (I : Nat → Prop) (φ : Phi) (ra : Array Value), (∀ b ∈ rch, rd' b = hget hp b) → RH w I φ rd' → RVs w I φ args ra →
      (∀ b ∈ rch, live (rd' b) = true) ∧ Ans P f ra w fun u w' => ∃ φ' I3, RV w' I3 φ' r0 u ∧ RH w' I3 φ' (hget bs) ∧ Ext (fun _ => False) w w' ∧ (∀ B, Mut φ' (hget bs) B → w.heap.size ≤ B) ∧
        (∀ B, I B → I3 B) ∧ (∀ B, I3 B → I B ∨ (t = true ∧ InL φ rch B) ∨ w.heap.size ≤ B) ∧ (t = true → ∀ B, InL φ rch B → I3 B) := by
    intro rd' w I φ ra hrd hh hx
    obtain ⟨hl, hx'⟩ := snap_args hh hx ((snap_frame depth).2.1 _ _ _ hs hrd)
    refine ⟨hl, (hc w (fun B => I B ∨ InL φ rch B) Phi.no ra (RH.empty w _ fun B hB => hB.elim (hh.lt B) (inL_lt hh hl)) hx').mono fun u w' ⟨φ', I', h1, h2, h3⟩ => ?_⟩
    have ext : Ext (fun _ => False) w w' := h3.ext.weaken fun B h => not_mut_nil h
    have hnew : ∀ B, Mut φ' (hget bs) B → w.heap.size ≤ B := fun B hB => (h3.mt B hB).elim (fun h => (not_mut_nil h).elim) id
    cases hb : t with
    | true =>
      refine ⟨φ', I', h1, h2, ext, hnew, fun B hB => h3.Ile B (.inl hB), fun B hB => ?_, fun _ B hB => h3.Ile B (.inr hB)⟩
      rcases h3.Inew B hB with (h | h) | h | h
      · exact .inl h
      · exact .inr (.inl ⟨rfl, h⟩)
      · exact (not_mut_nil h).elim
      · exact .inr (.inr h)
    | false =>
      rw [hb] at ht
      obtain ⟨ht1, ht2⟩ := Bool.or_eq_false_iff.1 ht.symm
      have htl : ∀ b, blkHasTree (hget bs b) = false := by
        intro b
        simp only [hget, List.getD]
        cases e : bs[b]? with
        | none => rfl
        | some x => simpa using (List.any_eq_false.1 ht2) x (List.mem_of_getElem? e)
      refine ⟨φ', I, h1.treeless I ht1, ⟨h2.none, fun b hb => ?_, h2.inj, fun b B o sz hm e hB => ?_, fun b B o sz hl hm e => ?_, fun B hB => Nat.lt_of_lt_of_le (hh.lt B hB) ext.size⟩, ext, hnew, fun B hB => hB, fun B hB => .inl hB, fun h => by cases h⟩
      · obtain ⟨B, o, sz, e, r⟩ := h2.blk b hb
        exact ⟨B, o, sz, e, r.treeless I (htl b)⟩
      · have := hnew B ⟨b, o, sz, hm, e⟩
        have := hh.lt B hB
        omega
      · rw [blkHasTree_mut (htl b) hl] at hm; cases hm
  unfold finishCall at h
  rw [hfz] at h
  split at h
  · -- the blocks come into the caller's heap
    refine ⟨_, _, h, fun rd' w I φ ra hrd hfit hh hx => ?_⟩
    obtain ⟨hl, hans⟩ := leaves rd' w I φ ra hrd hh hx
    refine hans.mono fun u w' ⟨φ', I3, h1, h2, h3, h4, h5, h6, h7⟩ => ?_
    have hno : ∀ i, i < bs.length → rd' (hp.length + i) = .none := by
      intro i hi
      obtain ⟨x, hx'⟩ := imports_mem (nx := hp.length) (l := bs.map (renB (shift hp.length bs.length))) (i := 0) (j := i) (by simpa using hi)
      have := hfit _ (List.mem_append_right _ hx')
      simp only [Nat.add_zero] at this
      rw [this]
      exact hn _ (Nat.le_add_right _ _)
    obtain ⟨φ2, g1, g2, g3, g4⟩ := hh.merge (t := t) hl hno h3 h5 h6 h7 h2 h4 (hget hp) (fun b hb => (hrd b hb).symm)
    exact ⟨φ2, I3, h1.ren g1, g3, g4, g2⟩
  · -- the answer as a tree
    split at h
    · rename_i r1 l1 hs1
      refine ⟨_, _, h, fun rd' w I φ ra hrd hfit hh hx => ?_⟩
      obtain ⟨hl, hans⟩ := leaves rd' w I φ ra hrd hh hx
      refine hans.mono fun u w' ⟨φ', I3, h1, h2, h3, h4, h5, h6, h7⟩ => ?_
      obtain ⟨s1, s2⟩ := (snap_ok h2 depth).1 _ _ _ hs1
      have hr := s2 (fun B => I3 B ∨ InL φ' l1 B) (fun B hB => .inl hB) (fun B hB => .inr hB) u h1
      have hb : ∀ B, (I3 B ∨ InL φ' l1 B) → I B ∨ (t = true ∧ InL φ rch B) ∨ w.heap.size ≤ B := by
        rintro B (hB | ⟨b, hb, o, sz, e⟩)
        · exact h6 B hB
        · cases hm : mutable (hget bs b) with
          | true => exact .inr (.inr (h4 B ⟨b, o, sz, hm, e⟩))
          | false => exact h6 B (h2.imm b B o sz (s1 b hb) hm e)
      obtain ⟨φ2, g1, g2, g3, g4⟩ := hh.merge (t := t) (bs := []) (I2 := fun B => I3 B ∨ InL φ' l1 B) (φ' := Phi.no) hl (fun i hi => by simp at hi) h3 (fun B hB => .inl (h5 B hB))
        hb (fun ht B hB => .inl (h7 ht B hB)) (RH.empty w' _ fun B hB => hB.elim (h2.lt B) (inL_lt h2 s1)) (fun B hB => (not_mut_nil hB).elim) (hget hp) (fun b hb => (hrd b hb).symm)
      simp only [List.map_nil, imports, List.append_nil] at g3 g4
      exact ⟨φ2, _, hr.mono (fun B hB => ⟨hB, rfl⟩) (fun _ => Nat.le_refl _) (Phi.no_le _), g3, g4, g2⟩
    · cases h

end Go.AM
