/- Regions whose order is open. -/
import Derived.Test.YtnioalecffkedaaAm23
import Derived.Orders
set_option linter.unusedVariables false
set_option linter.unusedSimpArgs false
namespace Go.AM

variable {R : Type}

/-! ### updates in some order -/

structure Upd (β : Type) where
  u : (Nat → β) → Nat → β
  T : Nat → Prop

structure Upd.Law {β : Type} (x : Upd β) : Prop where
  off : ∀ f b, ¬ x.T b → x.u f b = f b
  loc : ∀ f g b, f b = g b → x.u f b = x.u g b

def foldU {β : Type} (L : Nat → Bool) : Nat → List (Upd β) → (Nat → β) → Nat → β
  | _, [], f => f
  | i, x :: xs, f => foldU L (i + 1) xs (bif L i then x.u f else f)

section
variable {β : Type} {L L' : Nat → Bool}

theorem foldU_congr {b : Nat} : ∀ (xs : List (Upd β)) (i : Nat) (f f' : Nat → β), (∀ x ∈ xs, x.Law) → (∀ (j : Nat) x, xs[j]? = some x → x.T b → L (i + j) = L' (i + j)) → f b = f' b → foldU L i xs f b = foldU L' i xs f' b
  | [], i, f, f', _, _, h => h
  | x :: xs, i, f, f', hl, ht, h => by
    simp only [foldU]
    refine foldU_congr xs (i + 1) _ _ (fun y hy => hl y (by simp [hy])) (fun j y e hy => ?_) ?_
    · have := ht (j + 1) y (by simpa using e) hy
      rwa [show i + (j + 1) = i + 1 + j by omega] at this
    · by_cases hx : x.T b
      · have := ht 0 x rfl hx
        simp only [Nat.add_zero] at this
        rw [this]
        cases L' i with
        | true => exact (hl x (by simp)).loc f f' b h
        | false => exact h
      · have e1 : (bif L i then x.u f else f) b = f b := by
          cases L i with
          | true => exact (hl x (by simp)).off f b hx
          | false => rfl
        have e2 : (bif L' i then x.u f' else f') b = f' b := by
          cases L' i with
          | true => exact (hl x (by simp)).off f' b hx
          | false => rfl
        rw [e1, e2, h]

theorem foldU_keep {b : Nat} : ∀ (xs : List (Upd β)) (i : Nat) (f : Nat → β), (∀ x ∈ xs, x.Law) → (∀ (j : Nat) x, xs[j]? = some x → x.T b → L (i + j) = false) → foldU L i xs f b = f b
  | [], i, f, _, _ => rfl
  | x :: xs, i, f, hl, ht => by
    simp only [foldU]
    rw [foldU_keep xs (i + 1) _ (fun y hy => hl y (by simp [hy])) fun j y e hy => ?_]
    · by_cases hx : x.T b
      · have := ht 0 x rfl hx
        simp only [Nat.add_zero] at this
        rw [this]; rfl
      · cases L i with
        | true => exact (hl x (by simp)).off f b hx
        | false => rfl
    · have := ht (j + 1) y (by simpa using e) hy
      rwa [show i + (j + 1) = i + 1 + j by omega] at this

theorem foldU_false : ∀ (xs : List (Upd β)) (i : Nat) (f : Nat → β), (∀ j, L (i + j) = false) → foldU L i xs f = f
  | [], i, f, _ => rfl
  | x :: xs, i, f, h => by
    have h0 : L i = false := h 0
    simp only [foldU, h0, cond_false]
    exact foldU_false xs (i + 1) f fun j => by rw [show i + 1 + j = i + (j + 1) by omega]; exact h (j + 1)

/-- one more -/
theorem foldU_add {b : Nat} {x : Upd β} : ∀ (xs : List (Upd β)) (i m : Nat) (f : Nat → β), (∀ y ∈ xs, y.Law) → xs[m]? = some x → L (i + m) = false → (∀ j, L' j = (L j || decide (j = i + m))) →
    (x.T b → ∀ (j : Nat) y, xs[j]? = some y → m < j → y.T b → L (i + j) = false) → foldU L' i xs f b = x.u (foldU L i xs f) b
  | [], i, m, f, _, hm, _, _, _ => by simp at hm
  | y :: xs, i, 0, f, hl, hm, hL, hL', ht => by
    simp at hm
    subst hm
    simp only [Nat.add_zero] at hL hL'
    have hlx : ∀ z ∈ xs, z.Law := fun z hz => hl z (by simp [hz])
    have e0 : L' i = true := by rw [hL']; simp
    simp only [foldU, hL, e0, cond_true, cond_false]
    have hne : ∀ j, L' (i + 1 + j) = L (i + 1 + j) := fun j => by
      rw [hL']
      have : ¬ (i + 1 + j = i) := by omega
      simp [this]
    by_cases hx : y.T b
    · have hz : ∀ (j : Nat) z, xs[j]? = some z → z.T b → L (i + 1 + j) = false := by
        intro j z e hz
        have := ht hx (j + 1) z (by simpa using e) (by omega) hz
        rwa [show i + (j + 1) = i + 1 + j by omega] at this
      rw [foldU_keep xs (i + 1) _ hlx fun j z e hzT => (hne j).trans (hz j z e hzT)]
      exact (hl y (by simp)).loc _ _ b (foldU_keep xs (i + 1) _ hlx hz).symm
    · rw [(hl y (by simp)).off _ b hx]
      exact foldU_congr xs (i + 1) _ _ hlx (fun j z e _ => hne j) ((hl y (by simp)).off f b hx)
  | y :: xs, i, m + 1, f, hl, hm, hL, hL', ht => by
    have hLi : L' i = L i := by
      rw [hL']
      have : ¬ (i = i + (m + 1)) := by omega
      simp [this]
    simp only [foldU, hLi]
    refine foldU_add xs (i + 1) m _ (fun z hz => hl z (by simp [hz])) (by simpa using hm) (by rwa [show i + 1 + m = i + (m + 1) by omega]) (fun j => by rw [hL', show i + 1 + m = i + (m + 1) by omega]) fun hx j z e hj hz => ?_
    have := ht hx (j + 1) z (by simpa using e) (by omega) hz
    rwa [show i + (j + 1) = i + 1 + j by omega] at this

end

/-! ### what an operation has done -/

structure Ent where
  ran : Bool
  v : AV
  e : Eff
  rdl : List Nat

def Ent.skipped : Ent := ⟨false, .tup [], .wr [], []⟩

def Eff.touch : Eff → Nat → Prop
  | .wr l, b => ∃ p ∈ l, p.1 = b
  | .full _, _ => True

def Ent.mem (x : Ent) : Upd BS := ⟨x.e.rd, x.e.touch⟩

def putF (d : Option Nat) (v : AV) (fr : Nat → AV) : Nat → AV := fun t => if d = some t then v else fr t

def Ent.tmp (o : Oper) (x : Ent) : Upd AV := ⟨putF o.dst x.v, fun t => o.dst = some t⟩

theorem rdputs_congr (b : Nat) : ∀ (l : Wr) (f g : Nat → BS), f b = g b → rdputs f l b = rdputs g l b
  | [], f, g, h => h
  | (b', x) :: r, f, g, h => by
    refine rdputs_congr b r _ _ ?_
    unfold rdput
    split
    · rfl
    · exact h

theorem Ent.mem_law (x : Ent) : x.mem.Law := by
  refine ⟨fun f b h => ?_, fun f g b h => ?_⟩
  · cases he : x.e with
    | wr l =>
      simp only [Ent.mem, he, Eff.rd, Eff.touch] at h ⊢
      exact rdputs_not b l f fun p hp e => h ⟨p, hp, e⟩
    | full h' => simp only [Ent.mem, he, Eff.touch] at h; exact (h trivial).elim
  · cases he : x.e with
    | wr l => simp only [Ent.mem, he, Eff.rd]; exact rdputs_congr b l f g h
    | full h' => simp only [Ent.mem, he, Eff.rd]

theorem Ent.tmp_law (o : Oper) (x : Ent) : (x.tmp o).Law := by
  refine ⟨fun f b h => ?_, fun f g b h => ?_⟩
  · simp only [Ent.tmp] at h ⊢; simp only [putF, if_neg h]
  · simp only [Ent.tmp, putF]; split <;> first | rfl | exact h

theorem fget_fput (fr : Fr) (d : Option Nat) (v : AV) : fget (fput fr d v) = putF d v (fget fr) := by
  funext t
  cases d with
  | none => simp [fput, putF]
  | some d =>
    simp only [fput, fget, putF, Option.some.injEq]
    cases h : Nat.beq d t with
    | true => rw [cond_true, if_pos (Nat.eq_of_beq_eq_true h)]
    | false => rw [cond_false, if_neg (fun e => by subst e; simp at h)]

/-- do two operations meet at a block? -/
def Ent.null (x : Ent) : Prop := x.e = .wr [] ∧ x.rdl = []
def Ent.meet (x : Ent) (b : Nat) : Prop := x.e.touch b ∨ b ∈ x.rdl

/-- if one writes what the other looks at, the later stands behind the earlier -/
def QuietE (A : List Nat) (i : Nat) (x : Ent) (j : Nat) (y : Ent) : Prop :=
  (∀ b, (x.e.touch b ∧ y.meet b) ∨ (y.e.touch b ∧ x.meet b) → behind A j i = true) ∧ (∀ h, x.e = .full h → ¬ y.null → behind A j i = true) ∧ (∀ h, y.e = .full h → ¬ x.null → behind A j i = true)

/-! ### the text's order -/

def recsOf : Nat → List Ent → List Rec → List Rec
  | _, [], recs => recs
  | i, x :: xs, recs => recsOf (i + 1) xs (bif x.ran then recOf i x.e x.rdl recs else recs)

/-- the operations one by one -/
def Chain (P : Program) (nt : Nat) (ops : Array Oper) : List Oper → List Ent → St → St → Prop
  | [], [], s, s' => s = s'
  | o :: os, x :: xs, s, s' => dstOk nt o.dst = true ∧ guardV ops (fget s.fr) o = some x.ran ∧ (x.ran = true → OpSim P o (fget s.fr) s.hp.length (hget s.hp) x.v x.e x.rdl) ∧ (x.ran = false → x = .skipped) ∧
      s.hp.length ≤ (x.e.apply s.hp).length ∧ Chain P nt ops os xs { fr := fput s.fr o.dst x.v, hp := x.e.apply s.hp } s'
  | _, _, _, _ => False

section
variable {P : Program} {env : Env} {run : CallK R} {r : R}

theorem ops_chain (henv : EnvOk P env) (hrun : RunOk P run) {nt : Nat} {ops : Array Oper} : ∀ (l : List Oper) (i : Nat) (recs : List Rec) (s1 s : St) (k : St → Option R), fget s1.fr = fget s.fr → s1.hp = s.hp → opsK env run nt ops true l i recs s1 k = some r →
    ∃ xs s' s2, k s2 = some r ∧ fget s2.fr = fget s'.fr ∧ s2.hp = s'.hp ∧ Chain P nt ops l xs s s' ∧ quietAll (ancsGo ops.toList []) (recsOf i xs recs) = true := by
  intro l
  induction l with
  | nil =>
    intro i recs s1 s k hf hh h
    unfold opsK at h
    obtain ⟨h1, h2⟩ := cond_some h
    exact ⟨[], s, s1, h2, hf, hh, rfl, h1⟩
  | cons o rest ih =>
    intro i recs s1 s k hf hh h
    unfold opsK at h
    obtain ⟨hd, h⟩ := cond_some h
    obtain ⟨g, fr', h, hg, hfr⟩ := guardK_inv h
    rw [hf] at hg hfr
    cases g with
    | true =>
      obtain ⟨v, e, rdl, h1, h2, h3⟩ := oper_ok henv hrun h
      rw [hfr, hh] at h3
      rw [hh] at h2 h1
      obtain ⟨xs, s', s2, g1, g2, g3, g4, g5⟩ := ih _ _ { fr := fput fr' o.dst v, hp := e.apply s.hp } { fr := fput s.fr o.dst v, hp := e.apply s.hp } _ (by simp only [fget_fput, hfr]) rfl h1
      exact ⟨⟨true, v, e, rdl⟩ :: xs, s', s2, g1, g2, g3, ⟨hd, hg, fun _ => h3, fun h => (by cases h), h2, g4⟩, g5⟩
    | false =>
      obtain ⟨xs, s', s2, g1, g2, g3, g4, g5⟩ := ih _ _ { fr := fput fr' o.dst (.tup []), hp := s1.hp } { fr := fput s.fr o.dst (.tup []), hp := s.hp } _ (by simp only [fget_fput, hfr]) hh h
      exact ⟨Ent.skipped :: xs, s', s2, g1, g2, g3, ⟨hd, hg, fun h => (by cases h), fun _ => rfl, Nat.le_refl _, g4⟩, g5⟩

theorem Chain.length {nt : Nat} {ops : Array Oper} : ∀ {os : List Oper} {xs : List Ent} {s s' : St}, Chain P nt ops os xs s s' → xs.length = os.length ∧ s.hp.length ≤ s'.hp.length
  | [], [], s, s', h => ⟨rfl, by cases h; exact Nat.le_refl _⟩
  | o :: os, x :: xs, s, s', h => by
    obtain ⟨_, _, _, _, h1, h2⟩ := h
    have := Chain.length h2
    exact ⟨by simp [this.1], Nat.le_trans h1 this.2⟩
  | [], _ :: _, s, s', h => h.elim
  | _ :: _, [], s, s', h => h.elim

def mems (xs : List Ent) : List (Upd BS) := xs.map Ent.mem
def tmpsU : List Oper → List Ent → List (Upd AV)
  | o :: os, x :: xs => x.tmp o :: tmpsU os xs
  | _, _ => []

/-- what stands before the i-th operation, by the fold -/
theorem Chain.nth {nt : Nat} {ops : Array Oper} : ∀ {os : List Oper} {xs : List Ent} {s s' : St} {i0 : Nat}, Chain P nt ops os xs s s' → ∀ (i : Nat) o x, os[i]? = some o → xs[i]? = some x →
    dstOk nt o.dst = true ∧ ∃ fr len, s.hp.length ≤ len ∧ guardV ops fr o = some x.ran ∧ (x.ran = true → OpSim P o fr len (foldU (fun j => decide (j < i0 + i)) i0 (mems xs) (hget s.hp)) x.v x.e x.rdl) ∧ (x.ran = false → x = .skipped) ∧
      fr = foldU (fun j => decide (j < i0 + i)) i0 (tmpsU os xs) (fget s.fr)
  | [], _, s, s', i0, h, i, o, x, e, _ => by simp at e
  | o' :: os, [], s, s', i0, h, i, o, x, e, _ => h.elim
  | o' :: os, y :: xs, s, s', i0, h, 0, o, x, e, e' => by
    obtain ⟨h1, h2, h3, h4, h5, h6⟩ := h
    simp at e e'
    subst e; subst e'
    have hf : ∀ {β : Type} (us : List (Upd β)) (f : Nat → β), foldU (fun j => decide (j < i0 + 0)) i0 us f = f := by
      intro β us f
      exact foldU_false us i0 f fun j => by simp
    refine ⟨h1, fget s.fr, s.hp.length, Nat.le_refl _, h2, fun hr => ?_, h4, (hf _ _).symm⟩
    rw [hf]; exact h3 hr
  | o' :: os, y :: xs, s, s', i0, h, i + 1, o, x, e, e' => by
    obtain ⟨h1, h2, h3, h4, h5, h6⟩ := h
    obtain ⟨g1, fr, len, g2, g3, g4, g5, g6⟩ := Chain.nth (i0 := i0 + 1) h6 i o x (by simpa using e) (by simpa using e')
    have hlt : decide (i0 < i0 + (i + 1)) = true := by simp
    refine ⟨g1, fr, len, Nat.le_trans h5 g2, g3, fun hr => ?_, g5, ?_⟩
    · have := g4 hr
      simp only [mems, List.map_cons, foldU, hlt, cond_true]
      rw [Eff.apply_rd, show i0 + 1 + i = i0 + (i + 1) by omega] at this
      exact this
    · simp only [tmpsU, foldU, hlt, cond_true]
      rw [g6, fget_fput, show i0 + 1 + i = i0 + (i + 1) by omega]
      rfl

end
end Go.AM
