/- Blocks numbered anew; values without trees. -/
import Derived.Test.YtnioalecffkedaaAm19
set_option linter.unusedVariables false
set_option linter.unusedSimpArgs false
namespace Go.AM

theorem renL_map (ρ : Nat → Option Nat) : ∀ cs, renL ρ cs = cs.map (ren ρ)
  | [] => by simp [renL]
  | v :: r => by rw [renL, renL_map ρ r]; rfl

theorem renL_get {ρ : Nat → Option Nat} {cs : List AV} {k : Nat} {c' : AV} (h : (renL ρ cs)[k]? = some c') : ∃ c, cs[k]? = some c ∧ c' = ren ρ c := by
  rw [renL_map, List.getElem?_map] at h
  cases e : cs[k]? with
  | none => rw [e] at h; cases h
  | some c => rw [e] at h; cases h; exact ⟨c, rfl, rfl⟩

section
variable {w : World} {I : Nat → Prop}

theorem RV.ren {φ : Phi} {v : AV} {u : Value} (h : RV w I φ v u) : ∀ {φ2 : Phi} {ρ : Nat → Option Nat}, (∀ b b', ρ b = some b' → φ2 b' = φ b) → RV w I φ2 (ren ρ v) u := by
  induction h with
  | undef v => intros; simp only [AM.ren]; exact .undef v
  | bool b => intros; simp only [AM.ren]; exact .bool b
  | int k n => intros; simp only [AM.ren]; exact .int k n
  | flt k n => intros; simp only [AM.ren]; exact .flt k n
  | cplx k a b => intros; simp only [AM.ren]; exact .cplx k a b
  | str s l h => intros; simp only [AM.ren]; exact .str s l h
  | nilp => intros; simp only [AM.ren]; exact .nilp
  | ptr b B o sz i j q h hq =>
    intro φ2 ρ hρ
    simp only [AM.ren]
    cases e : ρ b with
    | none => exact .undef _
    | some b' => exact .ptr b' B o sz i j q ((hρ b b' e).trans h) hq
  | tp cs j B o q u hB hq hc h1 hr _ => intros; simp only [AM.ren]; exact .tp cs j B o q u hB hq hc h1 hr
  | nils => intros; simp only [AM.ren]; exact .nils
  | sl sz b B o off len cm cap q h hq hl hc hs =>
    intro φ2 ρ hρ
    simp only [AM.ren]
    cases e : ρ b with
    | none => exact .undef _
    | some b' => exact .sl sz b' B o off len cm cap q ((hρ b b' e).trans h) hq hl hc hs
  | sle sz b off a =>
    intro φ2 ρ hρ
    simp only [AM.ren]
    cases e : ρ b with
    | none => exact .undef _
    | some b' => exact .sle sz b' off a
  | tr sz n f B o cap u hB hn hlen hc h1 hr _ => intros; simp only [AM.ren]; exact .tr sz n f B o cap u hB hn hlen hc h1 hr
  | trn sz f a => intros; simp only [AM.ren]; exact .trn sz f a
  | trl sz es v h hz _ => intros; simp only [AM.ren]; exact .trl sz es v (h.free rfl) hz
  | agg cs vs hl h1 _ ih =>
    intro φ2 ρ hρ
    simp only [AM.ren]
    refine .agg _ vs (by rw [renL_map]; simpa using hl) h1 fun k c u e e' => ?_
    obtain ⟨c0, e1, rfl⟩ := renL_get e
    exact ih k c0 u e1 e' hρ
  | tup cs vs hl _ ih =>
    intro φ2 ρ hρ
    simp only [AM.ren]
    refine .tup _ vs (by rw [renL_map]; simpa using hl) fun k c u e e' => ?_
    obtain ⟨c0, e1, rfl⟩ := renL_get e
    exact ih k c0 u e1 e' hρ
  | fn f a c va vc hla hlc _ _ iha ihc =>
    intro φ2 ρ hρ
    simp only [AM.ren]
    refine .fn f _ _ va vc (by rw [renL_map]; simpa using hla) (by rw [renL_map]; simpa using hlc) (fun k c u e e' => ?_) (fun k c u e e' => ?_)
    · obtain ⟨c0, e1, rfl⟩ := renL_get e
      exact iha k c0 u e1 e' hρ
    · obtain ⟨c0, e1, rfl⟩ := renL_get e
      exact ihc k c0 u e1 e' hρ
  | nilf => intros; simp only [AM.ren]; exact .nilf
  | nilm => intros; simp only [AM.ren]; exact .nilm
  | mp b B h =>
    intro φ2 ρ hρ
    simp only [AM.ren]
    cases e : ρ b with
    | none => exact .undef _
    | some b' => exact .mp b' B ((hρ b b' e).trans h)

theorem RB.ren {φ φ2 : Phi} {ρ : Nat → Option Nat} {B o sz : Nat} {x : BS} (h : RB w I φ B o sz x) (hρ : ∀ b b', ρ b = some b' → φ2 b' = φ b) : RB w I φ2 B o sz (renB ρ x) := by
  cases x with
  | none => exact h
  | dead => exact h
  | arr m s es =>
    obtain ⟨h0, h1, h2, h3⟩ := h
    refine ⟨h0, h1, fun i cs e => ?_, fun i cs k c e e' => ?_⟩
    · rw [List.getElem?_map] at e
      cases e0 : es[i]? with
      | none => rw [e0] at e; cases e
      | some c0 => rw [e0] at e; cases e; rw [renL_map]; simpa using h2 i c0 e0
    · rw [List.getElem?_map] at e
      cases e0 : es[i]? with
      | none => rw [e0] at e; cases e
      | some c0 =>
        rw [e0] at e; cases e
        obtain ⟨c1, e1, rfl⟩ := renL_get e'
        obtain ⟨u, a1, a2, a3⟩ := h3 i c0 k c1 e0 e1
        exact ⟨u, a1, a2, a3.ren hρ⟩
  | seq m s n f => exact h
  | map m es =>
    simp only [renB]
    cases hc : es.all (fun p => refFree p.1) with
    | false => trivial
    | true =>
      rw [cond_true]
      obtain ⟨h0, h1, mes, clock, h2, h3, h4, hbn⟩ := h
      refine ⟨h0, h1, mes, clock, h2, by simpa using h3, fun i kv e a b => ?_, hbn⟩
      rw [List.getElem?_map] at a
      cases e0 : es[i]? with
      | none => rw [e0] at a; cases a
      | some p =>
        rw [e0] at a; cases a
        obtain ⟨x, y, z⟩ := h4 i p e e0 b
        exact ⟨x.free (List.all_eq_true.1 hc _ (List.mem_of_getElem? e0)), y.ren hρ, z⟩
  | iter m es st => exact h

theorem renB_kind (ρ : Nat → Option Nat) (x : BS) : (live (renB ρ x) = true → live x = true) ∧ (mutable (renB ρ x) = true → mutable x = true) ∧ (renB ρ x = .none → x = .none) ∧ (live (renB ρ x) = true → mutable (renB ρ x) = mutable x) := by
  cases x with
  | map m es =>
    simp only [renB]
    cases es.all (fun p => refFree p.1) <;> simp [live, mutable]
  | _ => simp [renB, live, mutable]

/-! ### without trees -/

theorem hasTreeL_get : ∀ {cs : List AV} {k : Nat} {c : AV}, hasTreeL cs = false → cs[k]? = some c → hasTree c = false
  | [], k, c, _, e => by simp at e
  | v :: r, 0, c, h, e => by
    simp only [hasTreeL, Bool.or_eq_false_iff] at h
    simp at e; exact e ▸ h.1
  | v :: r, k + 1, c, h, e => by
    simp only [hasTreeL, Bool.or_eq_false_iff] at h
    simp at e; exact hasTreeL_get h.2 e

theorem RV.treeless {φ : Phi} {v : AV} {u : Value} (h : RV w I φ v u) (J : Nat → Prop) : hasTree v = false → RV w J φ v u := by
  induction h with
  | undef v => intros; exact .undef v
  | bool b => intros; exact .bool b
  | int k n => intros; exact .int k n
  | flt k n => intros; exact .flt k n
  | cplx k a b => intros; exact .cplx k a b
  | str s l h => intros; exact .str s l h
  | nilp => intros; exact .nilp
  | ptr b B o sz i j q h hq => intros; exact .ptr b B o sz i j q h hq
  | tp cs j B o q u hB hq hc h1 hr _ => intro ht; simp [hasTree] at ht
  | nils => intros; exact .nils
  | sl sz b B o off len cm cap q h hq hl hc hs => intros; exact .sl sz b B o off len cm cap q h hq hl hc hs
  | sle sz b off a => intros; exact .sle sz b off a
  | tr sz n f B o cap u hB hn hlen hc h1 hr _ => intro ht; simp [hasTree] at ht
  | trn sz f a => intros; exact .trn sz f a
  | trl sz es v h hz _ =>
    intro ht
    cases es with
    | cons e es => simp [hasTree] at ht
    | nil =>
      refine .trl sz [] v ?_ hz
      simp only [List.length_nil] at h ⊢
      cases h with
      | tr _ _ _ B o cap u hB hn hlen hc h1 hr => exact .tr sz 0 _ B o cap u (fun h => absurd h (Nat.lt_irrefl 0)) hn (fun i hi => by omega) (fun i k c hi => by omega) (fun i k c hi => by omega) (fun i k c hi => by omega)
      | trn _ _ a => exact .trn sz _ a
  | agg cs vs hl h1 _ ih =>
    intro ht
    exact .agg cs vs hl h1 fun k c u e e' => ih k c u e e' (hasTreeL_get (by simpa [hasTree] using ht) e)
  | tup cs vs hl _ ih =>
    intro ht
    exact .tup cs vs hl fun k c u e e' => ih k c u e e' (hasTreeL_get (by simpa [hasTree] using ht) e)
  | fn f a c va vc hla hlc _ _ iha ihc =>
    intro ht
    simp only [hasTree, Bool.or_eq_false_iff] at ht
    exact .fn f a c va vc hla hlc (fun k c u e e' => iha k c u e e' (hasTreeL_get ht.1 e)) (fun k c u e e' => ihc k c u e e' (hasTreeL_get ht.2 e))
  | nilf => intros; exact .nilf
  | nilm => intros; exact .nilm
  | mp b B h => intros; exact .mp b B h

theorem blkHasTree_mut {x : BS} (h : blkHasTree x = false) (hl : live x = true) : mutable x = true := by
  cases x <;> simp_all [blkHasTree, live, mutable]

theorem RB.treeless {φ : Phi} {B o sz : Nat} {x : BS} (h : RB w I φ B o sz x) (J : Nat → Prop) (ht : blkHasTree x = false) : RB w J φ B o sz x := by
  cases x with
  | none => trivial
  | dead => trivial
  | arr m s es =>
    obtain ⟨h0, h1, h2, h3⟩ := h
    simp only [blkHasTree, Bool.or_eq_false_iff, List.any_eq_false] at ht
    refine ⟨h0, h1, h2, fun i cs k c e e' => ?_⟩
    obtain ⟨u, a1, a2, a3⟩ := h3 i cs k c e e'
    exact ⟨u, a1, a2, a3.treeless J (hasTreeL_get (by simpa using ht.2 cs (List.mem_of_getElem? e)) e')⟩
  | seq m s n f =>
    obtain ⟨h0, h1, h2, h3⟩ := h
    simp only [blkHasTree, Bool.or_eq_false_iff, List.any_eq_false] at ht
    refine ⟨h0, h1, h2, fun i k c hi e => ?_⟩
    obtain ⟨u, a1, a2, a3⟩ := h3 i k c hi e
    exact ⟨u, a1, a2, a3.treeless J (hasTreeL_get (by simpa using ht.2 i (List.mem_range.2 hi)) e)⟩
  | map m es =>
    obtain ⟨h0, h1, mes, clock, h2, h3, h4, hbn⟩ := h
    simp only [blkHasTree, Bool.or_eq_false_iff, List.any_eq_false] at ht
    refine ⟨h0, h1, mes, clock, h2, h3, fun i kv e a b => ?_, hbn⟩
    obtain ⟨x, y, z⟩ := h4 i kv e a b
    have := ht.2 kv (List.mem_of_getElem? a)
    simp only [Bool.not_eq_true, Bool.or_eq_false_iff] at this
    exact ⟨x.treeless J this.1, y.treeless J this.2, z⟩
  | iter m es st => cases ht

/-! ### what is reached -/

def Distinct (l : List Nat) : Prop := ∀ (i j b : Nat), l[i]? = some b → l[j]? = some b → i = j

theorem memb_mem (b : Nat) : ∀ l, memb b l = true ↔ b ∈ l
  | [] => by simp [memb]
  | x :: r => by
    rw [memb]
    cases h : Nat.beq x b with
    | true => simp [Nat.eq_of_beq_eq_true h]
    | false =>
      have : x ≠ b := fun e => by subst e; simp at h
      rw [cond_false, memb_mem b r]
      simp [Ne.symm this]

theorem Distinct.snoc {l : List Nat} (h : Distinct l) {b : Nat} (hb : b ∉ l) : Distinct (l ++ [b]) := by
  intro i j c e e'
  rw [List.getElem?_append] at e e'
  split at e
  · split at e'
    · exact h i j c e e'
    · have hc : c ∈ l := List.mem_of_getElem? e
      have : c = b := by
        have := List.mem_of_getElem? e'
        simpa using this
      exact absurd (this ▸ hc) hb
  · split at e'
    · have hc : c ∈ l := List.mem_of_getElem? e'
      have : c = b := by
        have := List.mem_of_getElem? e
        simpa using this
      exact absurd (this ▸ hc) hb
    · have h1 : i - l.length = 0 := by
        rcases Nat.eq_zero_or_pos (i - l.length) with h0 | h0
        · exact h0
        · rw [List.getElem?_eq_none (by simp; omega)] at e; cases e
      have h2 : j - l.length = 0 := by
        rcases Nat.eq_zero_or_pos (j - l.length) with h0 | h0
        · exact h0
        · rw [List.getElem?_eq_none (by simp; omega)] at e'; cases e'
      omega

theorem reach_ok (rd : Nat → BS) : ∀ (d : Nat) (r acc : List Nat), Distinct acc → Distinct (reach d rd r acc) ∧ ∃ t, reach d rd r acc = acc ++ t
  | 0, r, acc, h => ⟨h, [], by simp [reach]⟩
  | d + 1, [], acc, h => ⟨h, [], by simp [reach]⟩
  | d + 1, b :: r, acc, h => by
    rw [reach]
    cases hm : memb b acc with
    | true => rw [cond_true]; exact reach_ok rd d r acc h
    | false =>
      rw [cond_false]
      have hb : b ∉ acc := fun e => by rw [(memb_mem b acc).2 e] at hm; cases hm
      obtain ⟨h1, t, h2⟩ := reach_ok rd d (kids (rd b) ++ r) (acc ++ [b]) (h.snoc hb)
      exact ⟨h1, [b] ++ t, by rw [h2]; simp⟩

theorem Distinct.nil : Distinct [] := fun i j b e => by simp at e

theorem range_get {n i b : Nat} (e : (List.range n)[i]? = some b) : i < n ∧ b = i := by
  rcases Nat.lt_or_ge i n with h | h
  · rw [List.getElem?_range h] at e; cases e; exact ⟨h, rfl⟩
  · rw [List.getElem?_eq_none (by simpa using h)] at e; cases e

theorem Distinct.range (n : Nat) : Distinct (List.range n) := fun i j b e e' => (range_get e).2.symm.trans (range_get e').2

theorem indexOf_some (b : Nat) : ∀ (l : List Nat) (n i : Nat), indexOf b l n = some i → n ≤ i ∧ l[i - n]? = some b
  | [], n, i, h => by simp [indexOf] at h
  | x :: r, n, i, h => by
    rw [indexOf] at h
    cases hx : Nat.beq x b with
    | true =>
      rw [hx, cond_true] at h
      cases h
      exact ⟨Nat.le_refl _, by simp [Nat.eq_of_beq_eq_true hx]⟩
    | false =>
      rw [hx, cond_false] at h
      obtain ⟨h1, h2⟩ := indexOf_some b r (n + 1) i h
      refine ⟨by omega, ?_⟩
      have : i - n = (i - (n + 1)) + 1 := by omega
      rw [this]; simpa using h2

/-- the heap numbered anew -/
def reheap (ids : List Nat) (rd : Nat → BS) : Heap := ids.map fun b => renB (fun b => indexOf b ids 0) (rd b)
def rephi (ids : List Nat) (φ : Phi) : Phi := fun i => (ids[i]?).bind φ

theorem hget_reheap (ids : List Nat) (rd : Nat → BS) (i : Nat) : hget (reheap ids rd) i = match ids[i]? with
    | some b => renB (fun b => indexOf b ids 0) (rd b)
    | .none => .none := by
  simp only [hget, reheap, List.getD, List.getElem?_map]
  cases ids[i]? <;> rfl

theorem rephi_ren {ids : List Nat} {φ : Phi} (b b' : Nat) (h : indexOf b ids 0 = some b') : rephi ids φ b' = φ b := by
  have := (indexOf_some b ids 0 b' h).2
  simp only [Nat.sub_zero] at this
  simp [rephi, this]

theorem RH.renum {φ : Phi} {rd : Nat → BS} (h : RH w I φ rd) {ids : List Nat} (hd : Distinct ids) : RH w I (rephi ids φ) (hget (reheap ids rd)) := by
  have key : ∀ i, live (hget (reheap ids rd) i) = true → ∃ b, ids[i]? = some b ∧ hget (reheap ids rd) i = renB (fun b => indexOf b ids 0) (rd b) ∧ live (rd b) = true ∧ rephi ids φ i = φ b ∧ mutable (hget (reheap ids rd) i) = mutable (rd b) := by
    intro i hl
    have e0 := hget_reheap ids rd i
    cases e : ids[i]? with
    | none => rw [e] at e0; rw [e0] at hl; cases hl
    | some b =>
      rw [e] at e0
      simp only at e0
      rw [e0] at hl
      exact ⟨b, rfl, e0, (renB_kind _ _).1 hl, by simp [rephi, e], by rw [e0]; exact (renB_kind _ _).2.2.2 hl⟩
  refine ⟨fun i e => ?_, fun i hl => ?_, fun i j B o sz o' sz' hm hm' e e' => ?_, fun i B o sz hm e => ?_, fun i B o sz hl hm e => ?_, h.lt⟩
  · have e0 := hget_reheap ids rd i
    cases e1 : ids[i]? with
    | none => simp [rephi, e1]
    | some b =>
      rw [e1] at e0
      simp only at e0
      rw [e0] at e
      simp only [rephi, e1, Option.bind_some]
      exact h.none b ((renB_kind _ _).2.2.1 e)
  · obtain ⟨b, h1, h2, h3, h4, h5⟩ := key i hl
    obtain ⟨B, o, sz, e, r⟩ := h.blk b h3
    exact ⟨B, o, sz, h4.trans e, by rw [h2]; exact r.ren fun b b' => rephi_ren b b'⟩
  · obtain ⟨b, h1, h2, h3, h4, h5⟩ := key i (live_of_mutable hm)
    obtain ⟨b', h1', h2', h3', h4', h5'⟩ := key j (live_of_mutable hm')
    have := h.inj b b' B o sz o' sz' (h5 ▸ hm) (h5' ▸ hm') (h4 ▸ e) (h4' ▸ e')
    subst this
    exact hd i j b h1 h1'
  · obtain ⟨b, h1, h2, h3, h4, h5⟩ := key i (live_of_mutable hm)
    exact h.disj b B o sz (h5 ▸ hm) (h4 ▸ e)
  · obtain ⟨b, h1, h2, h3, h4, h5⟩ := key i hl
    exact h.imm b B o sz h3 (h5 ▸ hm) (h4 ▸ e)

theorem mut_renum {φ : Phi} {rd : Nat → BS} {ids : List Nat} {B : Nat} (h : Mut (rephi ids φ) (hget (reheap ids rd)) B) : Mut φ rd B := by
  obtain ⟨i, o, sz, hm, e⟩ := h
  have e0 := hget_reheap ids rd i
  cases e1 : ids[i]? with
  | none => rw [e1] at e0; rw [e0] at hm; cases hm
  | some b =>
    rw [e1] at e0
    simp only at e0
    rw [e0] at hm
    exact ⟨b, o, sz, (renB_kind _ _).2.1 hm, by simpa [rephi, e1] using e⟩

end
end Go.AM
