/- A law's statement out of the abstract machine's answer: what can be read as data stands there as a tree. -/
import Derived.Test.YtnioalecffkedaaAm26
import Derived.Deep.Slices
import Derived.Carry
import Derived.ChangeSame
set_option linter.unusedVariables false
set_option linter.unusedSimpArgs false
namespace Go.AM
open Go.ChangeShapes Go.Deep

/-! ### what is read as data is a tree -/

/-- a struct's cells, field by field -/
def ShapeFs (S : TypeId → List AV → Prop) : List Field → List AV → Prop
  | [], cs => cs = []
  | f :: r, cs => ∃ a b, cs = a ++ b ∧ S f.type a ∧ ShapeFs S r b

/-- the cells of a value of a type -/
def Shape (P : Program) : Nat → TypeId → List AV → Prop
  | 0, _, _ => False
  | n + 1, t, cs => match P.underlying t with
    | some .bool => ∃ b, cs = [.bool b]
    | some (.int k) => ∃ i, cs = [.int k i] ∧ k.min ≤ i ∧ i ≤ k.max
    | some .string => ∃ s, cs = [.str s] ∧ s.length ≤ maxLen
    | some (.slice e) => cs = [.nils] ∨ ∃ es, cs = [.trl (P.cellsOf e) es] ∧ es.length ≤ maxLen ∧ ∀ c ∈ es, Shape P n e c
    | some (.struct fs) => ShapeFs (Shape P n) fs.toList cs
    | _ => False

def contig (P : Program) (G : TypeId → Bool) : List Field → Nat → Nat → Bool
  | [], off, n => Nat.beq off n
  | f :: r, off, n => Nat.beq f.offset off && (G f.type && contig P G r (off + P.cellsOf f.type) n)

/-- a type whose values are trees -/
def goodT (P : Program) : Nat → TypeId → Bool
  | 0, _ => false
  | n + 1, t => match P.underlying t with
    | some .bool | some (.int _) | some .string => Nat.beq (P.cellsOf t) 1
    | some (.slice e) => Nat.beq (P.cellsOf t) 1 && (Nat.ble 1 (P.cellsOf e) && goodT P n e)
    | some (.struct fs) => contig P (goodT P n) fs.toList 0 (P.cellsOf t)
    | _ => false

section
variable {H : Type} {enc : TypeId × Value → H} {P : Program} {w : World} {base : Nat} {held : Bool} {I : Nat → Prop}

def ReadAs (w : World) (I : Nat → Prop) (av : List AV) (cs : List Value) : Prop :=
  av.length = cs.length ∧ ∀ (k : Nat) c u, av[k]? = some c → cs[k]? = some u → RV w I Phi.no c u ∧ u.oneCell' = true

theorem ReadAs.one {c : AV} {u : Value} (h : RV w I Phi.no c u) (h1 : u.oneCell' = true) : ReadAs w I [c] [u] := by
  refine ⟨rfl, fun k c' u' e e' => ?_⟩
  cases k with
  | zero => simp at e e'; subst e; subst e'; exact ⟨h, h1⟩
  | succ k => simp at e

theorem ReadAs.append {a a' : List AV} {c c' : List Value} (h : ReadAs w I a c) (h' : ReadAs w I a' c') : ReadAs w I (a ++ a') (c ++ c') := by
  refine ⟨by simp [h.1, h'.1], fun k x u e e' => ?_⟩
  rw [List.getElem?_append] at e e'
  rw [h.1] at e
  split at e
  · rename_i hk; rw [if_pos hk] at e'; exact h.2 k x u e e'
  · rename_i hk; rw [if_neg hk] at e'; exact h'.2 _ x u e e'

theorem fields_ok {S : TypeId → List AV → Prop} {G : TypeId → Bool} {cs : List Value}
    (hS : ∀ t c, G t = true → c.length = P.cellsOf t → (∃ n x, DataW.trod enc P w base (fun _ => true) held n t c = some x) → ∃ av, S t av ∧ ReadAs w I av c) :
    ∀ (l : List Field) (off : Nat), contig P G l off cs.length = true → (∀ f ∈ l, ∃ n x, DataW.trod enc P w base (fun _ => true) held n f.type ((cs.drop f.offset).take (P.cellsOf f.type)) = some x ∧ ((cs.drop f.offset).take (P.cellsOf f.type)).length = P.cellsOf f.type) →
      ∃ av, ShapeFs S l av ∧ ReadAs w I av (cs.drop off)
  | [], off, h, _ => by
    have : off = cs.length := Nat.eq_of_beq_eq_true h
    subst this
    exact ⟨[], rfl, by simp, fun k c u e => by simp at e⟩
  | f :: r, off, h, hf => by
    unfold contig at h
    obtain ⟨h1, h2⟩ := and_true' h
    obtain ⟨h2, h3⟩ := and_true' h2
    have h1 := Nat.eq_of_beq_eq_true h1
    obtain ⟨b, g1, g2⟩ := fields_ok hS r _ h3 fun f' hf' => hf f' (by simp [hf'])
    obtain ⟨n, x, e1, e2⟩ := hf f (by simp)
    rw [h1] at e1 e2
    obtain ⟨a, g3, g4⟩ := hS f.type _ h2 e2 ⟨n, x, e1⟩
    refine ⟨a ++ b, ⟨a, b, rfl, g3, g1⟩, ?_⟩
    have := g4.append g2
    rwa [← List.drop_drop, List.take_append_drop] at this

theorem contig_fits {G : TypeId → Bool} : ∀ {l : List Field} {off n : Nat}, contig P G l off n = true → off ≤ n ∧ ∀ f ∈ l, f.offset + P.cellsOf f.type ≤ n
  | [], off, n, h => ⟨Nat.le_of_eq (Nat.eq_of_beq_eq_true h), fun f hf => by simp at hf⟩
  | f :: r, off, n, h => by
    unfold contig at h
    obtain ⟨h1, h2⟩ := and_true' h
    obtain ⟨h2, h3⟩ := and_true' h2
    have h1 := Nat.eq_of_beq_eq_true h1
    obtain ⟨g1, g2⟩ := contig_fits h3
    refine ⟨by omega, fun f' hf' => ?_⟩
    rcases List.mem_cons.1 hf' with e | hf'
    · subst e; omega
    · exact g2 f' hf'

theorem read_ok (hI : ∀ B, B < w.heap.size → I B) : ∀ (n : Nat) (t : TypeId) (cs : List Value), goodT P n t = true → cs.length = P.cellsOf t → (∃ m x, DataW.trod enc P w base (fun _ => true) held m t cs = some x) →
    ∃ av, Shape P n t av ∧ ReadAs w I av cs
  | 0, t, cs, h, _, _ => by cases h
  | n + 1, t, cs, h, hlen, ⟨m, x, hx⟩ => by
    unfold goodT at h
    unfold Shape
    cases hu : P.underlying t with
    | none => rw [hu] at h; cases h
    | some d =>
      rw [hu] at h
      cases m with
      | zero => simp [DataW.trod] at hx
      | succ m =>
        cases d <;> simp only at h ⊢ <;> try (cases h; done)
        case bool =>
          unfold DataW.trod at hx
          rw [hu] at hx
          split at hx <;> try (cases hx; done)
          all_goals first
            | exact ⟨_, ⟨_, rfl⟩, ReadAs.one (.bool _) rfl⟩
            | simp_all
        case int k =>
          obtain ⟨i, rfl, _, hw⟩ := DataW.trod_int hu hx
          simp only [Lit.wf, Bool.and_eq_true, decide_eq_true_eq] at hw
          exact ⟨_, ⟨i, rfl, hw.1, hw.2⟩, ReadAs.one (.int k i) rfl⟩
        case string =>
          unfold DataW.trod at hx
          rw [hu] at hx
          split at hx <;> simp_all
          rename_i s
          refine ⟨_, ⟨s.data.toList, rfl, ?_⟩, ReadAs.one (.str s _ rfl) rfl⟩
          have e : s.data.toList.length = s.size := by rw [Array.length_toList]; rfl
          omega
        case slice e =>
          obtain ⟨_, h⟩ := and_true' h
          obtain ⟨h1, h2⟩ := and_true' h
          have h1 : 1 ≤ P.cellsOf e := Nat.le_of_ble_eq_true h1
          rcases open_slice hu hx with ⟨rfl, _⟩ | ⟨a, len, cap, m', n', D, Pl, rfl, hb, hl, hm, hmm, rfl, hel⟩
          · exact ⟨_, .inl rfl, ReadAs.one .nils rfl⟩
          · simp only [if_true] at hmm
            subst hmm
            have hel' : ∀ i, i < m' → ∃ p : List Value × List AV, w.cells? base (a.add (i * P.cellsOf e)) (P.cellsOf e) = some p.1 ∧ Shape P n e p.2 ∧ ReadAs w I p.2 p.1 := by
              intro i hi
              obtain ⟨cs', c1, c2⟩ := hel i hi
              obtain ⟨_, c3, _⟩ := World.cells?_some c1
              obtain ⟨av, d1, d2⟩ := read_ok hI n e cs' h2 c3 ⟨n', _, c2⟩
              exact ⟨(cs', av), c1, d1, d2⟩
            obtain ⟨V, hV⟩ := choose_lt hel'
            refine ⟨_, .inr ⟨(List.range len).map fun i => (V i).2, rfl, by simp; omega, fun c hc => ?_⟩, ReadAs.one (.trl _ _ _ ?_ (by simp)) rfl⟩
            · obtain ⟨i, hi, rfl⟩ := List.mem_map.1 hc
              exact (hV i (Nat.lt_of_lt_of_le (by simpa using hi) hl)).2.1
            · rw [List.length_map, List.length_range]
              by_cases hc0 : m' = 0
              · subst hc0
                have : len = 0 := by omega
                subst this
                exact .trn _ _ _
              · have hspot : a.spot = none := by
                  obtain ⟨c1, _, _⟩ := hV 0 (by omega)
                  obtain ⟨_, _, c2⟩ := World.cells?_some c1
                  obtain ⟨_, c3, _⟩ := World.cells?_some c1
                  have := c2 0 (by omega)
                  rw [List.getElem?_eq_getElem (by omega)] at this
                  simp only [Nat.zero_mul, Addr.add, if_true] at this
                  unfold World.cell? at this
                  split at this
                  · cases hs : a.spot with
                    | none => rfl
                    | some s => rw [hs] at this; simp at this
                  · cases this
                obtain ⟨B, o, sp⟩ := a
                simp only at hspot
                subst hspot
                have hadd : ∀ o q, Addr.add ⟨B, o, none⟩ q = ⟨B, o + q, none⟩ := by
                  intro o q
                  unfold Addr.add
                  split
                  · rename_i h0; subst h0; rfl
                  · rfl
                have hget : ∀ i, i < len → ((List.range len).map fun i => (V i).2).getD i [] = (V i).2 := by
                  intro i hi
                  simp [List.getD, List.getElem?_map, List.getElem?_range hi]
                have hcell : ∀ i, i < len → ∀ k, k < P.cellsOf e → w.cell? ⟨B, o + i * P.cellsOf e + k, none⟩ = (V i).1[k]? := by
                  intro i hi k hk
                  obtain ⟨c1, _, _⟩ := hV i (by omega)
                  obtain ⟨_, _, c2⟩ := World.cells?_some c1
                  have := c2 k hk
                  rwa [hadd, hadd] at this
                have hl1 : ∀ i, i < len → (V i).1.length = P.cellsOf e := fun i hi => (World.cells?_some (hV i (by omega)).1).2.1
                have hbnd : ∀ i k c, i < len → (V i).2[k]? = some c → k < P.cellsOf e ∧ (V i).1[k]? = some (((V i).1[k]?).getD undef) := by
                  intro i k c hi ec
                  have hk : k < P.cellsOf e := by
                    have := (List.getElem?_eq_some_iff.1 ec).1
                    rwa [(hV i (by omega)).2.2.1, hl1 i hi] at this
                  exact ⟨hk, by rw [List.getElem?_eq_getElem (by rw [hl1 i hi]; exact hk)]; rfl⟩
                refine .tr _ len _ B o m' (fun i k => ((V i).1[k]?).getD undef) (fun h0 => hI B ?_) hl (fun i hi => ?_) (fun i k c hi e => ?_) (fun i k c hi e => ?_) (fun i k c hi e => ?_)
                · have h1' := hcell 0 h0 0 (by omega)
                  rw [List.getElem?_eq_getElem (by rw [hl1 0 h0]; omega)] at h1'
                  unfold World.cell? at h1'
                  split at h1'
                  · rename_i hB
                    simp only at hB
                    rcases Nat.lt_or_ge B w.heap.size with h | h
                    · exact h
                    · rw [Array.getElem?_eq_none h] at hB; cases hB
                  · cases h1'
                · rw [hget i hi, (hV i (by omega)).2.2.1, hl1 i hi]
                all_goals rw [hget i hi] at e
                all_goals obtain ⟨hk, hg⟩ := hbnd i k c hi e
                · rw [hcell i hi k hk]; exact hg
                · exact ((hV i (by omega)).2.2.2 k _ _ e hg).2
                · exact ((hV i (by omega)).2.2.2 k _ _ e hg).1
        case struct fs =>
          obtain ⟨xs, n', _, _, c1, c2, c3⟩ := DataW.trod_struct hu hx
          rw [← c1] at h
          have := fields_ok (S := Shape P n) (G := goodT P n) (fun t c g1 g2 g3 => read_ok hI n t c g1 g2 g3) fs.toList 0 h fun f hf => by
            obtain ⟨i, hi⟩ := List.getElem?_of_mem hf
            have hi' : fs[i]? = some f := by rwa [Array.getElem?_toList] at hi
            have := c3 i f hi'
            have hlt : i < xs.length := by rw [c2]; exact (Array.getElem?_eq_some_iff.1 hi').1
            rw [List.getElem?_eq_getElem hlt] at this
            refine ⟨_, _, this, ?_⟩
            have := (contig_fits h).2 f hf
            simp; omega
          simpa using this

end
end Go.AM
