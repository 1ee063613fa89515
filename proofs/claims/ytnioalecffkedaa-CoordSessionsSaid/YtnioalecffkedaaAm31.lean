/- Contracts that are told by a function on decoded arguments, under a guard. -/
import Derived.Test.YtnioalecffkedaaAm30
set_option linter.unusedVariables false
set_option linter.unusedSimpArgs false
namespace Go.AM

noncomputable def cd (g : Prop) : Bool := @decide g (Classical.propDecidable g)

theorem cd_iff {g : Prop} : cd g = true ↔ g := by exact @decide_eq_true_iff g (Classical.propDecidable g)

/-- the guard of a contract -/
def gP {X : Type} (dec : List AV → X) (pre : X → Prop) (enc : X → List AV) (args : List AV) : Prop := pre (dec args) ∧ SubC args (enc (dec args))

noncomputable def Known.spec {X : Type} (f : Nat) (dec : List AV → X) (pre : X → Prop) (enc : X → List AV) (out : X → AV) : Known :=
  { f := f, ans := fun args => some { X := X, g := cd (gP dec pre enc args), a := dec args, r := fun x => (out x, []) } }

theorem Known.spec_ok {P : Program} {X : Type} {f : Nat} {dec : List AV → X} {pre : X → Prop} {enc : X → List AV} {out : X → AV}
    (h : ∀ x, pre x → Contract P f (enc x) [] (out x) []) : (Known.spec f dec pre enc out).Ok P := by
  intro args A e hg
  cases e
  obtain ⟨h1, h2⟩ := cd_iff.1 hg
  exact (h _ h1).args h2

/-- at one point -/
noncomputable def Known.one (f : Nat) (args : List AV) (r : AV) : Known := Known.spec (X := Unit) f (fun _ => ()) (fun _ => True) (fun _ => args) (fun _ => r)

theorem Known.one_ok {P : Program} {f : Nat} {args : List AV} {r : AV} (h : Contract P f args [] r []) : (Known.one f args r).Ok P := Known.spec_ok fun _ _ => h

/-- a guard, and what is done of what is known behind it -/
noncomputable def gX {R : Type} {X : Type} (g : Prop) (a : X) (k : X → Option R) : Option R := bif cd g then appX k a else .none

theorem gX_of {R : Type} {X : Type} {g : Prop} {a : X} {k : X → Option R} (h : g) : gX g a k = k a := by
  unfold gX; rw [cd_iff.2 h]; rfl

theorem gX_eq {R : Type} {X : Type} {dec : List AV → X} {pre : X → Prop} {enc : X → List AV} {A : List AV} {k : X → Option R} (x : X) (h1 : dec A = x) (h2 : pre x) (h3 : SubC A (enc x)) :
    gX (gP dec pre enc A) (dec A) k = k x := by
  subst h1; exact gX_of ⟨h2, h3⟩

/-- a call that is known -/
noncomputable def gC {R : Type} {X : Type} (dec : List AV → X) (pre : X → Prop) (enc : X → List AV) (A : List AV) (k : X → Option R) : Option R := gX (gP dec pre enc A) (dec A) k

theorem gC_eq {R : Type} {X : Type} {dec : List AV → X} {pre : X → Prop} {enc : X → List AV} {A : List AV} {k : X → Option R} (x : X) (h1 : dec A = x) (h2 : pre x) (h3 : SubC A (enc x)) :
    gC dec pre enc A k = k x := gX_eq x h1 h2 h3

def unD : List AV → Unit := fun _ => ()
def unP : Unit → Prop := fun _ => True
theorem gC_one {R : Type} {B A : List AV} {k : Unit → Option R} (h : SubC A B) : gC unD unP (fun _ => B) A k = k () := gC_eq () rfl trivial h

/-! ### decoding -/

def getI (cs : List AV) (i : Nat) : Int := match cs[i]? with
  | some (.int _ n) => n
  | _ => 0
def getB (cs : List AV) (i : Nat) : Bool := match cs[i]? with
  | some (.bool b) => b
  | _ => false
def getS (cs : List AV) (i : Nat) : List UInt8 := match cs[i]? with
  | some (.str s) => s
  | _ => []
def getC (cs : List AV) (i : Nat) : Nat × Nat := match cs[i]? with
  | some (.cplx _ a b) => (a, b)
  | _ => (0, 0)
/-- the cells of an argument -/
def argC (args : List AV) (i : Nat) : List AV := match args[i]? with
  | some v => v.cells
  | .none => []
def decL {X : Type} (d : List AV → X) : AV → List X
  | .tr _ n f => (List.range n).map fun i => d (f i)
  | .trl _ es => es.map d
  | _ => []
def getL {X : Type} (d : List AV → X) (cs : List AV) (i : Nat) : List X := decL d (cs.getD i .nils)

/-- a list as a tree -/
def encL {X : Type} (sz : Nat) (e : X → List AV) (z : X) (l : List X) : AV := .tr sz l.length fun i => e (l.getD i z)

theorem decL_encL {X : Type} {sz : Nat} {e : X → List AV} {d : List AV → X} {z : X} (h : ∀ x, d (e x) = x) (l : List X) : decL d (encL sz e z l) = l := by
  simp only [decL, encL, h]
  refine List.ext_getElem (by simp) fun i h1 h2 => ?_
  simp [List.getD, List.getElem?_eq_getElem h2]

theorem SubV.toTrl {sz : Nat} {f : Nat → List AV} {es : List (List AV)} (hne : 0 < es.length) (h : ∀ i, i < es.length → SubC (f i) (es.getD i [])) : SubV (.tr sz es.length f) (.trl sz es) := by
  intro w I u hv
  refine .trl _ _ _ (SubV.trs h w I u hv) ?_
  rintro rfl
  generalize es.length = n at *
  cases hv with
  | trn => cases hne

theorem SubV.encL_trl {X : Type} {sz : Nat} {e : X → List AV} {z : X} (l : List X) (hne : l ≠ []) : SubV (encL sz e z l) (.trl sz (l.map e)) := by
  have := SubV.toTrl (sz := sz) (f := fun i => e (l.getD i z)) (es := l.map e) (by simpa [List.length_pos_iff] using hne) fun i hi => by
    have hi : i < l.length := by simpa using hi
    have : (l.map e).getD i [] = e (l.getD i z) := by simp [List.getD, List.getElem?_eq_getElem hi]
    rw [this]; exact .refl _
  rwa [List.length_map] at this

/-! ### either or -/

def OrV (c c1 c2 : AV) : Prop := ∀ (w : World) (I : Nat → Prop) (u : Value), RV w I Phi.no c u → RV w I Phi.no c1 u ∨ RV w I Phi.no c2 u
def OrC (c c1 c2 : List AV) : Prop := c1.length = c.length ∧ c2.length = c.length ∧ ∀ (w : World) (I : Nat → Prop) (ra : Array Value), RVs w I Phi.no c ra → RVs w I Phi.no c1 ra ∨ RVs w I Phi.no c2 ra

theorem OrV.nil {sz : Nat} {f : Nat → List AV} : OrV (.tr sz 0 f) .nils (.trl sz []) := by
  intro w I u hv
  cases hv with
  | tr _ _ _ B o cap uf hI hn' hlen hc h1 hr =>
    exact .inr (.trl _ _ _ (.tr sz 0 _ B o cap uf hI hn' (fun i hi => by omega) (fun i k c hi => by omega) (fun i k c hi => by omega) (fun i k c hi => by omega)) (by simp))
  | trn _ _ a => cases a with
    | none => exact .inl .nils
    | some a => exact .inr (.trl _ _ _ (.trn _ _ _) (by simp))

theorem rvs_cells {w : World} {I : Nat → Prop} {φ : Phi} {c c1 : AV} {a b : List AV} {vs : Array Value} (h : RVs w I φ (a ++ c :: b) vs) (hc : ∀ u, RV w I φ c u → RV w I φ c1 u) : RVs w I φ (a ++ c1 :: b) vs := by
  refine ⟨by rw [← h.1]; simp, fun k x u e e' => ?_⟩
  rw [List.getElem?_append] at e
  split at e
  · rename_i hk; exact h.2 k x u (by rw [List.getElem?_append_left hk]; exact e) e'
  · rename_i hk
    have hk : a.length ≤ k := Nat.le_of_not_lt hk
    cases hd : k - a.length with
    | zero =>
      rw [hd] at e; simp at e; subst e
      exact hc u (h.2 k c u (by rw [List.getElem?_append_right hk, hd]; rfl) e')
    | succ m =>
      rw [hd] at e
      exact h.2 k x u (by rw [List.getElem?_append_right hk, hd]; exact e) e'

theorem rvs_at {w : World} {I : Nat → Prop} {φ : Phi} {c : AV} {a b : List AV} {vs : Array Value} (h : RVs w I φ (a ++ c :: b) vs) : ∃ u, RV w I φ c u ∧ vs[a.length]? = some u := by
  have hl : a.length < vs.size := by rw [← h.1]; simp
  exact ⟨vs[a.length], h.2 a.length c _ (by simp) (Array.getElem?_eq_getElem hl), Array.getElem?_eq_getElem hl⟩

theorem OrC.of {c c1 c2 : AV} (a b : List AV) (h : OrV c c1 c2) : OrC (a ++ c :: b) (a ++ c1 :: b) (a ++ c2 :: b) := by
  refine ⟨by simp, by simp, fun w I ra hx => ?_⟩
  obtain ⟨u, hu, he⟩ := rvs_at hx
  have key : ∀ c', RV w I Phi.no c' u → RVs w I Phi.no (a ++ c' :: b) ra := by
    intro c' hc'
    refine ⟨by rw [← hx.1]; simp, fun k x v e e' => ?_⟩
    by_cases hk : k = a.length
    · subst hk
      rw [he] at e'; cases e'
      simp at e; subst e; exact hc'
    · refine hx.2 k x v ?_ e'
      rw [List.getElem?_append] at e ⊢
      split at e
      · rename_i h; rw [if_pos h]; exact e
      · rename_i h
        rw [if_neg h]
        obtain ⟨m, hm⟩ : ∃ m, k - a.length = m + 1 := ⟨k - a.length - 1, by omega⟩
        rw [hm] at e ⊢; exact e
  exact (h w I u hu).imp (key c1) (key c2)

theorem OrV.agg {cs c1 c2 : List AV} (h : OrC cs c1 c2) : OrV (.agg cs) (.agg c1) (.agg c2) := by
  intro w I u hv
  cases hv with
  | agg _ vs hl h1 hr =>
    refine (h.2.2 w I vs ⟨hl, hr⟩).imp (fun g => .agg _ _ (h.1.trans hl) h1 g.2) (fun g => .agg _ _ (h.2.1.trans hl) h1 g.2)

theorem Contract.split {P : Program} {f : Nat} {args args1 args2 : List AV} {r : AV} {bs : Heap} (hs : OrC args args1 args2) (h1 : Contract P f args1 [] r bs) (h2 : Contract P f args2 [] r bs) : Contract P f args [] r bs := by
  intro w I φ ra hh hx
  have := phi_nil hh
  subst this
  rcases hs.2.2 w I ra hx with hx | hx
  · exact h1 w I Phi.no ra hh hx
  · exact h2 w I Phi.no ra hh hx

theorem SubV.trl_encL {X : Type} {sz : Nat} {e : X → List AV} {z : X} (l : List X) : SubV (.trl sz (l.map e)) (encL sz e z l) := by
  have := SubV.tr (sz := sz) (es := l.map e) (f := fun i => e (l.getD i z)) fun i hi => by
    have hi : i < l.length := by simpa using hi
    have : (l.map e).getD i [] = e (l.getD i z) := by simp [List.getD, List.getElem?_eq_getElem hi]
    rw [this]; exact .refl _
  rwa [List.length_map] at this

/-- a list that is shown as cells, as it is told -/
theorem SubV.trl_of {X : Type} {sz : Nat} {e : X → List AV} {z : X} {es : List (List AV)} (l : List X) (h : es = l.map e) : SubV (.trl sz es) (encL sz e z l) := by
  subst h; exact trl_encL l

end Go.AM
