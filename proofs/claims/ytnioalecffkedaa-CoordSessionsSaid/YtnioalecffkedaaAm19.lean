/- Snapshots: what a value reads as. -/
import Derived.Test.YtnioalecffkedaaAm18
set_option linter.unusedVariables false
set_option linter.unusedSimpArgs false
namespace Go.AM

/-- the blocks of a list of abstract ones -/
def InL (φ : Phi) (l : List Nat) (B : Nat) : Prop := ∃ b ∈ l, ∃ o sz, φ b = some (B, o, sz)

section
variable {w : World} {I : Nat → Prop} {φ : Phi} {rd : Nat → BS}

/-- what a snapshot says of one value -/
def SnapV (w : World) (I : Nat → Prop) (φ : Phi) (l : List Nat) (v v' : AV) : Prop :=
  ∀ I' : Nat → Prop, (∀ B, I B → I' B) → (∀ B, InL φ l B → I' B) → ∀ u, RV w I φ v u → RV w I' Phi.no v' u

theorem SnapV.more {l l' : List Nat} {v v' : AV} (h : SnapV w I φ l v v') (hl : ∀ b ∈ l, b ∈ l') : SnapV w I φ l' v v' :=
  fun I' h1 h2 u hu => h I' h1 (fun B ⟨b, hb, r⟩ => h2 B ⟨b, hl b hb, r⟩) u hu

def SnapL (w : World) (I : Nat → Prop) (φ : Phi) (l : List Nat) (cs cs' : List AV) : Prop :=
  cs'.length = cs.length ∧ ∀ (k : Nat) c', cs'[k]? = some c' → ∃ c, cs[k]? = some c ∧ SnapV w I φ l c c'

theorem SnapL.more {l l' : List Nat} {v v' : List AV} (h : SnapL w I φ l v v') (hl : ∀ b ∈ l, b ∈ l') : SnapL w I φ l' v v' :=
  ⟨h.1, fun k c' e => let ⟨c, e', s⟩ := h.2 k c' e; ⟨c, e', s.more hl⟩⟩

theorem SnapL.nil {l : List Nat} : SnapL w I φ l [] [] := ⟨rfl, fun k c' e => by simp at e⟩

theorem SnapL.cons {l : List Nat} {v v' : AV} {cs cs' : List AV} (h : SnapV w I φ l v v') (hs : SnapL w I φ l cs cs') : SnapL w I φ l (v :: cs) (v' :: cs') := by
  refine ⟨by simp [hs.1], fun k c' e => ?_⟩
  cases k with
  | zero => simp at e; exact ⟨v, rfl, e ▸ h⟩
  | succ k => simp at e; obtain ⟨c, e', s⟩ := hs.2 k c' e; exact ⟨c, by simpa using e', s⟩

def SnapLL (w : World) (I : Nat → Prop) (φ : Phi) (l : List Nat) (es es' : List (List AV)) : Prop :=
  es'.length = es.length ∧ ∀ (k : Nat) c', es'[k]? = some c' → ∃ c, es[k]? = some c ∧ SnapL w I φ l c c'

theorem SnapLL.nil {l : List Nat} : SnapLL w I φ l [] [] := ⟨rfl, fun k c' e => by simp at e⟩

theorem SnapLL.cons {l : List Nat} {v v' : List AV} {cs cs' : List (List AV)} (h : SnapL w I φ l v v') (hs : SnapLL w I φ l cs cs') : SnapLL w I φ l (v :: cs) (v' :: cs') := by
  refine ⟨by simp [hs.1], fun k c' e => ?_⟩
  cases k with
  | zero => simp at e; exact ⟨v, rfl, e ▸ h⟩
  | succ k => simp at e; obtain ⟨c, e', s⟩ := hs.2 k c' e; exact ⟨c, by simpa using e', s⟩

theorem SnapLL.more {l l' : List Nat} {v v' : List (List AV)} (h : SnapLL w I φ l v v') (hl : ∀ b ∈ l, b ∈ l') : SnapLL w I φ l' v v' :=
  ⟨h.1, fun k c' e => let ⟨c, e', s⟩ := h.2 k c' e; ⟨c, e', s.more hl⟩⟩

/-- one that leads nowhere into the heap -/
theorem SnapV.self {l : List Nat} {v : AV} (h : refFree v = true) : SnapV w I φ l v v :=
  fun I' h1 _ u hu => (hu.free h).mono (fun B hB => ⟨h1 B hB, rfl⟩) (fun _ => Nat.le_refl _) (Phi.le_refl _)

/-- a view's cells become a tree -/
theorem SnapV.row {l : List Nat} {b B0 o0 sz0 : Nat} {sz off len cm n : Nat} {f : Nat → List AV} (hb : φ b = some (B0, o0, sz0)) (hl : b ∈ l) (hlive : 0 < len)
    (hn : n = len) (hlen : ∀ i, i < len → (f i).length = sz)
    (hcells : ∀ I' : Nat → Prop, (∀ B, I B → I' B) → (∀ B, InL φ l B → I' B) → sz0 = sz → ∀ (i k : Nat) c, i < len → (f i)[k]? = some c → ∃ u, w.cell? ⟨B0, o0 + (off + i) * sz + k, none⟩ = some u ∧ u.oneCell' = true ∧ RV w I' Phi.no c u) :
    SnapV w I φ l (.sl sz b off len cm) (.tr sz n f) := by
  intro I' h1 h2 u hu
  subst hn
  cases hu with
  | sl _ _ B o _ _ _ cap q hφ hq hl' hc hs =>
    rw [hb] at hφ; cases hφ
    have hc' := hcells I' h1 h2 rfl
    refine .tr sz0 n f B0 q cap (fun i k => (w.cell? ⟨B0, o0 + (off + i) * sz0 + k, none⟩).getD undef) (fun _ => h2 B0 ⟨b, hl, _, _, hb⟩) (Nat.le_trans hl' hc) hlen (fun i k c hi e => ?_) (fun i k c hi e => ?_) (fun i k c hi e => ?_)
    · obtain ⟨u, e1, e2, e3⟩ := hc' i k c hi e
      rw [e1, hq, show o0 + off * sz0 + i * sz0 + k = o0 + (off + i) * sz0 + k by rw [Nat.add_mul]; omega, e1]; rfl
    · obtain ⟨u, e1, e2, e3⟩ := hc' i k c hi e
      rw [e1]; exact e2
    · obtain ⟨u, e1, e2, e3⟩ := hc' i k c hi e
      rw [e1]; exact e3
  | sle => omega

theorem snap_ok (hh : RH w I φ rd) : ∀ d,
    (∀ v v' l, snap d rd v = some (v', l) → (∀ b ∈ l, live (rd b) = true) ∧ SnapV w I φ l v v') ∧
    (∀ v v' l, snapL d rd v = some (v', l) → (∀ b ∈ l, live (rd b) = true) ∧ SnapL w I φ l v v') ∧
    (∀ v v' l, snapLL d rd v = some (v', l) → (∀ b ∈ l, live (rd b) = true) ∧ SnapLL w I φ l v v') := by
  intro d
  induction d with
  | zero => exact ⟨fun v v' l h => (by simp [snap] at h), fun v v' l h => (by simp [snapL] at h), fun v v' l h => (by simp [snapLL] at h)⟩
  | succ d ih =>
    obtain ⟨ih1, ih2, ih3⟩ := ih
    refine ⟨fun v v' l h => ?_, fun v v' l h => ?_, fun v v' l h => ?_⟩
    · unfold snap at h
      cases v with
      | ptr b i j =>
        simp only at h
        cases hb : rd b with
        | arr m s es =>
          rw [hb] at h
          simp only at h
          cases he : es[i]? with
          | none => rw [he] at h; cases h
          | some cs =>
            rw [he] at h
            simp only at h
            cases hs : snapL d rd cs with
            | none => rw [hs] at h; cases h
            | some p =>
              obtain ⟨cs', l'⟩ := p
              rw [hs] at h
              cases h
              obtain ⟨hl, hlen, hsn⟩ := ih2 _ _ _ hs
              refine ⟨fun b' hb' => ?_, fun I' h1 h2 u hu => ?_⟩
              · rcases List.mem_cons.1 hb' with e | e
                · rw [e, hb]; rfl
                · exact hl b' e
              · cases hu with
                | ptr _ B o sz _ _ q hφ hq =>
                  obtain ⟨B', o', sz', e', hrb⟩ := hh.blk b (by rw [hb]; rfl)
                  rw [hφ] at e'; cases e'
                  rw [hb] at hrb
                  obtain ⟨rfl, _, hel, hcs⟩ := hrb
                  have key : ∀ (k : Nat) c', cs'[k]? = some c' → ∃ u, w.cell? ⟨B, o + i * s + k, none⟩ = some u ∧ u.oneCell' = true ∧ RV w I' Phi.no c' u := by
                    intro k c' e
                    obtain ⟨c, e1, e2⟩ := hsn k c' e
                    obtain ⟨u, a1, a2, a3⟩ := hcs i cs k c he e1
                    exact ⟨u, a1, a2, e2 I' h1 (fun B ⟨b', hb', r⟩ => h2 B ⟨b', by simp [hb'], r⟩) u a3⟩
                  refine .tp cs' j B (o + i * s) q (fun k => (w.cell? ⟨B, o + i * s + k, none⟩).getD undef) (h2 B ⟨b, by simp, _, _, hφ⟩) hq (fun k c e => ?_) (fun k c e => ?_) (fun k c e => ?_)
                  all_goals
                    obtain ⟨u, a1, a2, a3⟩ := key k c e
                    rw [a1]
                    first | rfl | exact a2 | exact a3
        | seq m s n f =>
          rw [hb] at h
          simp only at h
          obtain ⟨hi, h⟩ := cond_some h
          cases h
          have hi : i < n := by simpa [Nat.blt_eq] using hi
          refine ⟨fun b' hb' => ?_, fun I' h1 h2 u hu => ?_⟩
          · simp at hb'; rw [hb', hb]; rfl
          · cases hu with
            | ptr _ B o sz _ _ q hφ hq =>
              obtain ⟨B', o', sz', e', hrb⟩ := hh.blk b (by rw [hb]; rfl)
              rw [hφ] at e'; cases e'
              rw [hb] at hrb
              obtain ⟨rfl, _, hel, hcs⟩ := hrb
              have key : ∀ (k : Nat) c', (f i)[k]? = some c' → ∃ u, w.cell? ⟨B, o + i * s + k, none⟩ = some u ∧ u.oneCell' = true ∧ RV w I' Phi.no c' u := by
                intro k c' e
                obtain ⟨u, a1, a2, a3⟩ := hcs i k c' hi e
                exact ⟨u, a1, a2, a3.mono (fun B hB => ⟨h1 B hB, rfl⟩) (fun _ => Nat.le_refl _) (Phi.le_refl _)⟩
              refine .tp (f i) j B (o + i * s) q (fun k => (w.cell? ⟨B, o + i * s + k, none⟩).getD undef) (h2 B ⟨b, by simp, _, _, hφ⟩) hq (fun k c e => ?_) (fun k c e => ?_) (fun k c e => ?_)
              all_goals
                obtain ⟨u, a1, a2, a3⟩ := key k c e
                rw [a1]
                first | rfl | exact a2 | exact a3
        | none => rw [hb] at h; cases h
        | dead => rw [hb] at h; cases h
        | map m es => rw [hb] at h; cases h
        | iter m es st => rw [hb] at h; cases h
      | sl sz b off len cm =>
        simp only at h
        cases hz : Nat.beq len 0 with
        | true =>
          rw [hz, cond_true] at h
          cases h
          have hz := Nat.eq_of_beq_eq_true hz
          subst hz
          refine ⟨fun b' hb' => by simp at hb', fun I' h1 h2 u hu => .trl _ _ _ ?_ (by rintro rfl; cases hu)⟩
          cases hu with
          | sl _ _ B o _ _ _ cap q hφ hq hl' hc hs =>
            exact .tr sz 0 _ B q cap (fun _ _ => undef) (fun h0 => absurd h0 (Nat.lt_irrefl 0)) (Nat.zero_le _) (fun i hi => by omega) (fun i k c hi => by omega) (fun i k c hi => by omega) (fun i k c hi => by omega)
          | sle _ _ _ a => exact .trn sz _ a
        | false =>
          rw [hz, cond_false] at h
          have hz : 0 < len := by
            rcases Nat.eq_zero_or_pos len with e | e
            · subst e; cases hz
            · exact e
          cases hb : rd b with
          | arr m s es =>
            rw [hb] at h
            simp only at h
            obtain ⟨hle, h⟩ := cond_some h
            have hle := Nat.le_of_ble_eq_true hle
            cases hs : snapLL d rd ((es.drop off).take len) with
            | none => rw [hs] at h; cases h
            | some p =>
              obtain ⟨es', l'⟩ := p
              rw [hs] at h
              cases h
              obtain ⟨hl, hlen, hsn⟩ := ih3 _ _ _ hs
              obtain ⟨B0, o0, sz0, hφ, hrb⟩ := hh.blk b (by rw [hb]; rfl)
              rw [hb] at hrb
              obtain ⟨rfl, _, hel, hcs⟩ := hrb
              have hlen' : es'.length = len := by rw [hlen]; simp; omega
              have hat : ∀ i, i < len → ∃ cs', es'[i]? = some cs' ∧ ∃ cs, es[off + i]? = some cs ∧ SnapL w I φ l' cs cs' := by
                intro i hi
                obtain ⟨cs', e⟩ := elem_list (es := es') (i := i) (by omega)
                obtain ⟨cs, e1, e2⟩ := hsn i cs' e
                rw [List.getElem?_take, if_pos hi, List.getElem?_drop] at e1
                exact ⟨cs', e, cs, e1, e2⟩
              refine ⟨fun b' hb' => ?_, fun I' h1 h2 u hu => .trl _ _ _ ?_ (by rintro rfl; cases hu)⟩
              · rcases List.mem_cons.1 hb' with e | e
                · rw [e, hb]; rfl
                · exact hl b' e
              · rw [hlen']
                by_cases hss : s = sz
                · subst hss
                  refine SnapV.row (l := b :: l') hφ (by simp) hz rfl (fun i hi => ?_) (fun I' h1 h2 _ i k c hi e => ?_) I' h1 h2 u hu
                  · obtain ⟨cs', e, cs, e1, e2⟩ := hat i hi
                    simp only [List.getD, e, Option.getD_some]
                    rw [e2.1]; exact hel _ _ e1
                  · obtain ⟨cs', e', cs, e1, e2⟩ := hat i hi
                    simp only [List.getD, e', Option.getD_some] at e
                    obtain ⟨c0, e3, e4⟩ := e2.2 k c e
                    obtain ⟨u, a1, a2, a3⟩ := hcs _ cs k c0 e1 e3
                    exact ⟨u, a1, a2, e4 I' h1 (fun B ⟨b', hb', r⟩ => h2 B ⟨b', by simp [hb'], r⟩) u a3⟩
                · cases hu with
                  | sl _ _ B o _ _ _ cap q hφ' _ _ _ _ => rw [hφ] at hφ'; cases hφ'; exact absurd rfl hss
                  | sle => omega
          | seq m s n f =>
            rw [hb] at h
            simp only at h
            obtain ⟨B0, o0, sz0, hφ, hrb⟩ := hh.blk b (by rw [hb]; rfl)
            rw [hb] at hrb
            obtain ⟨rfl, _, hel, hcs⟩ := hrb
            have gen : ∀ g : Nat → List AV, off + len ≤ n → (∀ i, i < len → g i = f (off + i)) → SnapV w I φ [b] (.sl sz b off len cm) (.tr sz len g) := by
              intro g hle hg I' h1 h2 u hu
              by_cases hss : s = sz
              · subst hss
                refine SnapV.row (l := [b]) hφ (by simp) hz rfl (fun i hi => ?_) (fun I' h1 h2 _ i k c hi e => ?_) I' h1 h2 u hu
                · rw [hg i hi]; exact hel _ (by omega)
                · rw [hg i hi] at e
                  obtain ⟨u, a1, a2, a3⟩ := hcs (off + i) k c (by omega) e
                  exact ⟨u, a1, a2, a3.mono (fun B hB => ⟨h1 B hB, rfl⟩) (fun _ => Nat.le_refl _) (Phi.le_refl _)⟩
              · cases hu with
                | sl _ _ B o _ _ _ cap q hφ' _ _ _ _ => rw [hφ] at hφ'; cases hφ'; exact absurd rfl hss
                | sle => omega
            cases hw : (Nat.beq off 0 && Nat.beq len n) with
            | true =>
              rw [hw, cond_true] at h
              obtain ⟨h1, h2⟩ := and_true' hw
              have h1 := Nat.eq_of_beq_eq_true h1
              have h2 := Nat.eq_of_beq_eq_true h2
              cases h
              subst h1; subst h2
              exact ⟨fun b' hb' => by simp at hb'; rw [hb', hb]; rfl, gen f (by omega) fun i hi => by rw [Nat.zero_add]⟩
            | false =>
              rw [hw, cond_false] at h
              obtain ⟨hle, h⟩ := cond_some h
              have hle := Nat.le_of_ble_eq_true hle
              cases h
              refine ⟨fun b' hb' => by simp at hb'; rw [hb', hb]; rfl, gen _ hle fun i hi => ?_⟩
              have : Nat.blt i len = true := by rw [Nat.blt_eq]; exact hi
              simp only [this, cond_true]
          | none => rw [hb] at h; cases h
          | dead => rw [hb] at h; cases h
          | map m es => rw [hb] at h; cases h
          | iter m es st => rw [hb] at h; cases h
      | agg cs =>
        simp only at h
        cases hs : snapL d rd cs with
        | none => rw [hs] at h; cases h
        | some p =>
          obtain ⟨cs', l'⟩ := p
          rw [hs] at h
          cases h
          obtain ⟨hl, hlen, hsn⟩ := ih2 _ _ _ hs
          refine ⟨hl, fun I' h1 h2 u hu => ?_⟩
          cases hu with
          | agg _ vs hl h1' hr =>
            refine .agg _ _ (hlen.trans hl) h1' fun k c u e e' => ?_
            obtain ⟨c0, e1, e2⟩ := hsn k c e
            exact e2 I' h1 h2 u (hr k c0 u e1 e')
      | tup cs =>
        simp only at h
        cases hs : snapL d rd cs with
        | none => rw [hs] at h; cases h
        | some p =>
          obtain ⟨cs', l'⟩ := p
          rw [hs] at h
          cases h
          obtain ⟨hl, hlen, hsn⟩ := ih2 _ _ _ hs
          refine ⟨hl, fun I' h1 h2 u hu => ?_⟩
          cases hu with
          | tup _ vs hl hr =>
            refine .tup _ _ (hlen.trans hl) fun k c u e e' => ?_
            obtain ⟨c0, e1, e2⟩ := hsn k c e
            exact e2 I' h1 h2 u (hr k c0 u e1 e')
      | fn f a c =>
        simp only at h
        cases hs : snapL d rd a with
        | none => rw [hs] at h; cases h
        | some p =>
          obtain ⟨a', l1⟩ := p
          cases hs2 : snapL d rd c with
          | none => rw [hs, hs2] at h; cases h
          | some p =>
            obtain ⟨c', l2⟩ := p
            rw [hs, hs2] at h
            cases h
            obtain ⟨hl1, hlen1, hsn1⟩ := ih2 _ _ _ hs
            obtain ⟨hl2, hlen2, hsn2⟩ := ih2 _ _ _ hs2
            refine ⟨fun b hb => (List.mem_append.1 hb).elim (hl1 b) (hl2 b), fun I' h1 h2 u hu => ?_⟩
            cases hu with
            | fn _ _ _ va vc hla hlc ha hc =>
              refine .fn _ _ _ _ _ (hlen1.trans hla) (hlen2.trans hlc) (fun k c u e e' => ?_) (fun k c u e e' => ?_)
              · obtain ⟨c0, e1, e2⟩ := hsn1 k c e
                exact e2 I' h1 (fun B ⟨b, hb, r⟩ => h2 B ⟨b, by simp [hb], r⟩) u (ha k c0 u e1 e')
              · obtain ⟨c0, e1, e2⟩ := hsn2 k c e
                exact e2 I' h1 (fun B ⟨b, hb, r⟩ => h2 B ⟨b, by simp [hb], r⟩) u (hc k c0 u e1 e')
      | mp b => cases h
      | _ => cases h; exact ⟨fun b hb => by simp at hb, SnapV.self rfl⟩
    · unfold snapL at h
      cases v with
      | nil => cases h; exact ⟨fun b hb => by simp at hb, SnapL.nil⟩
      | cons x r =>
        simp only at h
        cases hs : snap d rd x with
        | none => rw [hs] at h; cases h
        | some p =>
          obtain ⟨x', l1⟩ := p
          cases hs2 : snapL d rd r with
          | none => rw [hs, hs2] at h; cases h
          | some p =>
            obtain ⟨r', l2⟩ := p
            rw [hs, hs2] at h
            cases h
            obtain ⟨a1, a2⟩ := ih1 _ _ _ hs
            obtain ⟨b1, b2⟩ := ih2 _ _ _ hs2
            exact ⟨fun b hb => (List.mem_append.1 hb).elim (a1 b) (b1 b), SnapL.cons (a2.more fun b hb => List.mem_append_left _ hb) (b2.more fun b hb => List.mem_append_right _ hb)⟩
    · unfold snapLL at h
      cases v with
      | nil => cases h; exact ⟨fun b hb => by simp at hb, SnapLL.nil⟩
      | cons x r =>
        simp only at h
        cases hs : snapL d rd x with
        | none => rw [hs] at h; cases h
        | some p =>
          obtain ⟨x', l1⟩ := p
          cases hs2 : snapLL d rd r with
          | none => rw [hs, hs2] at h; cases h
          | some p =>
            obtain ⟨r', l2⟩ := p
            rw [hs, hs2] at h
            cases h
            obtain ⟨a1, a2⟩ := ih2 _ _ _ hs
            obtain ⟨b1, b2⟩ := ih3 _ _ _ hs2
            exact ⟨fun b hb => (List.mem_append.1 hb).elim (a1 b) (b1 b), SnapLL.cons (a2.more fun b hb => List.mem_append_left _ hb) (b2.more fun b hb => List.mem_append_right _ hb)⟩

/-- a snapshot sees the blocks that it names, and no other -/
theorem snap_frame {rd rd' : Nat → BS} : ∀ d,
    (∀ v v' l, snap d rd v = some (v', l) → (∀ b ∈ l, rd' b = rd b) → snap d rd' v = some (v', l)) ∧
    (∀ v v' l, snapL d rd v = some (v', l) → (∀ b ∈ l, rd' b = rd b) → snapL d rd' v = some (v', l)) ∧
    (∀ v v' l, snapLL d rd v = some (v', l) → (∀ b ∈ l, rd' b = rd b) → snapLL d rd' v = some (v', l)) := by
  intro d
  induction d with
  | zero => exact ⟨fun v v' l h => (by simp [snap] at h), fun v v' l h => (by simp [snapL] at h), fun v v' l h => (by simp [snapLL] at h)⟩
  | succ d ih =>
    obtain ⟨ih1, ih2, ih3⟩ := ih
    refine ⟨fun v v' l h hl => ?_, fun v v' l h hl => ?_, fun v v' l h hl => ?_⟩
    · unfold snap at h ⊢
      cases v with
      | ptr b i j =>
        simp only at h ⊢
        have hb : rd' b = rd b := by
          refine hl b ?_
          cases hb : rd b with
          | arr m s es =>
            rw [hb] at h
            simp only at h
            cases he : es[i]? with
            | none => rw [he] at h; cases h
            | some cs =>
              rw [he] at h
              simp only at h
              cases hs : snapL d rd cs with
              | none => rw [hs] at h; cases h
              | some p => rw [hs] at h; cases h; simp
          | seq m s n f =>
            rw [hb] at h
            obtain ⟨_, h⟩ := cond_some h
            cases h; simp
          | none => rw [hb] at h; cases h
          | dead => rw [hb] at h; cases h
          | map m es => rw [hb] at h; cases h
          | iter m es st => rw [hb] at h; cases h
        rw [hb]
        cases hb : rd b with
        | arr m s es =>
          rw [hb] at h
          simp only at h ⊢
          cases he : es[i]? with
          | none => rw [he] at h; cases h
          | some cs =>
            rw [he] at h
            simp only at h ⊢
            cases hs : snapL d rd cs with
            | none => rw [hs] at h; cases h
            | some p =>
              rw [hs] at h
              cases h
              rw [ih2 _ _ _ hs fun b hb => hl b (by simp [hb])]
        | _ => rw [hb] at h; exact h
      | sl sz b off len cm =>
        simp only at h ⊢
        cases hz : Nat.beq len 0 with
        | true => rw [hz] at h; exact h
        | false =>
          rw [hz, cond_false] at h
          rw [cond_false]
          have hb : rd' b = rd b := by
            refine hl b ?_
            cases hb : rd b with
            | arr m s es =>
              rw [hb] at h
              obtain ⟨_, h⟩ := cond_some h
              cases hs : snapLL d rd ((es.drop off).take len) with
              | none => rw [hs] at h; cases h
              | some p => rw [hs] at h; cases h; simp
            | seq m s n f =>
              rw [hb] at h
              simp only at h
              cases hw : (Nat.beq off 0 && Nat.beq len n) with
              | true => rw [hw] at h; cases h; simp
              | false => rw [hw] at h; obtain ⟨_, h⟩ := cond_some h; cases h; simp
            | none => rw [hb] at h; cases h
            | dead => rw [hb] at h; cases h
            | map m es => rw [hb] at h; cases h
            | iter m es st => rw [hb] at h; cases h
          rw [hb]
          cases hb : rd b with
          | arr m s es =>
            rw [hb] at h
            simp only at h ⊢
            obtain ⟨hc, h⟩ := cond_some h
            rw [hc, cond_true]
            cases hs : snapLL d rd ((es.drop off).take len) with
            | none => rw [hs] at h; cases h
            | some p =>
              rw [hs] at h
              cases h
              rw [ih3 _ _ _ hs fun b hb => hl b (by simp [hb])]
          | _ => rw [hb] at h; exact h
      | agg cs =>
        simp only at h ⊢
        cases hs : snapL d rd cs with
        | none => rw [hs] at h; cases h
        | some p => rw [hs] at h; cases h; rw [ih2 _ _ _ hs hl]
      | tup cs =>
        simp only at h ⊢
        cases hs : snapL d rd cs with
        | none => rw [hs] at h; cases h
        | some p => rw [hs] at h; cases h; rw [ih2 _ _ _ hs hl]
      | fn f a c =>
        simp only at h ⊢
        cases hs : snapL d rd a with
        | none => rw [hs] at h; cases h
        | some p =>
          cases hs2 : snapL d rd c with
          | none => rw [hs, hs2] at h; cases h
          | some p => rw [hs, hs2] at h; cases h; rw [ih2 _ _ _ hs fun b hb => hl b (by simp [hb]), ih2 _ _ _ hs2 fun b hb => hl b (by simp [hb])]
      | _ => exact h
    · unfold snapL at h ⊢
      cases v with
      | nil => exact h
      | cons x r =>
        simp only at h ⊢
        cases hs : snap d rd x with
        | none => rw [hs] at h; cases h
        | some p =>
          cases hs2 : snapL d rd r with
          | none => rw [hs, hs2] at h; cases h
          | some p => rw [hs, hs2] at h; cases h; rw [ih1 _ _ _ hs fun b hb => hl b (by simp [hb]), ih2 _ _ _ hs2 fun b hb => hl b (by simp [hb])]
    · unfold snapLL at h ⊢
      cases v with
      | nil => exact h
      | cons x r =>
        simp only at h ⊢
        cases hs : snapL d rd x with
        | none => rw [hs] at h; cases h
        | some p =>
          cases hs2 : snapLL d rd r with
          | none => rw [hs, hs2] at h; cases h
          | some p => rw [hs, hs2] at h; cases h; rw [ih2 _ _ _ hs fun b hb => hl b (by simp [hb]), ih3 _ _ _ hs2 fun b hb => hl b (by simp [hb])]

end
end Go.AM
