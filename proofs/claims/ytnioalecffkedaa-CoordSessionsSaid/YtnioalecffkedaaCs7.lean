/- The loop of CoordSessions, by induction; the law as a contract. -/
import Derived.Test.YtnioalecffkedaaCs6
open Go Go.AM
namespace Go.Proofs.CsE
set_option maxRecDepth 100000
set_option maxHeartbeats 1000000
open Cs

/-- the table as a function of two numbers -/
def tab (h : Nat → Int) : Int → Int → Int := fun x y => if 0 ≤ x ∧ x ≤ 3 ∧ 0 ≤ y ∧ y ≤ 3 then h (x * 4 + y).toNat else 0

theorem tab_at (h : Nat → Int) {x y : Nat} (hx : x < 4) (hy : y < 4) : tab h x y = h (x * 4 + y) := by
  unfold tab
  rw [if_pos (by omega)]
  congr 1

theorem tab_put (h : Nat → Int) {w v : Nat} (hw : w < 4) (hv : v < 4) (r : Int) : put (tab h) w v r = tab (upd h (w * 4 + v) r) := by
  funext x y
  unfold put tab upd
  by_cases hxy : 0 ≤ x ∧ x ≤ 3 ∧ 0 ≤ y ∧ y ≤ 3
  · rw [if_pos hxy, if_pos hxy]
    by_cases e : x = w ∧ y = v
    · rw [if_pos e]
      have : Nat.beq (x * 4 + y).toNat (w * 4 + v) = true := by rw [Nat.beq_eq]; omega
      rw [this]; rfl
    · rw [if_neg e]
      have : Nat.beq (x * 4 + y).toNat (w * 4 + v) = false := by
        cases hb : Nat.beq (x * 4 + y).toNat (w * 4 + v) with
        | false => rfl
        | true =>
          have hb := Nat.eq_of_beq_eq_true hb
          exact absurd (by omega) e
      rw [this]; rfl
  · rw [if_neg hxy, if_neg hxy, if_neg (by omega)]

section
variable {N n m : Nat} {g h : Nat → Int} {s i sd r : Int} {os od : List O3} {w v : Nat}

theorem cell_ok {q p : Nat} {x y : Nat} (hx : x < 4) (hy : y < 4) (hh : 0 < r → h (x * 4 + y) = r → x = w ∧ y = v) :
    LP envL N 0 3 snK 4 [m, q] (p + 1) (S2 n g s os h i w v sd od r x y) = LP envL N 0 3 snK 4 [m, q] p (S2 n g s os h i w v sd od r x ((y + 1 : Nat) : Int)) := by
  rw [f3_cell N n m q p g h s i w v sd r os od x y hx hy]
  show _ = LP envL N 0 3 snK 4 [m, q] p (S2 n g s os h i w v sd od r x ((y : Int) + 1))
  by_cases h1 : 0 < r
  · by_cases h2 : h (x * 4 + y) = r
    · obtain ⟨rfl, rfl⟩ := hh h1 h2
      simp [h1, h2]
    · simp [h1, h2]
  · simp [h1]

theorem row_ok {q p : Nat} {x : Nat} (hx : x < 4) (hh : ∀ y, y < 4 → 0 < r → h (x * 4 + y) = r → x = w ∧ y = v) :
    LP envL N 0 3 snK 4 [m, q] (p + 5) (S2 n g s os h i w v sd od r x 0) = LP envL N 0 3 snK 2 [m] q (S1 n g s os h i w v sd od r ((x + 1 : Nat) : Int)) := by
  have c0 := cell_ok (N := N) (n := n) (m := m) (q := q) (p := p + 4) (g := g) (s := s) (i := i) (sd := sd) (os := os) (od := od) hx (by omega : 0 < 4) (hh 0 (by omega))
  have c1 := cell_ok (N := N) (n := n) (m := m) (q := q) (p := p + 3) (g := g) (s := s) (i := i) (sd := sd) (os := os) (od := od) hx (by omega : 1 < 4) (hh 1 (by omega))
  have c2 := cell_ok (N := N) (n := n) (m := m) (q := q) (p := p + 2) (g := g) (s := s) (i := i) (sd := sd) (os := os) (od := od) hx (by omega : 2 < 4) (hh 2 (by omega))
  have c3 := cell_ok (N := N) (n := n) (m := m) (q := q) (p := p + 1) (g := g) (s := s) (i := i) (sd := sd) (os := os) (od := od) hx (by omega : 3 < 4) (hh 3 (by omega))
  exact c0.trans (c1.trans (c2.trans (c3.trans (f3_row N n m q p g h s i w v sd r os od x hx))))

theorem mid_ok {p q : Nat} {x : Nat} (hx : x < 4) (hh : ∀ y, y < 4 → 0 < r → h (x * 4 + y) = r → x = w ∧ y = v) :
    LP envL (p + 5) 0 3 snK 2 [m] (q + 1) (S1 n g s os h i w v sd od r x) = LP envL (p + 5) 0 3 snK 2 [m] q (S1 n g s os h i w v sd od r ((x + 1 : Nat) : Int)) :=
  (f3_mid (p + 5) n m q g h s i w v sd r os od x hx).trans (row_ok hx hh)

theorem scan_ok {p : Nat} (hw : w < 4) (hv : v < 4) (hh : ∀ x y, x < 4 → y < 4 → 0 < r → h (x * 4 + y) = r → x = w ∧ y = v) :
    LP envL (p + 5) 0 3 snK 2 [m] (p + 5) (S1 n g s os h i w v sd od r 0) = LP envL (p + 5) 0 3 snK 0 [] m (S0 n g sd od (upd h (w * 4 + v) r) (IntKind.i64.wrap (i + 1))) := by
  have c0 := mid_ok (p := p) (q := p + 4) (n := n) (m := m) (g := g) (s := s) (i := i) (sd := sd) (os := os) (od := od) (by omega : 0 < 4) (fun y hy => hh 0 y (by omega) hy)
  have c1 := mid_ok (p := p) (q := p + 3) (n := n) (m := m) (g := g) (s := s) (i := i) (sd := sd) (os := os) (od := od) (by omega : 1 < 4) (fun y hy => hh 1 y (by omega) hy)
  have c2 := mid_ok (p := p) (q := p + 2) (n := n) (m := m) (g := g) (s := s) (i := i) (sd := sd) (os := os) (od := od) (by omega : 2 < 4) (fun y hy => hh 2 y (by omega) hy)
  have c3 := mid_ok (p := p) (q := p + 1) (n := n) (m := m) (g := g) (s := s) (i := i) (sd := sd) (os := os) (od := od) (by omega : 3 < 4) (fun y hy => hh 3 y (by omega) hy)
  exact c0.trans (c1.trans (c2.trans (c3.trans (f3_end (p + 5) n m p g h s i sd r os od w v hw hv))))

end

theorem argsH_dec (s : Int) (os : List O3) (f n : Int) : decH (argsH s os f n) = (s, os, f, n) := by
  show (s, decL decO (encL 31 encO z0 os), f, n) = _
  rw [decL_encL fun _ => rfl]

theorem inv_len {s : Int} {os : List O3} {t : Int → Int → Int} (h : Inv s os t) : os.length ≤ 3 := by
  have := h.len; have := h.hi; omega

theorem out_ok {n : Nat} {g : Nat → Int} (hg : ∀ i, i < n → 0 ≤ g i ∧ g i ≤ 255) (hn : n ≤ 60) (p : Nat) : ∀ (d i : Nat) (s : Int) (os : List O3) (h : Nat → Int) (m : Nat), i + d = n → d + 1 ≤ m → Inv s os (tab h) →
    LP envL (p + 5) 0 3 snK 0 [] m (S0 n g s os h i) = some (.bool true) := by
  intro d
  induction d with
  | zero =>
    intro i s os h m hi hm hinv
    obtain ⟨m, rfl⟩ : ∃ m', m = m' + 1 := ⟨m - 1, by omega⟩
    rw [f3_out]
    have : ¬ ((i : Int) < n) := by omega
    rw [decide_eq_false this, cond_false, decide_eq_true hinv.hi]
  | succ d ih =>
    intro i s os h m hi hm hinv
    obtain ⟨m, rfl⟩ : ∃ m', m = m' + 1 := ⟨m - 1, by omega⟩
    rw [f3_out]
    have h1 : ((i : Int) < n) := by omega
    have h2 : (0 : Int) ≤ i := by omega
    rw [decide_eq_true h1, decide_eq_true h2]
    simp only [cond_true, Bool.and_true, Int.toNat_natCast]
    have hb := hg i (by omega)
    obtain ⟨w, hw⟩ : ∃ w : Nat, (w : Int) = g i % 4 := ⟨(g i % 4).toNat, by omega⟩
    obtain ⟨v, hv⟩ : ∃ v : Nat, (v : Int) = g i / 4 % 4 := ⟨(g i / 4 % 4).toNat, by omega⟩
    have ew : whoE (g i) = w := by
      unfold whoE
      rw [Int.tmod_eq_emod_of_nonneg hb.1, wrap64 (by omega), hw]
    have ev : numE (g i) = v := by
      unfold numE
      rw [Int.tdiv_eq_ediv_of_nonneg hb.1, wrapu8 (by omega), Int.tmod_eq_emod_of_nonneg (by omega), wrap64 (by omega), hv]
    simp only [ew, ev]
    have hwl : w < 4 := by omega
    simp only [wrap64 (by omega : -9223372036854775808 ≤ (100 : Int) + w ∧ (100 : Int) + w ≤ 9223372036854775807)]
    have hvl : v < 4 := by omega
    have ok := step_ok (w := w) (n := v) hinv (by omega) (by omega)
    simp only at ok
    obtain ⟨k1, k2, k3, k4, k5⟩ := ok
    rw [gC_eq (s, os, 100 + (w : Int), (v : Int)) (argsH_dec _ _ _ _) ⟨hinv.lo, hinv.hi, inv_len hinv⟩ (.refl _)]
    have est : stp (s, os, 100 + (w : Int), (v : Int)) = Cs.step s os (100 + (w : Int)) v := rfl
    simp only [est]
    generalize hr : Cs.step s os (100 + (w : Int)) v = R at k1 k2 k3 k4 k5 ⊢
    obtain ⟨s', os', r⟩ := R
    simp only at k1 k2 k3 k4 k5 ⊢
    rw [gC_eq (s', os', 100 + (w : Int), (v : Int)) (argsH_dec _ _ _ _) ⟨k1.lo, k1.hi, inv_len k1⟩ (.refl _)]
    have est' : stp (s', os', 100 + (w : Int), (v : Int)) = Cs.step s' os' (100 + (w : Int)) v := rfl
    simp only [est']
    have hscan : LP envL (p + 5) 0 3 snK 2 [m] (p + 5) (S1 n g s os h i w v s' os' r 0) = some (.bool true) := by
      rw [scan_ok hwl hvl, wrap64 (by omega : -9223372036854775808 ≤ (i : Int) + 1 ∧ (i : Int) + 1 ≤ 9223372036854775807)]
      · have := ih (i + 1) s' os' (upd h (w * 4 + v) r) m (by omega) (by omega) (by rw [← tab_put h hwl hvl]; exact k1)
        exact this
      · intro x y hx hy hr0 he
        have := k4 x y hr0 (by rw [tab_at h hx hy]; exact he)
        exact ⟨by omega, by omega⟩
    have n1 : ¬ (r < 0) := by omega
    have n2 : ¬ (3 < r) := by omega
    simp only [decide_true, Bool.not_true, cond_false, decide_eq_false n1, decide_eq_false n2, hscan]
    by_cases hr0 : 0 < r
    · obtain ⟨e1, e2⟩ := k5 hr0
      simp only [decide_eq_true hr0, cond_true, e1, e2, decide_true, Bool.not_true, cond_false]
    · simp only [decide_eq_false hr0, cond_false]

theorem inv0 : Inv 0 [] (tab fun _ => 0) := by
  refine ⟨by omega, by omega, by simp, by simp, by simp, by simp, fun x y x' y' hp _ => ?_, fun x y => ?_⟩
  · unfold tab at hp
    split at hp <;> simp at hp
  · unfold tab
    split <;> simp

theorem law_run {n : Nat} {g : Nat → Int} (hg : ∀ i, i < n → 0 ≤ g i ∧ g i ≤ 255) : callT envL (n + 7) 3 [.tr 1 n fun i => [.int .u8 (g i)]] = some (.bool true) := by
  rw [f3_in, gC_one (.refl _)]
  by_cases h : (60 : Int) < n
  · rw [decide_eq_true h, cond_true, gC_one (.refl _)]
  · rw [decide_eq_false h, cond_false, gC_one (.refl _), gC_one (.refl _), gC_one (.refl _)]
    exact out_ok hg (by omega) (n + 1) n 0 0 [] (fun _ => 0) (n + 6) (by omega) (by omega) inv0

theorem law_ok : LawC Try.prog 5 3 [22] := by
  rintro avs ⟨av, r, hs, rfl, rfl⟩
  have hu : Try.prog.underlying 22 = some (.slice 5) := by kernel_rfl
  have hk : Try.prog.underlying 5 = some (.int .u8) := by kernel_rfl
  obtain ⟨c, n, g, rfl, h1, h2, h3⟩ := Shape.nums hu hk (by kernel_rfl) hs
  have ha : argOf Try.prog 22 [c] = c := by unfold argOf; rw [hu]; rfl
  rw [ha]
  exact (callT_ok envL_ok envL_code mixed (law_run fun i hi => h3 i hi)).args (.cons h1 .nil)
end Go.Proofs.CsE
