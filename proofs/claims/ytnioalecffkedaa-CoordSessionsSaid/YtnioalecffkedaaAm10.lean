/- What a slice or a string holds: read whole, and laid into a new row. -/
import Derived.Test.YtnioalecffkedaaAm9
set_option linter.unusedVariables false
set_option linter.unusedSimpArgs false
namespace Go.AM

variable {R : Type}

def wphi (φ : Phi) : View → Phi
  | .list _ => φ
  | .fn .. => Phi.no

theorem wphi_le (φ : Phi) (v : View) : Phi.le (wphi φ v) φ := by cases v <;> first | exact Phi.le_refl _ | exact Phi.no_le _

/-- an array of the model's against elements of sz cells each -/
structure Flat (w : World) (I : Nat → Prop) (φ : Phi) (sz n : Nat) (f : Nat → List AV) (vs : Array Value) : Prop where
  size : vs.size = n * sz
  one : ∀ (p : Nat) u, vs[p]? = some u → u.oneCell' = true
  len : ∀ i, i < n → (f i).length = sz
  val : ∀ (i k : Nat) c u, i < n → (f i)[k]? = some c → vs[i * sz + k]? = some u → RV w I φ c u

theorem Flat.mono {w w' : World} {I I' : Nat → Prop} {φ φ' : Phi} {sz n : Nat} {f : Nat → List AV} {vs : Array Value} (h : Flat w I φ sz n f vs)
    (hI : ∀ B, I B → I' B ∧ w'.heap[B]? = w.heap[B]?) (hs : ∀ B, csize w B ≤ csize w' B) (le : Phi.le φ φ') : Flat w' I' φ' sz n f vs :=
  ⟨h.size, h.one, h.len, fun i k c u hi e e' => (h.val i k c u hi e e').mono hI hs le⟩

/-- a view against a slice (its first cell at q of block B) -/
structure VRow (w : World) (I : Nat → Prop) (φ : Phi) (sz : Nat) (v : View) (B q : Nat) : Prop where
  len : ∀ i, i < v.len → (v.at i).length = sz
  cells : ∀ i, i < v.len → Cells w I (wphi φ v) B (q + i * sz) (v.at i)

theorem list_at {es : List (List AV)} {i : Nat} (h : i < es.length) : es[i]? = some (es.getD i []) := by
  simp [List.getD, List.getElem?_eq_getElem h]

theorem view_ok {w : World} {I : Nat → Prop} {φ : Phi} {rd : Nat → BS} {sz : Nat} {x : AV} {v : View} {u : Value} (hh : RH w I φ rd) (hv : x.view rd sz = some v) (hx : RV w I φ x u) :
    (∃ s, u = .string s ∧ sz = 1 ∧ v = .fn s.size fun i => [.int .u8 ((s.data.toList.getD i 0).toNat)]) ∨
    (∃ B q cap, u = .slice (some ⟨B, q, none⟩) v.len cap ∧ VRow w I φ sz v B q) ∨ (∃ a n cap, u = .slice a n cap ∧ v.len = 0 ∧ n = 0) := by
  unfold AV.view at hv
  split at hv
  · cases hv; cases hx; exact .inr (.inr ⟨_, _, _, rfl, rfl, rfl⟩)
  · rename_i s es
    obtain ⟨hs, h2⟩ := cond_some hv
    clear hv
    have hs' := Nat.eq_of_beq_eq_true hs
    clear hs
    subst hs'
    have hv := h2
    clear h2
    cases hv
    cases hx with
    | trl _ _ _ hx hz =>
      generalize hn : es.length = n at hx
      generalize hf : (fun i => es.getD i []) = f at hx
      cases hx with
      | tr _ _ _ B ob cap uf hI hn' hlen hc h1 hr =>
        refine .inr (.inl ⟨B, ob, cap, by simp [View.len, hn], ⟨fun i hi => ?_, fun i hi k c e => ?_⟩⟩)
        · simp only [View.len] at hi; have := hlen i (by omega); rw [← hf] at this; exact this
        · simp only [View.len] at hi
          have e' : (f i)[k]? = some c := by rw [← hf]; exact e
          exact ⟨_, hc i k c (by omega) e', h1 i k c (by omega) e', (hr i k c (by omega) e').mono (fun B hB => ⟨hB, rfl⟩) (fun _ => Nat.le_refl _) (Phi.no_le _)⟩
      | trn => exact .inr (.inr ⟨_, _, _, rfl, by simp [View.len, hn], rfl⟩)
  · rename_i s n f
    obtain ⟨hs, h2⟩ := cond_some hv
    clear hv
    have hs' := Nat.eq_of_beq_eq_true hs
    clear hs
    subst hs'
    have hv := h2
    clear h2
    cases hv
    cases hx with
    | tr _ _ _ B ob cap uf hI hn' hlen hc h1 hr =>
      exact .inr (.inl ⟨B, ob, cap, rfl, ⟨hlen, fun i hi k c e => ⟨_, hc i k c hi e, h1 i k c hi e, hr i k c hi e⟩⟩⟩)
    | trn => exact .inr (.inr ⟨_, _, _, rfl, rfl, rfl⟩)
  · rename_i s b off len cm
    obtain ⟨hs, h2⟩ := cond_some hv
    clear hv
    have hs' := Nat.eq_of_beq_eq_true hs
    clear hs
    subst hs'
    have hv := h2
    clear h2
    cases hx with
    | sle => simp at hv; cases hv; exact .inr (.inr ⟨_, _, _, rfl, rfl, rfl⟩)
    | sl _ _ B ob _ _ _ cap q hφ hq hl hc hsz =>
      cases hz : Nat.beq len 0 with
      | true =>
        rw [hz] at hv
        cases hv
        exact .inr (.inr ⟨_, _, _, rfl, rfl, Nat.eq_of_beq_eq_true hz⟩)
      | false =>
        rw [hz, cond_false] at hv
        have hrow : ∀ (hlive : live (rd b) = true), RB w I φ B ob s (rd b) := by
          intro hlive
          obtain ⟨B', o', sz', e, r⟩ := hh.blk b hlive
          rw [hφ] at e; cases e; exact r
        split at hv
        · rename_i m s' es hb
          obtain ⟨hle, hv⟩ := cond_some hv
          have hle := Nat.le_of_ble_eq_true hle
          cases hv
          have hr := hrow (by rw [hb]; rfl)
          rw [hb] at hr
          have hlen : ((es.drop off).take len).length = len := by simp; omega
          have hat : ∀ i, i < len → ((es.drop off).take len).getD i [] = es.getD (off + i) [] := by
            intro i hi
            simp only [List.getD, List.getElem?_take, if_pos hi, List.getElem?_drop]
          refine .inr (.inl ⟨B, q, cap, by simp [View.len]; omega, ⟨fun i hi => ?_, fun i hi k c e => ?_⟩⟩)
          · simp only [View.len, hlen] at hi
            simp only [View.at, hat i hi]
            exact hr.2.2.1 _ _ (list_at (by omega))
          · simp only [View.len, hlen] at hi
            simp only [View.at, hat i hi] at e
            have := hr.2.2.2 (off + i) _ k c (list_at (by omega)) e
            rw [hq, show ob + off * s + i * s + k = ob + (off + i) * s + k by rw [Nat.add_mul]; omega]
            exact this
        · rename_i m s' n f hb
          have hr := hrow (by rw [hb]; rfl)
          rw [hb] at hr
          cases hw : Nat.beq off 0 && Nat.beq len n with
          | true =>
            rw [hw] at hv
            cases hv
            obtain ⟨h1, h2⟩ := and_true' hw
            have h1 := Nat.eq_of_beq_eq_true h1
            have h2 := Nat.eq_of_beq_eq_true h2
            subst h1; subst h2
            refine .inr (.inl ⟨B, q, cap, rfl, ⟨fun i hi => hr.2.2.1 i hi, fun i hi k c e => ?_⟩⟩)
            have := hr.2.2.2 i k c hi e
            rw [hq]
            simp only [Nat.zero_mul, Nat.add_zero]
            exact this
          | false =>
            rw [hw, cond_false] at hv
            obtain ⟨hle, hv⟩ := cond_some hv
            have hle := Nat.le_of_ble_eq_true hle
            cases hv
            have hat : ∀ i, i < len → (bif Nat.blt i len then f (off + i) else f n) = f (off + i) := by
              intro i hi
              have : Nat.blt i len = true := by rw [Nat.blt_eq]; exact hi
              rw [this]; rfl
            refine .inr (.inl ⟨B, q, cap, rfl, ⟨fun i hi => ?_, fun i hi k c e => ?_⟩⟩)
            · simp only [View.len] at hi
              simp only [View.at, hat i hi]
              exact hr.2.2.1 _ (by omega)
            · simp only [View.len] at hi
              simp only [View.at, hat i hi] at e
              have := hr.2.2.2 (off + i) k c (by omega) e
              rw [hq, show ob + off * s + i * s + k = ob + (off + i) * s + k by rw [Nat.add_mul]; omega]
              exact this
        · cases hv
  · rename_i s
    obtain ⟨hs, h2⟩ := cond_some hv
    clear hv
    have hs' := Nat.eq_of_beq_eq_true hs
    clear hs
    subst hs'
    have hv := h2
    clear h2
    cases hv
    cases hx with
    | str b _ hb => subst hb; exact .inl ⟨b, rfl, rfl, rfl⟩
  · cases hv

theorem div_lt_of {p n sz : Nat} (h : p < n * sz) : p / sz < n := by
  rcases Nat.eq_zero_or_pos sz with h0 | h0
  · subst h0; omega
  · exact (Nat.div_lt_iff_lt_mul h0).2 h

theorem idx_lt {i n k sz : Nat} (hi : i < n) (hk : k < sz) : i * sz + k < n * sz := by
  have := Nat.mul_le_mul_right sz (Nat.succ_le_of_lt hi)
  rw [Nat.succ_mul] at this
  omega

theorem vrow_cells {w : World} {I : Nat → Prop} {φ : Phi} {sz : Nat} {v : View} {B q : Nat} (h : VRow w I φ sz v B q) :
    ∃ vs : List Value, vs.length = v.len * sz ∧ (∀ (j : Nat) u, vs[j]? = some u → w.cell? ⟨B, q + j, none⟩ = some u) ∧ Flat w I (wphi φ v) sz v.len v.at vs.toArray := by
  have hcell : ∀ p, p < v.len * sz → ∃ u, w.cell? ⟨B, q + p, none⟩ = some u ∧ u.oneCell' = true ∧ ∀ i k c, p = i * sz + k → k < sz → (v.at i)[k]? = some c → RV w I (wphi φ v) c u := by
    intro p hp
    have hi := div_lt_of hp
    have hsz : 0 < sz := by rcases Nat.eq_zero_or_pos sz with h0 | h0 <;> first | exact h0 | (subst h0; omega)
    have hk := Nat.mod_lt p hsz
    have hpe : p = p / sz * sz + p % sz := by rw [Nat.mul_comm]; exact (Nat.div_add_mod p sz).symm
    have hl := h.len _ hi
    obtain ⟨u, h1, h2, h3⟩ := h.cells _ hi (p % sz) _ (List.getElem?_eq_getElem (by omega))
    refine ⟨u, ?_, h2, ?_⟩
    · rw [← h1]; congr 2; omega
    · intro i k c e hk' hc
      have hii : i = p / sz := by
        rw [e, Nat.mul_comm, Nat.mul_add_div hsz, Nat.div_eq_of_lt hk']; omega
      have hkk : k = p % sz := by
        rw [e, Nat.mul_comm, Nat.mul_add_mod, Nat.mod_eq_of_lt hk']
      subst hii
      rw [hkk, List.getElem?_eq_getElem (by omega)] at hc
      cases hc
      exact h3
  refine ⟨(List.range (v.len * sz)).map fun p => (w.cell? ⟨B, q + p, none⟩).getD undef, by simp, ?_, ⟨by simp, ?_, h.len, ?_⟩⟩
  · intro j u e
    by_cases hj : j < v.len * sz
    · rw [List.getElem?_map, List.getElem?_range hj] at e
      simp only [Option.map_some, Option.some.injEq] at e
      obtain ⟨u', h1, _⟩ := hcell j hj
      rw [h1] at e ⊢
      simpa using e
    · rw [List.getElem?_eq_none (by simp; omega)] at e; cases e
  · intro p u e
    have e : ((List.range (v.len * sz)).map fun p => (w.cell? ⟨B, q + p, none⟩).getD undef)[p]? = some u := by simpa using e
    by_cases hj : p < v.len * sz
    · rw [List.getElem?_map, List.getElem?_range hj] at e
      simp only [Option.map_some, Option.some.injEq] at e
      obtain ⟨u', h1, h2, _⟩ := hcell p hj
      rw [h1] at e
      simp at e
      exact e ▸ h2
    · rw [List.getElem?_eq_none (by simp; omega)] at e; cases e
  · intro i k c u hi hc e
    have hk : k < sz := by
      have := h.len i hi
      rcases Nat.lt_or_ge k (v.at i).length with h' | h'
      · omega
      · rw [List.getElem?_eq_none h'] at hc; cases hc
    have hp := idx_lt hi hk
    have e : ((List.range (v.len * sz)).map fun p => (w.cell? ⟨B, q + p, none⟩).getD undef)[i * sz + k]? = some u := by simpa using e
    rw [List.getElem?_map, List.getElem?_range hp] at e
    simp only [Option.map_some, Option.some.injEq] at e
    obtain ⟨u', h1, _, h3⟩ := hcell _ hp
    rw [h1] at e
    simp at e
    exact e ▸ h3 i k c rfl hk hc

theorem str_flat (w : World) (I : Nat → Prop) (s : ByteArray) :
    Flat w I Phi.no 1 s.size (fun i => [.int .u8 ((s.data.toList.getD i 0).toNat)]) (s.data.map fun b => .int .u8 b.toNat) := by
  refine ⟨by simp, fun p u e => ?_, fun i _ => rfl, fun i k c u hi hc e => ?_⟩
  · rw [Array.getElem?_map] at e
    cases hb : s.data[p]? with
    | none => rw [hb] at e; cases e
    | some b => rw [hb] at e; cases e; rfl
  · cases k with
    | succ k => simp at hc
    | zero =>
      simp at hc
      subst hc
      simp only [Nat.mul_one, Nat.add_zero] at e
      rw [Array.getElem?_map] at e
      have hlt : i < s.data.size := hi
      rw [Array.getElem?_eq_getElem hlt] at e
      simp at e
      subst e
      rw [Array.getElem?_eq_getElem hlt, Option.getD_some]
      exact .int _ _

section
variable {P : Program}

/-- the cells of a slice's or a string's elements, as 'append' and 'copy' read them -/
theorem read_view {w : World} {I : Nat → Prop} {φ : Phi} {rd : Nat → BS} {sz : Nat} {x : AV} {v : View} {u : Value} (hh : RH w I φ rd) (hv : x.view rd sz = some v) (hx : RV w I φ x u) :
    (∀ w', (Builtin.lenOf u).run P w' = .ok v.len w') ∧ ∃ vs, (∀ w' : World, w'.heap = w.heap → (Builtin.firstCells sz v.len u).run P w' = .ok vs w') ∧ Flat w I (wphi φ v) sz v.len v.at vs := by
  rcases view_ok hh hv hx with ⟨s, rfl, rfl, rfl⟩ | ⟨B, q, cap, rfl, hr⟩ | ⟨a, n, cap, rfl, h0, rfl⟩
  · refine ⟨fun _ => rfl, _, fun _ _ => rfl, ?_⟩
    have : s.extract 0 s.size = s := by
      have h1 : (s.extract 0 s.size).data = s.data := by simp [ByteArray.data_extract]
      cases hs : s.extract 0 s.size; rw [hs] at h1; cases s; simp_all
    simp only [View.len]
    rw [this]
    exact str_flat w I s
  · obtain ⟨vs, hl, hc, hf⟩ := vrow_cells hr
    refine ⟨fun _ => rfl, vs.toArray, fun w' hw => ?_, hf⟩
    simp only [Builtin.firstCells]
    refine run_loadCells_of vs hl fun j v e => ?_
    have := hc j v e
    simpa [World.cell?, hw] using this
  · refine ⟨fun _ => by simp [Builtin.lenOf, h0], #[], fun _ _ => ?_, ⟨by simp [h0], by simp, fun i hi => by omega, fun i k c u hi => by omega⟩⟩
    rw [h0]
    cases a with
    | none => rfl
    | some a => simp [Builtin.firstCells, loadCells, loadCellsFrom]

end

/-- elements in a new row (with more cells behind them) -/
theorem RB.of_flat {w : World} {I : Nat → Prop} {φ φ' : Phi} {sz : Nat} {v : View} {vs rest : Array Value} (hf : Flat w I (wphi φ v) sz v.len v.at vs) (hlt : ∀ B, I B → B < w.heap.size)
    (le : Phi.le φ φ') (t : TypeId) (fz : Nat × Nat) (hfz : thawed (vs ++ rest) fz) :
    RB (w.alloc (.cells (vs ++ rest) t fz)) I φ' w.heap.size 0 sz (blk sz v) := by
  have hrow : Row (w.alloc (.cells (vs ++ rest) t fz)) w.heap.size true := ⟨_, t, fz, alloc_new w _, fun _ => hfz⟩
  have mono : ∀ {ψ ψ' : Phi} {c : AV} {u : Value}, Phi.le ψ ψ' → RV w I ψ c u → RV (w.alloc (.cells (vs ++ rest) t fz)) I ψ' c u := fun le h =>
    h.mono (fun B hB => ⟨hB, alloc_old w _ (hlt B hB)⟩) (Ext.alloc (fun _ => True) w _).csize le
  have hcells : ∀ i, i < v.len → ∀ k c, (v.at i)[k]? = some c → ∃ u, (w.alloc (.cells (vs ++ rest) t fz)).cell? ⟨w.heap.size, 0 + i * sz + k, none⟩ = some u ∧ u.oneCell' = true ∧ RV w I (wphi φ v) c u := by
    intro i hi k c hc
    have hk : k < sz := by
      have := hf.len i hi
      rcases Nat.lt_or_ge k (v.at i).length with h' | h'
      · omega
      · rw [List.getElem?_eq_none h'] at hc; cases hc
    have hp := idx_lt hi hk
    have hlt' : i * sz + k < vs.size := by rw [hf.size]; exact hp
    refine ⟨vs[i * sz + k], ?_, hf.one _ _ (Array.getElem?_eq_getElem hlt'), hf.val i k c _ hi hc (Array.getElem?_eq_getElem hlt')⟩
    rw [cell_of (alloc_new w _), Nat.zero_add, Array.getElem?_append_left hlt', Array.getElem?_eq_getElem hlt']
  cases v with
  | list es =>
    refine ⟨rfl, hrow, fun i cs e => ?_, fun i cs k c e e' => ?_⟩
    · have hi : i < es.length := by
        rcases Nat.lt_or_ge i es.length with h' | h'
        · exact h'
        · rw [List.getElem?_eq_none h'] at e; cases e
      have := hf.len i hi
      rw [list_at hi] at e; cases e; exact this
    · have hi : i < es.length := by
        rcases Nat.lt_or_ge i es.length with h' | h'
        · exact h'
        · rw [List.getElem?_eq_none h'] at e; cases e
      rw [list_at hi] at e; cases e
      obtain ⟨u, h1, h2, h3⟩ := hcells i hi k c e'
      exact ⟨u, h1, h2, mono le h3⟩
  | fn n f =>
    refine ⟨rfl, hrow, hf.len, fun i k c hi e' => ?_⟩
    obtain ⟨u, h1, h2, h3⟩ := hcells i hi k c e'
    exact ⟨u, h1, h2, mono (Phi.le_refl _) h3⟩

end Go.AM
