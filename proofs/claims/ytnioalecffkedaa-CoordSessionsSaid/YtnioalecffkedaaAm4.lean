/- Operations, one by one: what the abstract machine answers, the model does. First: types, loads, stores. -/
import Derived.Test.YtnioalecffkedaaAm3
set_option linter.unusedVariables false
set_option linter.unusedSimpArgs false
namespace Go.AM

def TTok (P : Program) (tt : TT) : Prop := ∀ t x, tt t = some x → tiOf P t = some x

section
variable {P : Program} {t : TypeId} {ti : TI}

theorem ti_spec (h : tiOf P t = some ti) : ∃ i, P.info? t = some i ∧ i.size = ti.size ∧ i.bytes = ti.bytes ∧ P.underlying t = some ti.desc ∧
    ti.agg = (match ti.desc with | .struct _ | .array _ _ => true | _ => false) ∧ (ti.zero = i.zero.bind fun v => bif (ofVal v).storable then some (ofVal v).cells else .none) ∧ ti.stood = P.stoodInHeld t ∧
    ti.zv = (i.zero.bind fun v => bif (ofVal v).storable then some (ofVal v) else .none) := by
  unfold tiOf at h
  split at h
  · rename_i i d hi hd
    cases h
    exact ⟨i, hi, rfl, rfl, hd, rfl, rfl, rfl, rfl⟩
  · cases h

theorem run_typeInfo (h : tiOf P t = some ti) (w : World) : ∃ i, (typeInfo t).run P w = .ok i w ∧ i.size = ti.size ∧ i.bytes = ti.bytes := by
  obtain ⟨i, hi, hs, hb, _⟩ := ti_spec h
  exact ⟨i, by simp [typeInfo, hi], hs, hb⟩

theorem run_sizeOf (h : tiOf P t = some ti) (w : World) : (sizeOf t).run P w = .ok ti.size w := by
  obtain ⟨i, hi, hs, hb, _⟩ := ti_spec h
  simp [sizeOf, typeInfo, hi, hs]

theorem run_underlying (h : tiOf P t = some ti) (w : World) : (underlying t).run P w = .ok ti.desc w := by
  obtain ⟨i, hi, hs, hb, hd, _⟩ := ti_spec h
  simp [underlying, hd]

theorem run_isAgg (h : tiOf P t = some ti) (w : World) : (isAgg t).run P w = .ok ti.agg w := by
  obtain ⟨i, hi, hs, hb, hd, ha, _⟩ := ti_spec h
  unfold isAgg
  simp only [Sem.run_bind, run_underlying h, Result.andThen_ok]
  rw [ha]
  split <;> simp_all

theorem run_zero (h : tiOf P t = some ti) {z : List AV} (hz : ti.zero = some z) (w : World) (I : Nat → Prop) (φ : Phi) :
    ∃ v, (zeroValue t).run P w = .ok v w ∧ (ofVal v).storable = true ∧ (ofVal v).cells = z ∧ RC w I φ z v.cells := by
  obtain ⟨i, hi, hs, hb, hd, ha, he, _⟩ := ti_spec h
  rw [he] at hz
  cases hv : i.zero with
  | none => rw [hv] at hz; cases hz
  | some v =>
    rw [hv] at hz
    simp only [Option.bind_some] at hz
    cases hst : (ofVal v).storable with
    | false => rw [hst] at hz; cases hz
    | true =>
      rw [hst] at hz
      simp only [cond_true, Option.some.injEq] at hz
      refine ⟨v, by simp [zeroValue, typeInfo, hi, hv], hst, hz, ?_⟩
      rw [← hz]
      exact (ofVal_ok w I φ v).cells hst

theorem run_zv (h : tiOf P t = some ti) {z : AV} (hz : ti.zv = some z) (w : World) (I : Nat → Prop) (φ : Phi) : ∃ v, (zeroValue t).run P w = .ok v w ∧ RV w I φ z v := by
  obtain ⟨i, hi, hs, hb, hd, ha, he, _, hzv⟩ := ti_spec h
  rw [hzv] at hz
  cases hv : i.zero with
  | none => rw [hv] at hz; cases hz
  | some v =>
    rw [hv] at hz
    simp only [Option.bind_some] at hz
    cases hst : (ofVal v).storable with
    | false => rw [hst] at hz; cases hz
    | true =>
      rw [hst] at hz
      simp only [cond_true, Option.some.injEq] at hz
      exact ⟨v, by simp [zeroValue, typeInfo, hi, hv], hz ▸ ofVal_ok w I φ v⟩

/-- cells of the model's against a list of abstract ones -/
def Cells (w : World) (I : Nat → Prop) (φ : Phi) (B o : Nat) (cs : List AV) : Prop :=
  ∀ (k : Nat) c, cs[k]? = some c → ∃ u, w.cell? ⟨B, o + k, none⟩ = some u ∧ u.oneCell' = true ∧ RV w I φ c u

theorem agg_of_cells {w : World} {I : Nat → Prop} {φ : Phi} {B o j n : Nat} {cs : List AV} (hc : Cells w I φ B o cs) (hn : j + n ≤ cs.length) :
    ∃ us : List Value, us.length = n ∧ (∀ (q : Nat) v, us[q]? = some v → w.cell? ⟨B, o + j + q, none⟩ = some v) ∧ RC w I φ ((cs.drop j).take n) us.toArray := by
  refine ⟨(List.range n).map fun q => (w.cell? ⟨B, o + j + q, none⟩).getD undef, by simp, ?_, ?_, ?_, ?_⟩
  · intro q v e
    by_cases hq : q < n
    · rw [List.getElem?_map, List.getElem?_range hq] at e
      simp only [Option.map_some, Option.some.injEq] at e
      have : j + q < cs.length := by omega
      obtain ⟨u, h1, h2, h3⟩ := hc (j + q) _ (List.getElem?_eq_getElem this)
      rw [← Nat.add_assoc] at h1
      rw [h1] at e ⊢
      simpa using e
    · rw [List.getElem?_eq_none (by simp; omega)] at e; cases e
  · simp; omega
  · intro q v e
    have e : ((List.range n).map fun q => (w.cell? ⟨B, o + j + q, none⟩).getD undef)[q]? = some v := by simpa using e
    by_cases hq : q < n
    · rw [List.getElem?_map, List.getElem?_range hq] at e
      simp only [Option.map_some, Option.some.injEq] at e
      have : j + q < cs.length := by omega
      obtain ⟨u, h1, h2, h3⟩ := hc (j + q) _ (List.getElem?_eq_getElem this)
      rw [← Nat.add_assoc] at h1
      rw [h1] at e
      simp only [Option.getD_some] at e
      exact e ▸ h2
    · rw [List.getElem?_eq_none (by simp; omega)] at e; cases e
  · intro q c v ec e
    have e : ((List.range n).map fun q => (w.cell? ⟨B, o + j + q, none⟩).getD undef)[q]? = some v := by simpa using e
    by_cases hq : q < n
    · rw [List.getElem?_map, List.getElem?_range hq] at e
      simp only [Option.map_some, Option.some.injEq] at e
      have hc' : cs[j + q]? = some c := by
        rw [List.getElem?_take, if_pos hq, List.getElem?_drop] at ec; exact ec
      obtain ⟨u, h1, h2, h3⟩ := hc (j + q) _ hc'
      rw [← Nat.add_assoc] at h1
      rw [h1] at e
      simp only [Option.getD_some] at e
      exact e ▸ h3
    · rw [List.getElem?_eq_none (by simp; omega)] at e; cases e

variable {R : Type}

theorem load_ok (h : tiOf P t = some ti) {w : World} {I : Nat → Prop} {φ : Phi} {B o j : Nat} {cs : List AV} (hc : Cells w I φ B o cs) {k : AV → Option R} {r : R}
    (hk : partK ti cs j k = some r) : ∃ v u, k v = some r ∧ (loadVar t ⟨B, o + j, none⟩).run P w = .ok u w ∧ RV w I φ v u := by
  unfold partK at hk
  cases ha : ti.agg with
  | true =>
    rw [ha, cond_true] at hk
    cases hn : Nat.ble (j + ti.size) cs.length with
    | false => rw [hn] at hk; cases hk
    | true =>
      rw [hn, cond_true] at hk
      obtain ⟨us, hl, hcell, hr⟩ := agg_of_cells hc (Nat.le_of_ble_eq_true hn)
      refine ⟨_, .agg us.toArray, hk, ?_, .agg _ _ hr.1 hr.2.1 hr.2.2⟩
      unfold loadVar
      simp only [Sem.run_bind, run_isAgg h, Result.andThen_ok, ha, if_true, run_sizeOf h]
      rw [run_loadCells_of us hl hcell]
      rfl
  | false =>
    rw [ha, cond_false] at hk
    split at hk
    · rename_i c hcj
      obtain ⟨u, h1, h2, h3⟩ := hc j c hcj
      refine ⟨c, u, hk, ?_, h3⟩
      unfold loadVar
      simp only [Sem.run_bind, run_isAgg h, Result.andThen_ok, ha, Bool.false_eq_true, if_false, run_load, h1]
    · cases hk

theorem part_ok (h : tiOf P t = some ti) {w : World} {I : Nat → Prop} {φ : Phi} {j : Nat} {cs : List AV} {vs : Array Value} (hc : RC w I φ cs vs) {k : AV → Option R} {r : R}
    (hk : partK ti cs j k = some r) : ∃ v u, k v = some r ∧ (part t vs j).run P w = .ok u w ∧ RV w I φ v u := by
  unfold partK at hk
  cases ha : ti.agg with
  | true =>
    rw [ha, cond_true] at hk
    cases hn : Nat.ble (j + ti.size) cs.length with
    | false => rw [hn] at hk; cases hk
    | true =>
      rw [hn, cond_true] at hk
      have hn' := Nat.le_of_ble_eq_true hn
      refine ⟨_, .agg (vs.extract j (j + ti.size)), hk, ?_, .agg _ _ ?_ ?_ ?_⟩
      · unfold part
        simp only [Sem.run_bind, run_isAgg h, Result.andThen_ok, ha, if_true, run_sizeOf h]
        rfl
      · have := hc.1; simp; omega
      · intro q u e
        rw [Array.getElem?_extract] at e
        split at e
        · exact hc.2.1 _ u e
        · cases e
      · intro q c u ec e
        rw [Array.getElem?_extract] at e
        split at e
        · rw [List.getElem?_take] at ec
          split at ec
          · rw [List.getElem?_drop] at ec; exact hc.2.2 _ c u ec e
          · cases ec
        · cases e
  | false =>
    rw [ha, cond_false] at hk
    split at hk
    · rename_i c hcj
      have hj : j < vs.size := by
        have := hc.1
        rcases Nat.lt_or_ge j cs.length with h' | h'
        · omega
        · rw [List.getElem?_eq_none h'] at hcj; cases hcj
      refine ⟨c, vs[j], hk, ?_, hc.2.2 j c _ hcj (Array.getElem?_eq_getElem hj)⟩
      unfold part
      simp only [Sem.run_bind, run_isAgg h, Result.andThen_ok, ha, Bool.false_eq_true, if_false, Array.getElem?_eq_getElem hj, Sem.run_pure]
    · cases hk

end

/-- what an operation does -/
def OpOk (P : Program) (ρ : Operand → Value) (o : Oper) (rd : Nat → BS) (φ : Phi) (I : Nat → Prop) (w : World) (v : AV) (wr : Wr) : Prop :=
  ∃ u w' φ' I', ((execOp ρ o).run P w = .ok (.value u) w' ∨ ((execOp ρ o).run P w = .ok .skip w' ∧ u = undef)) ∧ RV w' I' φ' v u ∧ RH w' I' φ' (rdputs rd wr) ∧
    (∀ base, Step base rd φ I w (rdputs rd wr) φ' I' w') ∧ Phi.le φ φ'

/-- the same, wherever what it reads and writes is as it was -/
def Sim (P : Program) (o : Oper) (ρ : Operand → AV) (rd : Nat → BS) (v : AV) (wr : Wr) (rdl : List Nat) : Prop :=
  ∀ (rd' : Nat → BS) (ρr : Operand → Value) (w : World) (φ : Phi) (I : Nat → Prop), (∀ b ∈ rdl, rd' b = rd b) → (∀ p ∈ wr, rd' p.1 = rd p.1) → RH w I φ rd' →
    (∀ x ∈ o.op.operands, RV w I φ (ρ x) (ρr x)) → OpOk P ρr o rd' φ I w v wr

theorem OpOk.pure {P : Program} {ρ : Operand → Value} {o : Oper} {rd : Nat → BS} {φ : Phi} {I : Nat → Prop} {w : World} {v : AV} {u : Value} (hh : RH w I φ rd)
    (h : (execOp ρ o).run P w = .ok (.value u) w) (hv : RV w I φ v u) : OpOk P ρ o rd φ I w v [] :=
  ⟨u, w, φ, I, .inl h, hv, hh, fun _ => Step.refl _ _ _ _ _, Phi.le_refl _⟩

theorem OpOk.alloc {P : Program} {ρ : Operand → Value} {o : Oper} {rd : Nat → BS} {φ : Phi} {I : Nat → Prop} {w : World} {v : AV} {u : Value} (hh : RH w I φ rd) {nx : Nat}
    (hn : rd nx = .none) (ob : Obj) (x : BS) (sz : Nat) (hm : mutable x = true) (hx : RB (w.alloc ob) I (φ.set nx (w.heap.size, 0, sz)) w.heap.size 0 sz x)
    (h : (execOp ρ o).run P w = .ok (.value u) (w.alloc ob)) (hv : RV (w.alloc ob) I (φ.set nx (w.heap.size, 0, sz)) v u) : OpOk P ρ o rd φ I w v [(nx, x)] :=
  have a := hh.alloc hn ob x sz hm hx
  ⟨u, w.alloc ob, _, I, .inl h, hv, (a 0).1, fun base => (a base).2.1, (a 0).2.2⟩

/-- the cells of a new row -/
theorem cells_new {w : World} {I : Nat → Prop} {φ φ' : Phi} {cs : List AV} {vs : Array Value} (hc : RC w I φ cs vs) (hlt : ∀ B, I B → B < w.heap.size) (le : Phi.le φ φ') (t : TypeId) (fz : Nat × Nat) :
    RC (w.alloc (.cells vs t fz)) I φ' cs vs :=
  hc.mono (fun B hB => ⟨hB, alloc_old w _ (hlt B hB)⟩) (Ext.alloc (fun _ => True) w _).csize le

theorem cell_new (w : World) (vs : Array Value) (t : TypeId) (fz : Nat × Nat) (q : Nat) : (w.alloc (.cells vs t fz)).cell? ⟨w.heap.size, q, none⟩ = vs[q]? :=
  cell_of (alloc_new w _)

theorem Row.new (w : World) (vs : Array Value) (t : TypeId) (m : Bool) : Row (w.alloc (.cells vs t)) w.heap.size m :=
  ⟨vs, t, (0, 0), alloc_new w _, fun _ k _ h => Nat.lt_irrefl 0 (Nat.lt_of_le_of_lt (Nat.zero_le _) h.2)⟩

/-- a new block of one element -/
theorem RB.one {w : World} {I : Nat → Prop} {φ φ' : Phi} {cs : List AV} {vs : Array Value} (hc : RC w I φ cs vs) (hlt : ∀ B, I B → B < w.heap.size) (le : Phi.le φ φ') (t : TypeId) :
    RB (w.alloc (.cells vs t)) I φ' w.heap.size 0 cs.length (.arr true cs.length [cs]) := by
  have hc' := cells_new hc hlt le t (0, 0)
  refine ⟨rfl, Row.new w vs t true, fun i c e => ?_, fun i c k x e e' => ?_⟩
  · cases i with
    | zero => simp at e; exact e ▸ rfl
    | succ i => simp at e
  · cases i with
    | zero =>
      simp at e
      subst e
      have hk : k < vs.size := by
        rcases Nat.lt_or_ge k cs.length with h | h
        · have := hc.1; omega
        · rw [List.getElem?_eq_none h] at e'; cases e'
      refine ⟨vs[k], ?_, hc.2.1 k _ (Array.getElem?_eq_getElem hk), hc'.2.2 k x _ e' (Array.getElem?_eq_getElem hk)⟩
      rw [cell_new]; simp [hk]
    | succ i => simp at e

theorem elem_ok {w : World} {I : Nat → Prop} {φ : Phi} {B o sz : Nat} {x : BS} (h : RB w I φ B o sz x) {R : Type} {i : Nat} {k : List AV → Option R} {r : R} (hk : elemK x i k = some r) :
    ∃ cs, k cs = some r ∧ Cells w I φ B (o + i * sz) cs := by
  unfold elemK at hk
  split at hk
  · split at hk
    · rename_i cs hcs
      exact ⟨cs, hk, fun q c e => h.2.2.2 i cs q c hcs e⟩
    · cases hk
  · rename_i m s n f
    cases hn : Nat.blt i n with
    | false => rw [hn] at hk; cases hk
    | true =>
      rw [hn, cond_true] at hk
      have hi : i < n := by simpa [Nat.blt_eq] using hn
      refine ⟨_, hk, fun q c e => ?_⟩
      obtain ⟨u, a, b, c'⟩ := h.2.2.2 i q c hi e
      exact ⟨u, a, b, c'.mono (fun B hB => ⟨hB, rfl⟩) (fun _ => Nat.le_refl _) (Phi.no_le _)⟩
  · cases hk

end Go.AM
