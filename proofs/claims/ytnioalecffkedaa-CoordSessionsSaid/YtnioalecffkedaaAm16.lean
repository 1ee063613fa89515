/- 'append': in place, or into a new row. -/
import Derived.Test.YtnioalecffkedaaAm15
import Derived.Laws.Append
set_option linter.unusedVariables false
set_option linter.unusedSimpArgs false
namespace Go.AM

variable {R : Type}

section
variable {P : Program}

/-- elements written one behind the other into a block -/
theorem write_range {w : World} {I : Nat → Prop} {φ : Phi} {rd : Nat → BS} (hh : RH w I φ rd) {b B ob sz p m : Nat} {nf : Nat → List AV} {vs : Array Value} {x' : BS}
    (hφ : φ b = some (B, ob, sz)) (hm : mutable (rd b) = true) (hr : isRow (rd b) = true) (hf : Flat w I (vphi φ x') sz m nf vs) (hsz : 1 ≤ sz) (hmp : 1 ≤ m)
    (hin : ∃ cs, elemAt (rd b) (p + m - 1) = some cs)
    (hx0 : isRow x' = true) (hxm : mutable x' = true) (hxs : bsz x' = bsz (rd b)) (hxp : vphi φ x' = vphi φ (rd b))
    (hx : ∀ i cs', elemAt x' i = some cs' → (p ≤ i ∧ i < p + m ∧ cs' = nf (i - p)) ∨ (¬ (p ≤ i ∧ i < p + m) ∧ elemAt (rd b) i = some cs')) :
    ∃ w', (storeCells ⟨B, ob + p * sz, none⟩ vs.toList).run P w = .ok () w' ∧ RH w' I φ (rdput rd b x') ∧ ∀ base, Step base rd φ I w (rdput rd b x') φ I w' := by
  obtain ⟨B', o', sz', e, hrb⟩ := hh.blk b (live_of_mutable hm)
  rw [hφ] at e; cases e
  obtain ⟨hbs, ⟨c, e, fz, hc, ht⟩, hel⟩ := hrb.row hr
  have hvl : vs.toList.length = m * sz := by simpa using hf.size
  obtain ⟨cl, hcl⟩ := hin
  have hclr := hel _ cl hcl
  have hlast : ob + p * sz + m * sz ≤ c.size := by
    obtain ⟨u, hu, _⟩ := hclr.2 (sz - 1) _ (List.getElem?_eq_getElem (by rw [hclr.1]; omega))
    rw [cell_of hc] at hu
    have : ob + (p + m - 1) * sz + (sz - 1) < c.size := by
      rcases Nat.lt_or_ge (ob + (p + m - 1) * sz + (sz - 1)) c.size with h | h
      · exact h
      · rw [Array.getElem?_eq_none h] at hu; cases hu
    have e1 : (p + m - 1) * sz + sz = p * sz + m * sz := by
      have : p + m = (p + m - 1) + 1 := by omega
      rw [← Nat.add_mul]
      conv => rhs; rw [this, Nat.succ_mul]
    omega
  have hrun := run_storeCells (P := P) (o := ob + p * sz) vs.toList 0 c w hc (by rw [hvl]; omega) (ht hm) (fun v hv' => by
    obtain ⟨q, hq⟩ := List.getElem?_of_mem hv'
    exact hf.one q v (by simpa using hq))
  have hn := RH.write hh hφ hm hc (splice_size vs.toList c (ob + p * sz)) x' hxm (by
    refine RB.of_row hx0 (hxs.trans hbs) ⟨_, e, fz, setBlk_same (lt_of_heap hc), fun _ q hq => ht hm q (by simpa using hq)⟩ fun i' cs' e' => ?_
    have ext := Ext.setBlk (M := Mut φ rd) (c' := splice c (ob + p * sz) vs.toList) hc (splice_size _ _ _) ⟨b, ob, sz, hm, hφ⟩
    have mono : ∀ {φ' : Phi} {v : AV} {u : Value}, RV w I φ' v u → RV (World.setBlk w B (.cells (splice c (ob + p * sz) vs.toList) e fz)) I φ' v u := fun hvu =>
      hvu.mono (fun B hB => ⟨hB, ext.keep B (hh.lt B hB) fun ⟨b, o, sz, hm, e⟩ => hh.disj b B o sz hm e hB⟩) ext.csize (Phi.le_refl _)
    rcases hx i' cs' e' with ⟨h1, h2, rfl⟩ | ⟨hne, hold⟩
    · have hi : i' - p < m := by omega
      refine ⟨hf.len _ hi, fun q cc hq => ?_⟩
      have hqs : q < sz := by
        have := hf.len _ hi
        rcases Nat.lt_or_ge q (nf (i' - p)).length with h | h
        · omega
        · rw [List.getElem?_eq_none h] at hq; cases hq
      have hp := idx_lt hi hqs
      rw [cell_of (setBlk_same (lt_of_heap hc)), splice_get _ _ _ _ (by rw [hvl]; exact hlast), hvl]
      have e1 : ob + i' * sz + q = ob + p * sz + ((i' - p) * sz + q) := by
        have : i' = p + (i' - p) := by omega
        conv => lhs; rw [this, Nat.add_mul]
        omega
      rw [e1, if_pos (by omega), Nat.add_sub_cancel_left]
      have hlt : (i' - p) * sz + q < vs.size := by rw [hf.size]; exact hp
      exact ⟨vs[(i' - p) * sz + q], by simp [hlt], hf.one _ _ (Array.getElem?_eq_getElem hlt), mono (hf.val _ q cc _ hi hq (Array.getElem?_eq_getElem hlt))⟩
    · have hold' := hel i' cs' hold
      rw [hxp]
      refine ⟨hold'.1, fun q cc hq => ?_⟩
      obtain ⟨u, hu, h2, h3⟩ := hold'.2 q cc hq
      rw [cell_of hc] at hu
      rw [cell_of (setBlk_same (lt_of_heap hc)), splice_get _ _ _ _ (by rw [hvl]; exact hlast), hvl]
      have hqs : q < sz := by
        rcases Nat.lt_or_ge q cs'.length with h | h
        · have := hold'.1; omega
        · rw [List.getElem?_eq_none h] at hq; cases hq
      refine ⟨u, ?_, h2, mono h3⟩
      rw [if_neg]
      · exact hu
      · rintro ⟨ha, hb⟩
        apply hne
        constructor
        · rcases Nat.lt_or_ge i' p with hlt | hge
          · have := Nat.mul_le_mul_right sz (Nat.succ_le_of_lt hlt)
            rw [Nat.succ_mul] at this; omega
          · exact hge
        · rcases Nat.lt_or_ge i' (p + m) with hlt | hge
          · exact hlt
          · have := Nat.mul_le_mul_right sz hge
            rw [Nat.add_mul] at this; omega)
  exact ⟨_, hrun, (hn 0).1, fun base => (hn base).2⟩

theorem app_len (v1 v2 : View) : (viewApp v1 v2).len = v1.len + v2.len := by cases v1 <;> cases v2 <;> simp [viewApp, View.len]

theorem app_at1 {v1 v2 : View} {i : Nat} (hi : i < v1.len) : (viewApp v1 v2).at i = v1.at i := by
  have hb : Nat.blt i v1.len = true := by rw [Nat.blt_eq]; exact hi
  cases v1 with
  | list a => cases v2 with
    | list b => simp only [viewApp, View.at, List.getD]; rw [List.getElem?_append_left hi]
    | fn n g => simp only [viewApp, View.at]; rw [hb]; rfl
  | fn m f => simp only [viewApp, View.at]; rw [hb]; rfl

theorem app_at2 {v1 v2 : View} {i : Nat} (hi : v1.len ≤ i) (hi2 : i < v1.len + v2.len) : (viewApp v1 v2).at i = v2.at (i - v1.len) := by
  have hb : Nat.blt i v1.len = false := by
    cases h : Nat.blt i v1.len with
    | false => rfl
    | true => rw [Nat.blt_eq] at h; omega
  have hb2 : Nat.blt i (v1.len + v2.len) = true := by rw [Nat.blt_eq]; exact hi2
  cases v1 with
  | list a => cases v2 with
    | list b => simp only [viewApp, View.at, List.getD]; rw [List.getElem?_append_right hi]; rfl
    | fn n g => simp only [viewApp, View.at]; rw [hb, hb2]; rfl
  | fn m f => simp only [viewApp, View.at]; rw [hb, hb2]; rfl

theorem view_mem {es : List (List AV)} {i : Nat} (hi : i < es.length) : View.at (.list es) i ∈ es := by
  simp only [View.at, List.getD]
  rw [List.getElem?_eq_getElem hi]
  exact List.getElem_mem _

theorem app_rv1 {w : World} {I : Nat → Prop} {φ : Phi} {v1 v2 : View} (hl : (match viewApp v1 v2 with | .list _ => true | .fn _ _ => vfree v1) = true) {i k : Nat} {c : AV} {u : Value} (hi : i < v1.len)
    (hc : (v1.at i)[k]? = some c) (hv : RV w I (wphi φ v1) c u) : RV w I (wphi φ (viewApp v1 v2)) c u := by
  cases v1 with
  | list a => cases v2 with
    | list b => exact hv
    | fn n g =>
      simp only [viewApp, vfree, List.all_eq_true] at hl
      exact hv.free (hl _ (view_mem hi) _ (List.mem_of_getElem? hc))
  | fn m f => exact hv

theorem app_rv2 {w : World} {I : Nat → Prop} {φ : Phi} {v1 v2 : View} (hr : (vfree v2 || (match viewApp v1 v2 with | .list _ => true | .fn _ _ => false)) = true) {i k : Nat} {c : AV} {u : Value} (hi : i < v2.len)
    (hc : (v2.at i)[k]? = some c) (hv : RV w I (wphi φ v2) c u) : RV w I (wphi φ (viewApp v1 v2)) c u := by
  cases v2 with
  | list b => cases v1 with
    | list a => exact hv
    | fn m f =>
      simp only [viewApp, Bool.or_false, vfree, List.all_eq_true] at hr
      exact hv.free (hr _ (view_mem hi) _ (List.mem_of_getElem? hc))
  | fn n g => cases v1 <;> exact hv

theorem flat_k {w : World} {I : Nat → Prop} {φ : Phi} {sz n : Nat} {f : Nat → List AV} {vs : Array Value} (h : Flat w I φ sz n f vs) {i k : Nat} {c : AV} (hi : i < n) (hc : (f i)[k]? = some c) : k < sz := by
  have := h.len i hi
  rcases Nat.lt_or_ge k (f i).length with h' | h'
  · omega
  · rw [List.getElem?_eq_none h'] at hc; cases hc

theorem flat_app {w : World} {I : Nat → Prop} {φ : Phi} {sz : Nat} {v1 v2 : View} {vs1 vs2 : Array Value} (h1 : Flat w I (wphi φ v1) sz v1.len v1.at vs1) (h2 : Flat w I (wphi φ v2) sz v2.len v2.at vs2)
    (hl : (match viewApp v1 v2 with | .list _ => true | .fn _ _ => vfree v1) = true) (hr : (vfree v2 || (match viewApp v1 v2 with | .list _ => true | .fn _ _ => false)) = true) :
    Flat w I (wphi φ (viewApp v1 v2)) sz (viewApp v1 v2).len (viewApp v1 v2).at (vs1 ++ vs2) := by
  have hlen := app_len v1 v2
  refine ⟨by rw [hlen, Array.size_append, h1.size, h2.size, Nat.add_mul], fun p u e => ?_, fun i hi => ?_, fun i k c u hi hc e => ?_⟩
  · rw [Array.getElem?_append] at e
    split at e
    · exact h1.one p u e
    · exact h2.one _ u e
  · rw [hlen] at hi
    by_cases hi1 : i < v1.len
    · rw [app_at1 hi1]; exact h1.len i hi1
    · rw [app_at2 (by omega) hi]; exact h2.len _ (by omega)
  · rw [hlen] at hi
    by_cases hi1 : i < v1.len
    · rw [app_at1 hi1] at hc
      rw [Array.getElem?_append_left (by rw [h1.size]; exact idx_lt hi1 (flat_k h1 hi1 hc))] at e
      exact app_rv1 hl hi1 hc (h1.val i k c u hi1 hc e)
    · rw [app_at2 (by omega) hi] at hc
      have hge : vs1.size ≤ i * sz + k := by
        rw [h1.size]
        have := Nat.mul_le_mul_right sz (by omega : v1.len ≤ i)
        omega
      rw [Array.getElem?_append_right hge, h1.size] at e
      have e1 : i * sz + k - v1.len * sz = (i - v1.len) * sz + k := by
        rw [Nat.sub_mul]
        have := Nat.mul_le_mul_right sz (by omega : v1.len ≤ i)
        omega
      rw [e1] at e
      exact app_rv2 hr (by omega) hc (h2.val _ k c u (by omega) hc e)

/-- 'append' run -/
theorem run_append {t e : TypeId} {ti te : TI} (hti : tiOf P t = some ti) (hd : ti.desc = .slice e) (hte : tiOf P e = some te) {z : List AV} (hz : te.zero = some z) {argTypes : Array TypeId} {ty : TypeId}
    (ha0 : argTypes[0]? = some t) (ha1 : ∀ t2, argTypes[1]? = some t2 → ∃ d, P.underlying t2 = some d ∧ ∀ kd, d ≠ .int kd)
    {a : Option Addr} {n cap m : Nat} {ux : Value} {w : World} (hl : ∀ w', (Builtin.lenOf ux).run P w' = .ok m w') {vo vn : Array Value} (ho : ∀ w' : World, w'.heap = w.heap → (Builtin.firstCells te.size n (.slice a n cap)).run P w' = .ok vo w')
    (hn : ∀ w' : World, w'.heap = w.heap → (Builtin.firstCells te.size m ux).run P w' = .ok vn w') (hb : (n + m) * te.bytes ≤ 140737488355328) (hb2 : n + m ≤ 140737488355328) :
    (n + m ≤ cap → (Builtin.append_ argTypes ty #[.slice a n cap, ux]).run P w =
      ((match a with | some a => storeCells (a.add (n * te.size)) vn.toList | none => pure ()).run P w).andThen fun _ w' => .ok (.slice a (n + m) cap) w') ∧
    (cap < n + m → ∃ (nc : Nat) (rest : Array Value), n + m ≤ nc ∧ rest.size = (nc - (n + m)) * z.length ∧
      (Builtin.append_ argTypes ty #[.slice a n cap, ux]).run P w = .ok (.slice (some ⟨w.heap.size, 0, none⟩) (n + m) nc) (w.drew.alloc (.cells (vo ++ vn ++ rest) e))) := by
  obtain ⟨i, hi0, hsi, hbi, _⟩ := ti_spec hte
  have hi : ∀ w', (typeInfo e).run P w' = .ok i w' := fun w' => by simp [typeInfo, hi0]
  constructor
  · intro hle
    unfold Builtin.append_
    simp only [ha0, List.getElem?_toArray, List.getElem?_cons_zero, List.getElem?_cons_succ, Sem.run_bind, run_underlying hti, hd, Result.andThen_ok, run_sizeOf hte]
    cases h1 : argTypes[1]? with
    | none =>
      simp only [Sem.run_pure, Sem.run_bind, Bool.false_eq_true, if_false, hl, Result.andThen_ok, hle, if_true, Bool.not_false, hn w rfl]
      cases a <;> simp
    | some t2 =>
      obtain ⟨d, hd2, hne⟩ := ha1 t2 h1
      have hu : (underlying t2).run P w = .ok d w := by simp [underlying, hd2]
      have hf : (match d with | .int _ => true | _ => false) = false := by cases d <;> first | rfl | exact absurd rfl (hne _)
      simp only [Sem.run_bind, hu, Result.andThen_ok, Sem.run_pure, hf, Bool.false_eq_true, if_false, hl, hle, if_true, Bool.not_false, hn w rfl]
      cases a <;> simp
  · intro hlt
    have hgt : ¬ (n + m ≤ cap) := by omega
    have hmax : ¬ (((n + m : Nat) : Int) > IntKind.i64.max ∧ (False ∨ i.bytes = 0)) := by
      have : IntKind.i64.max = 9223372036854775807 := by decide
      rw [this]; omega
    have hnext : ¬ (Builtin.nextslicecap (n + m) cap * i.bytes > 2 ^ 48) := by
      have h1 := nextslicecap_le hlt
      have h2 := Nat.mul_le_mul_right i.bytes h1
      have h3 : 2 * (n + m) * i.bytes = 2 * ((n + m) * i.bytes) := Nat.mul_assoc _ _ _
      rw [hbi] at h2 h3 ⊢
      have : (2 : Nat) ^ 48 = 281474976710656 := by decide
      omega
    obtain ⟨vz, hvz, _, _, hrz⟩ := run_zero hte hz w (fun _ => False) Phi.no
    have hvz' : ∀ w', (zeroValue e).run P w' = .ok vz w' := by
      intro w'
      obtain ⟨i', hi', _, _, _, _, hzz, _⟩ := ti_spec hte
      simp only [zeroValue, typeInfo, Sem.run_bind, run_program, Result.andThen_ok, hi', Sem.run_pure] at hvz ⊢
      cases hiz : i'.zero with
      | none => rw [hiz] at hvz; simp at hvz
      | some v' => rw [hiz] at hvz; simp at hvz; simp [hvz]
    refine ⟨(Question.appendCap (n + m) cap e).cut (w.tape w.drawn (.appendCap (n + m) cap e)), Builtin.zeroCells vz.cells ((Question.appendCap (n + m) cap e).cut (w.tape w.drawn (.appendCap (n + m) cap e)) - (n + m)), ?_, ?_, ?_⟩
    rotate_left 2
    · have hch : (choose (.appendCap (n + m) cap e)).run P w = .ok ((Question.appendCap (n + m) cap e).cut (w.tape w.drawn (.appendCap (n + m) cap e))) w.drew := by
        rw [run_choose]; rfl
      unfold Builtin.append_
      simp only [ha0, List.getElem?_toArray, List.getElem?_cons_zero, List.getElem?_cons_succ, Sem.run_bind, run_underlying hti, hd, Result.andThen_ok, run_sizeOf hte]
      cases h1 : argTypes[1]? with
      | none =>
        simp only [Bool.false_eq_true, if_false, Sem.run_bind, hl, Result.andThen_ok, hgt, Bool.not_false, if_true, hi, hmax, hnext, hch, run_askRoom, ho w.drew rfl, hn w.drew rfl, hvz', newRow, run_newObj, Sem.run_pure]
        rfl
      | some t2 =>
        obtain ⟨d, hd2, hne⟩ := ha1 t2 h1
        have hu : (underlying t2).run P w = .ok d w := by simp [underlying, hd2]
        have hf : (match d with | .int _ => true | _ => false) = false := by cases d <;> first | rfl | exact absurd rfl (hne _)
        simp only [hu, hf, Bool.false_eq_true, if_false, Sem.run_bind, hl, Result.andThen_ok, hgt, Bool.not_false, if_true, hi, hmax, hnext, hch, run_askRoom, ho w.drew rfl, hn w.drew rfl, hvz', newRow, run_newObj, Sem.run_pure]
        rfl
    · simp [Question.cut]
    · simp only [Builtin.zeroCells, Array.size_map, Array.size_range]
      rw [hrz.1]

end
end Go.AM
