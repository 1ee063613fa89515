/- Stores; addresses; parts. -/
import Derived.Test.YtnioalecffkedaaAm5
set_option linter.unusedVariables false
set_option linter.unusedSimpArgs false
namespace Go.AM

variable {R : Type}

theorem idx_ne {i i' sz k k' : Nat} (h : i' ≠ i) (hk : k < sz) (hk' : k' < sz) : i' * sz + k ≠ i * sz + k' := by
  rcases Nat.lt_or_gt_of_ne h with h | h
  · have := Nat.mul_le_mul_right sz (Nat.succ_le_of_lt h)
    rw [Nat.succ_mul] at this
    omega
  · have := Nat.mul_le_mul_right sz (Nat.succ_le_of_lt h)
    rw [Nat.succ_mul] at this
    omega

theorem setAt_length {cs vs : List AV} {j : Nat} (h : j + vs.length ≤ cs.length) : (setAt cs j vs).length = cs.length := by
  simp [setAt]; omega

theorem setAt_get {cs vs : List AV} {j : Nat} (h : j + vs.length ≤ cs.length) (q : Nat) :
    (setAt cs j vs)[q]? = if j ≤ q ∧ q < j + vs.length then vs[q - j]? else cs[q]? := by
  unfold setAt
  by_cases h1 : q < j
  · rw [List.getElem?_append_left (by simp; omega), if_neg (by omega), List.getElem?_take, if_pos h1]
  · rw [List.getElem?_append_right (by simp; omega)]
    have hl : (cs.take j).length = j := by simp; omega
    rw [hl]
    by_cases h2 : q < j + vs.length
    · rw [List.getElem?_append_left (by omega), if_pos (by omega)]
    · rw [List.getElem?_append_right (by omega), if_neg (by omega), List.getElem?_drop]
      congr 1
      omega

/-- the element i of a block -/
def elemAt : BS → Nat → Option (List AV)
  | .arr _ _ es, i => es[i]?
  | .seq _ _ n f, i => if i < n then some (f i) else none
  | _, _ => none

/-- by which map its cells are read -/
def vphi (φ : Phi) : BS → Phi
  | .seq .. => Phi.no
  | _ => φ

def bsz : BS → Nat
  | .arr _ s _ => s
  | .seq _ s _ _ => s
  | _ => 0

def isRow : BS → Bool
  | .arr .. | .seq .. => true
  | _ => false

theorem RB.row {w : World} {I : Nat → Prop} {φ : Phi} {B o sz : Nat} {x : BS} (h : RB w I φ B o sz x) (hr : isRow x = true) :
    bsz x = sz ∧ Row w B (mutable x) ∧ ∀ i cs, elemAt x i = some cs → cs.length = sz ∧ Cells w I (vphi φ x) B (o + i * sz) cs := by
  cases x with
  | arr m s es => exact ⟨h.1, h.2.1, fun i cs e => ⟨h.2.2.1 i cs e, fun k c e' => h.2.2.2 i cs k c e e'⟩⟩
  | seq m s n f =>
    refine ⟨h.1, h.2.1, fun i cs e => ?_⟩
    simp only [elemAt] at e
    split at e
    · rename_i hi; cases e; exact ⟨h.2.2.1 i hi, fun k c e' => h.2.2.2 i k c hi e'⟩
    · cases e
  | none => cases hr
  | dead => cases hr
  | map m es => cases hr
  | iter m es st => cases hr

theorem RB.of_row {w : World} {I : Nat → Prop} {φ : Phi} {B o sz : Nat} {x : BS} (hr : isRow x = true) (h0 : bsz x = sz) (h1 : Row w B (mutable x))
    (h2 : ∀ i cs, elemAt x i = some cs → cs.length = sz ∧ Cells w I (vphi φ x) B (o + i * sz) cs) : RB w I φ B o sz x := by
  cases x with
  | arr m s es => exact ⟨h0, h1, fun i cs e => (h2 i cs e).1, fun i cs k c e e' => (h2 i cs e).2 k c e'⟩
  | seq m s n f =>
    have he : ∀ i, i < n → elemAt (.seq m s n f) i = some (f i) := fun i hi => by simp [elemAt, hi]
    exact ⟨h0, h1, fun i hi => (h2 i _ (he i hi)).1, fun i k c hi e' => (h2 i _ (he i hi)).2 k c e'⟩
  | none => cases hr
  | dead => cases hr
  | map m es => cases hr
  | iter m es st => cases hr

section
variable {P : Program} {tt : TT} {ρ : Operand → AV} {rd : Nat → BS} {nx : Nat} {k : AopK R} {r : R} {o : Oper}

/-- cells of one element written -/
theorem write_elem {w : World} {I : Nat → Prop} {φ : Phi} {rd : Nat → BS} (hh : RH w I φ rd) {b B ob sz i j : Nat} {cs vs : List AV} {us : Array Value} {x' : BS}
    (hφ : φ b = some (B, ob, sz)) (hm : mutable (rd b) = true) (hr : isRow (rd b) = true) (he : elemAt (rd b) i = some cs) (hj : j + vs.length ≤ cs.length) (h1 : 1 ≤ vs.length)
    (hv : RC w I (vphi φ (rd b)) vs us) (hx0 : isRow x' = true) (hxm : mutable x' = true) (hxs : bsz x' = bsz (rd b)) (hxp : vphi φ x' = vphi φ (rd b))
    (hx : ∀ i' cs', elemAt x' i' = some cs' → (i' = i ∧ cs' = setAt cs j vs) ∨ (i' ≠ i ∧ elemAt (rd b) i' = some cs')) :
    ∃ w', (storeCells ⟨B, ob + i * sz + j, none⟩ us.toList).run P w = .ok () w' ∧ RH w' I φ (rdput rd b x') ∧ ∀ base, Step base rd φ I w (rdput rd b x') φ I w' := by
  obtain ⟨B', o', sz', e, hrb⟩ := hh.blk b (live_of_mutable hm)
  rw [hφ] at e; cases e
  obtain ⟨hbs, ⟨c, e, fz, hc, ht⟩, hel⟩ := hrb.row hr
  have hul : us.toList.length = vs.length := by simpa using hv.1.symm
  have hcs := hel i cs he
  have hlast : ob + i * sz + j + vs.length ≤ c.size := by
    obtain ⟨u, hu, _⟩ := hcs.2 (j + vs.length - 1) _ (List.getElem?_eq_getElem (by omega : j + vs.length - 1 < cs.length))
    rw [cell_of hc] at hu
    have : ob + i * sz + (j + vs.length - 1) < c.size := by
      rcases Nat.lt_or_ge (ob + i * sz + (j + vs.length - 1)) c.size with h | h
      · exact h
      · rw [Array.getElem?_eq_none h] at hu; cases hu
    omega
  have hrun := run_storeCells (P := P) (o := ob + i * sz + j) us.toList 0 c w hc (by omega) (ht hm) (fun v hv' => by
    obtain ⟨q, hq⟩ := List.getElem?_of_mem hv'
    exact hv.2.1 q v (by simpa using hq))
  have hn := RH.write hh hφ hm hc (splice_size us.toList c (ob + i * sz + j)) x' hxm (by
    refine RB.of_row hx0 (hxs.trans hbs) ⟨_, e, fz, setBlk_same (lt_of_heap hc), fun _ q hq => ht hm q (by simpa using hq)⟩ fun i' cs' e' => ?_
    have ext := Ext.setBlk (M := Mut φ rd) (c' := splice c (ob + i * sz + j) us.toList) hc (splice_size _ _ _) ⟨b, ob, sz, hm, hφ⟩
    have mono : ∀ {φ' : Phi} {v : AV} {u : Value}, RV w I φ' v u → RV (World.setBlk w B (.cells (splice c (ob + i * sz + j) us.toList) e fz)) I φ' v u := fun hvu =>
      hvu.mono (fun B hB => ⟨hB, ext.keep B (hh.lt B hB) fun ⟨b, o, sz, hm, e⟩ => hh.disj b B o sz hm e hB⟩) ext.csize (Phi.le_refl _)
    rw [hxp]
    rcases hx i' cs' e' with ⟨rfl, rfl⟩ | ⟨hne, hold⟩
    · refine ⟨by rw [setAt_length hj]; exact hcs.1, fun q cc hq => ?_⟩
      rw [cell_of (setBlk_same (lt_of_heap hc)), splice_get _ _ _ _ (by rw [hul]; exact hlast), hul]
      rw [setAt_get hj] at hq
      split at hq
      · rename_i hin
        rw [if_pos (by omega)]
        have hlt : q - j < us.size := by have := hv.1; omega
        refine ⟨us[q - j], ?_, hv.2.1 _ _ (Array.getElem?_eq_getElem hlt), mono (hv.2.2 _ _ _ hq (Array.getElem?_eq_getElem hlt))⟩
        rw [show ob + i' * sz + q - (ob + i' * sz + j) = q - j by omega]
        simp [hlt]
      · rename_i hout
        obtain ⟨u, hu, h2, h3⟩ := hcs.2 q cc hq
        rw [cell_of hc] at hu
        exact ⟨u, by rw [if_neg (by omega)]; exact hu, h2, mono h3⟩
    · have hold' := hel i' cs' hold
      refine ⟨hold'.1, fun q cc hq => ?_⟩
      obtain ⟨u, hu, h2, h3⟩ := hold'.2 q cc hq
      rw [cell_of hc] at hu
      rw [cell_of (setBlk_same (lt_of_heap hc)), splice_get _ _ _ _ (by rw [hul]; exact hlast), hul]
      have hql : q < cs'.length := by
        rcases Nat.lt_or_ge q cs'.length with h | h
        · exact h
        · rw [List.getElem?_eq_none h] at hq; cases hq
      have hsz : q < sz := hold'.1 ▸ hql
      have hcsz := hcs.1
      refine ⟨u, ?_, h2, mono h3⟩
      rw [if_neg]
      · exact hu
      · rintro ⟨ha, hb⟩
        have : i' * sz + q = i * sz + (i' * sz + q - i * sz) := by omega
        exact idx_ne hne hsz (by omega : i' * sz + q - i * sz < sz) this)
  exact ⟨_, hrun, (hn 0).1, fun base => (hn base).2⟩

theorem aop_store (htt : TTok P tt) {t : TypeId} {a x : Operand} (ho : o.op = .store t a x) (h : aopK tt ρ rd nx (.store t a x) k = some r) : Good P o ρ rd k r := by
  simp only [aopK] at h
  obtain ⟨ti, hti, h⟩ := onK_some h
  obtain ⟨hc, h⟩ := cond_some h
  obtain ⟨hst, hc⟩ := and_true' hc
  obtain ⟨hlen, hpos⟩ := and_true' hc
  have hlen : (ρ x).cells.length = ti.size := Nat.eq_of_beq_eq_true hlen
  have hpos : 1 ≤ ti.size := Nat.le_of_ble_eq_true hpos
  have hrun : ∀ (ρr : Operand → Value) (w w' : World) (φ : Phi) (I : Nat → Prop) B q, ρr a = .pointer (some ⟨B, q, none⟩) → RV w I φ (ρ x) (ρr x) →
      (storeCells ⟨B, q, none⟩ (ρr x).cells.toList).run P w = .ok () w' → (execOp ρr o).run P w = .ok .skip w' := by
    intro ρr w w' φ I B q ha hx hs
    have hsz : (ρr x).cells.size = ti.size := by have := (hx.cells hst).1; omega
    simp [execOp, ho, Instr.storeAt, Instr.sureAddr, ha, storeVar, run_sizeOf (htt t ti hti), hsz, hs]
  split at h
  · rename_i b i j ha
    split at h
    · rename_i sz es hb
      split at h
      · rename_i cs hcs
        obtain ⟨hjl, h⟩ := cond_some h
        have hjl := Nat.le_of_ble_eq_true hjl
        refine ⟨_, _, _, h, fun rd' ρr w φ I hrd _ hh hx => ?_⟩
        have hb' := hrd b (by simp)
        rw [hb] at hb'
        have hp := hx a (by simp [ho, Op.operands])
        have hxx := hx x (by simp [ho, Op.operands])
        rw [ha] at hp
        generalize hu : ρr a = u at hp
        cases hp with
        | ptr _ B ob sz' _ _ q hφ hq =>
          obtain ⟨w', h1, h2, h3⟩ := write_elem (P := P) (vs := (ρ x).cells) (us := (ρr x).cells) (x' := .arr true sz (es.set i (setAt cs j (ρ x).cells))) (i := i) (j := j) (cs := cs) hh hφ
            (by rw [hb']; rfl) (by rw [hb']; rfl) (by rw [hb']; exact hcs) (by omega) (by omega) (by rw [hb']; exact hxx.cells hst) rfl rfl (by rw [hb']; rfl) (by rw [hb']; rfl)
            (fun i' cs' e => by
              rw [hb']
              simp only [elemAt] at e ⊢
              by_cases hi : i' = i
              · subst hi
                have hlt : i' < es.length := by
                  rcases Nat.lt_or_ge i' es.length with h | h
                  · exact h
                  · rw [List.getElem?_eq_none h] at hcs; cases hcs
                rw [List.getElem?_set_self hlt] at e
                exact .inl ⟨rfl, by cases e; rfl⟩
              · rw [List.getElem?_set_ne (fun e => hi e.symm)] at e
                exact .inr ⟨hi, e⟩)
          rw [← hq] at h1
          exact ⟨undef, w', φ, I, .inr ⟨hrun ρr w w' φ I B q hu hxx h1, rfl⟩, .undef _, h2, h3, Phi.le_refl _⟩
      · cases h
    · rename_i sz n f hb
      obtain ⟨hcc, h⟩ := cond_some h
      obtain ⟨hfree, hcc⟩ := and_true' hcc
      obtain ⟨hin, hjl⟩ := and_true' hcc
      have hin : i < n := by simpa [Nat.blt_eq] using hin
      have hjl := Nat.le_of_ble_eq_true hjl
      refine ⟨_, _, _, h, fun rd' ρr w φ I hrd _ hh hx => ?_⟩
      have hb' := hrd b (by simp)
      rw [hb] at hb'
      have hp := hx a (by simp [ho, Op.operands])
      have hxx := hx x (by simp [ho, Op.operands])
      rw [ha] at hp
      generalize hu : ρr a = u at hp
      cases hp with
      | ptr _ B ob sz' _ _ q hφ hq =>
        have hcells := hxx.cells hst
        obtain ⟨w', h1, h2, h3⟩ := write_elem (P := P) (vs := (ρ x).cells) (us := (ρr x).cells) (x' := .seq true sz n fun i' => bif Nat.beq i' i then setAt (f i) j (ρ x).cells else f i') (i := i) (j := j) (cs := f i) hh hφ
          (by rw [hb']; rfl) (by rw [hb']; rfl) (by rw [hb']; simp [elemAt, hin]) (by omega) (by omega)
          (by rw [hb']; exact ⟨hcells.1, hcells.2.1, fun q c u e e' => (hcells.2.2 q c u e e').free ((List.all_eq_true.1 hfree) c (List.mem_of_getElem? e))⟩)
          rfl rfl (by rw [hb']; rfl) (by rw [hb']; rfl)
          (fun i' cs' e => by
            rw [hb']
            simp only [elemAt] at e ⊢
            by_cases hi : i' = i
            · subst hi
              rw [if_pos hin] at e
              simp at e
              exact .inl ⟨rfl, e.symm⟩
            · have : Nat.beq i' i = false := by
                cases hq : Nat.beq i' i with
                | false => rfl
                | true => exact absurd (Nat.eq_of_beq_eq_true hq) hi
              rw [this, cond_false] at e
              exact .inr ⟨hi, e⟩)
        rw [← hq] at h1
        exact ⟨undef, w', φ, I, .inr ⟨hrun ρr w w' φ I B q hu hxx h1, rfl⟩, .undef _, h2, h3, Phi.le_refl _⟩
    · cases h
  · cases h

end
end Go.AM
