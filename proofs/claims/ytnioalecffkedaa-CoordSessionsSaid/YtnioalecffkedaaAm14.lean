/- Maps; slices made; and all operations that call nothing together. -/
import Derived.Test.YtnioalecffkedaaAm13
import Derived.MapKept
set_option linter.unusedVariables false
set_option linter.unusedSimpArgs false
namespace Go.AM

variable {R : Type}

section
variable {P : Program} {tt : TT} {ρ : Operand → AV} {rd : Nat → BS} {nx : Nat} {k : AopK R} {r : R} {o : Oper}

theorem RB.newMap (w : World) (I : Nat → Prop) (φ : Phi) : RB (w.alloc (.map #[] 0)) I φ w.heap.size 0 0 (.map true []) :=
  ⟨rfl, rfl, #[], 0, alloc_new w _, rfl, (fun i kv e h => by cases h), fun i e h => by simp at h⟩

theorem aop_makeMap (htt : TTok P tt) (hnx : rd nx = .none) {t : TypeId} {x : Option Operand} (ho : o.op = .makeMap t x) (h : aopK tt ρ rd nx (.makeMap t x) k = some r) : Good P o ρ rd k r := by
  simp only [aopK] at h
  have fin : ∀ (hk : k (.mp nx) [(nx, .map true [])] [] = some r) (hrun : ∀ (ρr : Operand → Value) (w : World) (φ : Phi) (I : Nat → Prop), (∀ x ∈ o.op.operands, RV w I φ (ρ x) (ρr x)) →
      (execOp ρr o).run P w = .ok (.value (.map (some w.heap.size))) (w.alloc (.map #[] 0))), Good P o ρ rd k r := by
    intro hk hrun
    refine ⟨_, _, _, hk, fun rd' ρr w φ I _ hwr hh hx => ?_⟩
    have hn : rd' nx = .none := (hwr _ List.mem_cons_self).trans hnx
    exact OpOk.alloc (u := .map (some w.heap.size)) hh hn (.map #[] 0) _ 0 rfl (RB.newMap w I _) (hrun ρr w φ I hx) (.mp nx _ (Phi.set_same _ _ _))
  cases x with
  | none => exact fin h fun ρr w φ I hx => by simp [execOp, ho, Instr.makeMap]
  | some y =>
    obtain ⟨ti, hti, h⟩ := onK_some h
    split at h
    · rename_i kt e kd n hd hy
      refine fin h fun ρr w φ I hx => ?_
      have hp := hx y (by simp [ho, Op.operands])
      rw [hy] at hp
      generalize hu : ρr y = u at hp
      cases hp
      simp [execOp, ho, hu, Instr.makeMap, run_underlying (htt t ti hti), hd, asInt, asIntOf]
    · cases h

theorem aop_makeSlice (htt : TTok P tt) (hnx : rd nx = .none) {t : TypeId} {l c : Operand} (ho : o.op = .makeSlice t l c) (h : aopK tt ρ rd nx (.makeSlice t l c) k = some r) : Good P o ρ rd k r := by
  simp only [aopK] at h
  obtain ⟨ti, hti, h⟩ := onK_some h
  split at h
  · rename_i e kl ln kc cn hd hl hc
    obtain ⟨te, hte, h⟩ := onK_some h
    obtain ⟨z, hz, h⟩ := onK_some h
    obtain ⟨hcond, h⟩ := cond_some h
    obtain ⟨h12, h3⟩ := and_true' hcond
    obtain ⟨hzl, h12⟩ := and_true' h12
    obtain ⟨h1, h2⟩ := and_true' h12
    obtain ⟨h3, h4⟩ := and_true' h3
    obtain ⟨h4, h5⟩ := and_true' h4
    have hzl := Nat.eq_of_beq_eq_true hzl
    have h1 := Nat.le_of_ble_eq_true h1
    have h2 := Nat.le_of_ble_eq_true h2
    have h3 := of_decide_eq_true h3
    have h4 := of_decide_eq_true h4
    have h5 := of_decide_eq_true h5
    refine ⟨_, _, _, h, fun rd' ρr w φ I _ hwr hh hx => ?_⟩
    have hn : rd' nx = .none := (hwr _ List.mem_cons_self).trans hnx
    have hpl := hx l (by simp [ho, Op.operands])
    have hpc := hx c (by simp [ho, Op.operands])
    rw [hl] at hpl
    rw [hc] at hpc
    generalize hul : ρr l = ul at hpl
    generalize huc : ρr c = uc at hpc
    cases hpl
    cases hpc
    obtain ⟨v, hv, hs, hcells, hr⟩ := run_zero (htt e te hte) hz w I φ
    obtain ⟨i, hi, hsz, hby, _, _, hzz, _⟩ := ti_spec (htt e te hte)
    obtain ⟨i2, hi2, hs2, hb2, hd2, _⟩ := ti_spec (htt t ti hti)
    have hvz : i.zero = some v := by
      simp only [zeroValue, typeInfo, Sem.run_bind, run_program, Result.andThen_ok, hi, Sem.run_pure] at hv
      cases hiz : i.zero with
      | none => rw [hiz] at hv; simp at hv
      | some v' => rw [hiz] at hv; simp at hv; rw [hv]
    have hrun := run_make (P := P) w t e i v (by rw [hd2, hd]) hi hvz kl kc ln cn h3 h4 (by
      have : (i.bytes : Int) ≤ 65536 := by rw [hby]; omega
      calc (i.bytes : Int) * cn ≤ 65536 * cn := Int.mul_le_mul_of_nonneg_right this (by omega)
        _ ≤ 281474976710656 := by omega) (by omega)
    have hvs : v.cells.size = te.size := by have := hr.1; omega
    have le := Phi.le_set (hh.none nx hn) (w.heap.size, 0, te.size)
    refine OpOk.alloc (u := .slice (some ⟨w.heap.size, 0, none⟩) ln.toNat cn.toNat) hh hn (.cells (madeCells v.cells (cn.toNat * i.size)) e) _ te.size rfl ?_ ?_ ?_
    · have hr' := cells_new hr hh.lt le e (0, 0) (vs := v.cells)
      have mono : ∀ {c : AV} {u : Value}, RV w I φ c u → RV (w.alloc (.cells (madeCells v.cells (cn.toNat * i.size)) e)) I (φ.set nx (w.heap.size, 0, te.size)) c u := fun h =>
        h.mono (fun B hB => ⟨hB, alloc_old w _ (hh.lt B hB)⟩) (Ext.alloc (fun _ => True) w _).csize le
      refine ⟨rfl, Row.new w _ e true, fun q cs eq => ?_, fun q cs j x eq ex => ?_⟩
      · rw [List.getElem?_replicate] at eq; split at eq
        · cases eq; exact hzl
        · cases eq
      · rw [List.getElem?_replicate] at eq
        split at eq
        · rename_i hq
          cases eq
          have hj : j < te.size := by
            rcases Nat.lt_or_ge j z.length with h' | h'
            · omega
            · rw [List.getElem?_eq_none h'] at ex; cases ex
          have hp : q * te.size + j < cn.toNat * i.size := by
            rw [hsz]; exact idx_lt (by omega : q < cn.toNat) hj
          have hmod : (q * te.size + j) % v.cells.size = j := by
            rw [hvs, Nat.mul_comm, Nat.mul_add_mod, Nat.mod_eq_of_lt hj]
          have hjv : j < v.cells.size := by omega
          refine ⟨v.cells[j], ?_, hr.2.1 _ _ (Array.getElem?_eq_getElem hjv), mono (hr.2.2 j x _ ex (Array.getElem?_eq_getElem hjv))⟩
          rw [cell_new, Nat.zero_add]
          unfold madeCells
          rw [Array.getElem?_map, Array.getElem?_range, if_pos hp]
          simp only [Option.map_some, hmod]
          rw [getElem!_pos v.cells j hjv]
        · cases eq
    · simp only [execOp, ho, hul, huc, Sem.run_bind, hrun, Result.andThen_ok, Sem.run_pure]
    · refine .sl te.size nx w.heap.size 0 0 _ _ _ 0 (Phi.set_same _ _ _) (by simp) (Nat.le_refl _) (by omega) ?_
      have : csize (w.alloc (.cells (madeCells v.cells (cn.toNat * i.size)) e)) w.heap.size = cn.toNat * i.size := by
        unfold csize
        rw [alloc_new]
        exact size_madeCells _ _
      rw [this, hsz]; simp
  · cases h

/-! ### maps -/

theorem same_now {d : TypeDesc} {a b : AV} {x : Bool} {w : World} {I : Nat → Prop} {φ : Phi} {u v : Value} (hd : keyFits d a = true) (h : same a b = some x)
    (ha : RV w I φ a u) (hb : RV w I φ b v) : Instr.sameNow d u v = some x := by
  unfold same at h
  split at h
  · obtain ⟨hk, h2⟩ := cond_some h
    clear h
    cases ha; cases hb
    cases kindEq_iff hk
    cases h2
    unfold keyFits at hd
    split at hd
    · simp [Instr.sameNow]; rfl
    · rename_i e; cases e
    · cases hd
  · cases ha with
    | str s _ hs => cases hb with
      | str s' _ hs' =>
        subst hs; subst hs'
        cases h
        unfold keyFits at hd
        split at hd
        · rename_i e; cases e
        · simp [Instr.sameNow, strBeq_eq, beq_toListBytes, ByteArray.toList_eq]
        · cases hd
  · cases h

/-- the place of a key -/
def lookIdx (key : AV) : List (AV × AV) → Nat → Option (Option (Nat × AV))
  | [], _ => some .none
  | (a, v) :: r, i => match same key a with
    | some true => some (some (i, v))
    | some false => lookIdx key r (i + 1)
    | .none => .none

theorem look_idx {key : AV} : ∀ {es : List (AV × AV)} {x : Option AV} (i : Nat), look key es = some x → ∃ y, lookIdx key es i = some y ∧ y.map (·.2) = x
  | [], x, i, h => by cases h; exact ⟨none, rfl, rfl⟩
  | (a, v) :: r, x, i, h => by
    simp only [look] at h
    simp only [lookIdx]
    split at h
    · rename_i e; cases h; exact ⟨some (i, v), by simp [e], rfl⟩
    · rename_i e; obtain ⟨y, h1, h2⟩ := look_idx (i + 1) h; exact ⟨y, by simp [e, h1], h2⟩
    · cases h

theorem lookIdx_spec {key : AV} : ∀ {es : List (AV × AV)} {i n : Nat} {v : AV}, lookIdx key es i = some (some (n, v)) → i ≤ n ∧ (∃ a, es[n - i]? = some (a, v)) ∧
    ∀ (u : AV), upd key u es = es.modify (n - i) fun p => (p.1, u)
  | [], i, n, v, h => by cases h
  | (a, v') :: r, i, n, v, h => by
    simp only [lookIdx] at h
    split at h
    · rename_i e
      cases h
      refine ⟨Nat.le_refl _, ⟨a, by simp⟩, fun u => by simp [upd, e]⟩
    · rename_i e
      obtain ⟨h1, ⟨b, h2⟩, h3⟩ := lookIdx_spec h
      refine ⟨by omega, ⟨b, ?_⟩, fun u => ?_⟩
      · rw [show n - i = (n - (i + 1)) + 1 by omega]; simpa using h2
      · rw [show n - i = (n - (i + 1)) + 1 by omega]
        simp [upd, e, h3 u]
    · cases h

theorem find_now {d : TypeDesc} {key : AV} {w : World} {I : Nat → Prop} {φ : Phi} {u : Value} (hd : keyFits d key = true) (hu : RV w I φ key u) :
    ∀ {es : List (AV × AV)} {mes : List MapEntry} {i : Nat} {x : Option (Nat × AV)}, mes.length = es.length →
      (∀ (j : Nat) kv e, es[j]? = some kv → mes[j]? = some e → RV w I φ kv.1 e.key ∧ RV w I φ kv.2 e.val ∧ kv.1.single = true) → lookIdx key es i = some x →
      (x = none ∧ Instr.findNow d u mes i = some none) ∨ ∃ n v uv, x = some (n, v) ∧ Instr.findNow d u mes i = some (some (n, uv)) ∧ RV w I φ v uv
  | [], [], i, x, _, _, h => by cases h; exact .inl ⟨rfl, rfl⟩
  | [], _ :: _, _, _, hl, _, _ => by simp at hl
  | _ :: _, [], _, _, hl, _, _ => by simp at hl
  | (a, v) :: es, e :: mes, i, x, hl, hr, h => by
    obtain ⟨hk, hv, _⟩ := hr 0 _ _ rfl rfl
    simp only [lookIdx] at h
    split at h
    · rename_i hs
      cases h
      refine .inr ⟨i, v, e.val, rfl, ?_, hv⟩
      simp [Instr.findNow, same_now hd hs hu hk]
    · rename_i hs
      have := find_now hd hu (es := es) (mes := mes) (i := i + 1) (by simpa using hl) (fun j kv e' h1 h2 => hr (j + 1) kv e' (by simpa using h1) (by simpa using h2)) h
      simpa [Instr.findNow, same_now hd hs hu hk] using this
    · cases h

theorem check_key' {tk : TI} {kt : TypeId} (htk : tiOf P kt = some tk) {key : AV} {w : World} {I : Nat → Prop} {φ : Phi} {u : Value} (hd : keyFits tk.desc key = true) (hu : RV w I φ key u) (e : Bool) (n : Nat) :
    (Instr.checkKey e (n + 1) kt u).run P w = .ok () w := by
  have hn := run_underlying htk w
  unfold keyFits at hd
  split at hd
  · rename_i he; rw [he] at hn; cases hu
    simp only [Instr.checkKey, Sem.run_bind, hn, Result.andThen_ok, Sem.run_pure]
  · rename_i he; rw [he] at hn; cases hu
    simp only [Instr.checkKey, Sem.run_bind, hn, Result.andThen_ok, Sem.run_pure]
  · cases hd

theorem check_key {tk : TI} {kt : TypeId} (htk : tiOf P kt = some tk) {key : AV} {w : World} {I : Nat → Prop} {φ : Phi} {u : Value} (hd : keyFits tk.desc key = true) (hu : RV w I φ key u) (e : Bool) :
    (Instr.checkKey e 10000 kt u).run P w = .ok () w := check_key' htk hd hu e 9999

theorem find_key {tk : TI} {kt : TypeId} (htk : tiOf P kt = some tk) {u : Value} {mes : List MapEntry} {x : Option (Nat × Value)} (h : Instr.findNow tk.desc u mes 0 = some x) (w : World) :
    (Instr.findKey kt u mes).run P w = .ok x w := by
  simp only [Instr.findKey, Sem.run_bind, run_underlying htk, Result.andThen_ok, h, Sem.run_pure]

theorem run_getMap {w : World} {B : Nat} {mes : Array MapEntry} {clock : Nat} (h : w.heap[B]? = some (.map mes clock)) : (getObj B).run P w = .ok (.map mes clock) w := by
  simp [getObj, Sem.run, h]

theorem run_setMap {w : World} {B : Nat} {mes mes' : Array MapEntry} {clock clock' : Nat} (h : w.heap[B]? = some (.map mes clock)) :
    (setObj B (.map mes' clock')).run P w = .ok () (World.setBlk w B (.map mes' clock')) := by
  simp [setObj, Sem.run, h, World.setBlk]

theorem Ext.setMap {M : Nat → Prop} {w : World} {B : Nat} {mes mes' : Array MapEntry} {clock clock' : Nat} (h : w.heap[B]? = some (.map mes clock)) (hM : M B) :
    Ext M w (World.setBlk w B (.map mes' clock')) := by
  refine ⟨rfl, rfl, rfl, by simp, fun B' _ hn => setBlk_ne (fun e => hn (e ▸ hM)), fun B' c1 e1 fz1 h1 => ?_⟩
  by_cases hb : B' = B
  · subst hb; rw [h] at h1; cases h1
  · exact ⟨c1, (setBlk_ne hb).trans h1, rfl⟩

/-- a map's entries turned -/
theorem RH.writeMap {w : World} {I : Nat → Prop} {φ : Phi} {rd : Nat → BS} (h : RH w I φ rd) {b B : Nat} (hb : φ b = some (B, 0, 0)) (hm : mutable (rd b) = true)
    {mes mes' : Array MapEntry} {clock clock' : Nat} (hc : w.heap[B]? = some (.map mes clock)) (es' : List (AV × AV))
    (hsz : mes'.size = es'.length) (hx : ∀ (i : Nat) kv e, es'[i]? = some kv → mes'[i]? = some e → RV w I φ kv.1 e.key ∧ RV w I φ kv.2 e.val ∧ kv.1.single = true) (hbn : ∀ (i : Nat) e, mes'[i]? = some e → e.born < clock') (base : Nat) :
    RH (World.setBlk w B (.map mes' clock')) I φ (rdput rd b (.map true es')) ∧ Step base rd φ I w (rdput rd b (.map true es')) φ I (World.setBlk w B (.map mes' clock')) := by
  have hM : Mut φ rd B := ⟨b, 0, 0, hm, hb⟩
  have ext := Ext.setMap (M := Mut φ rd) (mes' := mes') (clock' := clock') hc hM
  have mono : ∀ {v : AV} {u : Value}, RV w I φ v u → RV (World.setBlk w B (.map mes' clock')) I φ v u := fun hvu =>
    hvu.mono (fun B hB => ⟨hB, ext.keep B (h.lt B hB) fun ⟨b, o, sz, hm, e⟩ => h.disj b B o sz hm e hB⟩) ext.csize (Phi.le_refl _)
  refine ⟨h.change (Phi.le_refl _) ext (· = b) (fun b' hb' => ⟨rdput_ne _ _ hb', rfl⟩) ?_ ?_, ⟨fun _ _ _ e => e, fun _ hB => hB, fun _ hB => .inl hB, ?_, ext⟩⟩
  · intro b' B' o' sz' hne hl e'
    refine setBlk_ne fun hB => ?_
    subst hB
    cases hmm : mutable (rd b') with
    | true => exact hne (h.inj b' b _ _ _ _ _ hmm hm e' hb)
    | false => exact h.disj b _ _ _ hm hb (h.imm b' _ _ _ hl hmm e')
  · rintro b' rfl
    refine ⟨(fun e' => (by rw [rdput_same] at e'; cases e')), fun _ => ⟨by rw [rdput_same]; rfl, B, 0, 0, hb, ?_, h.disj _ _ _ _ hm hb, ?_⟩⟩
    · rw [rdput_same]
      exact ⟨rfl, rfl, mes', clock', setBlk_same (lt_of_heap hc), hsz, fun i kv e h1 h2 => let ⟨a, b, c⟩ := hx i kv e h1 h2; ⟨mono a, mono b, c⟩, hbn⟩
    · intro b'' hne hm'' o' sz' e'
      rw [rdput_ne _ _ hne] at hm''
      exact hne (h.inj _ _ _ _ _ _ _ hm'' hm e' hb)
  · rintro B' ⟨b', o', sz', hm', e'⟩
    by_cases hbb : b' = b
    · subst hbb; rw [hb] at e'; cases e'; exact .inl hM
    · rw [rdput_ne _ _ hbb] at hm'; exact .inl ⟨b', o', sz', hm', e'⟩

theorem key_single {d : TypeDesc} {key : AV} (h : keyFits d key = true) : key.single = true := by
  unfold keyFits at h
  split at h <;> first | rfl | cases h

theorem same_bits {a b : AV} {w : World} {I : Nat → Prop} {φ : Phi} {u v : Value} (h : same a b = some true) (ha : RV w I φ a u) (hb : RV w I φ b v) : Instr.sameBits 10000 v u = true := by
  unfold same at h
  split at h
  · obtain ⟨hk, h2⟩ := cond_some h
    clear h
    cases ha; cases hb
    cases kindEq_iff hk
    have := of_decide_eq_true (by simpa using h2)
    subst this
    simp [Instr.sameBits]
  · cases ha with
    | str s _ hs => cases hb with
      | str s' _ hs' =>
        subst hs; subst hs'
        simp [strBeq_eq] at h
        have : s = s' := by cases s; cases s'; simp_all
        subst this
        simp [Instr.sameBits, beq_toListBytes]
  · cases h

theorem lookIdx_same {key : AV} : ∀ {es : List (AV × AV)} {i n : Nat} {v : AV}, lookIdx key es i = some (some (n, v)) → ∃ a, es[n - i]? = some (a, v) ∧ same key a = some true
  | [], i, n, v, h => by cases h
  | (a, v') :: r, i, n, v, h => by
    simp only [lookIdx] at h
    split at h
    · rename_i e; cases h; exact ⟨a, by simp, e⟩
    · rename_i e
      obtain ⟨b, h2, h3⟩ := lookIdx_same h
      obtain ⟨h1, _⟩ := lookIdx_spec h
      exact ⟨b, by rw [show n - i = (n - (i + 1)) + 1 by omega]; simpa using h2, h3⟩
    · cases h

theorem aop_mapUpdate (htt : TTok P tt) {t : TypeId} {m key v : Operand} (ho : o.op = .insert t m key v ∨ o.op = .mapUpdate t m key v)
    (h : aopK tt ρ rd nx (.mapUpdate t m key v) k = some r) : Good P o ρ rd k r := by
  simp only [aopK] at h
  have hm1 : m ∈ o.op.operands := by rcases ho with ho | ho <;> simp [ho, Op.operands]
  have hm2 : key ∈ o.op.operands := by rcases ho with ho | ho <;> simp [ho, Op.operands]
  have hm3 : v ∈ o.op.operands := by rcases ho with ho | ho <;> simp [ho, Op.operands]
  obtain ⟨ti, hti, h⟩ := onK_some h
  split at h
  · rename_i kt et b hd hm
    obtain ⟨tk, htk, h⟩ := onK_some h
    split at h
    · rename_i es hb
      obtain ⟨hc, h⟩ := cond_some h
      obtain ⟨hkf, hvs⟩ := and_true' hc
      obtain ⟨x, hx, h⟩ := onK_some h
      obtain ⟨y, hy, hyx⟩ := look_idx 0 hx
      have hex : ∀ (ρr : Operand → Value) (w w' : World), (Instr.mapUpdate t (ρr m) (ρr key) (ρr v)).run P w = .ok () w' → (execOp ρr o).run P w = .ok .skip w' := by
        intro ρr w w' e
        rcases ho with ho | ho <;> simp [execOp, ho, e]
      have hpre : ∀ (rd' : Nat → BS) (ρr : Operand → Value) (w : World) (φ : Phi) (I : Nat → Prop), rd' b = rd b → RH w I φ rd' → (∀ x ∈ o.op.operands, RV w I φ (ρ x) (ρr x)) →
          ∃ B mes clock, φ b = some (B, 0, 0) ∧ ρr m = .map (some B) ∧ w.heap[B]? = some (.map mes clock) ∧ mes.size = es.length ∧
            (∀ (i : Nat) kv e, es[i]? = some kv → mes[i]? = some e → RV w I φ kv.1 e.key ∧ RV w I φ kv.2 e.val ∧ kv.1.single = true) ∧ ∀ (i : Nat) e, mes[i]? = some e → e.born < clock := by
        intro rd' ρr w φ I hb' hh hx
        have hp := hx m hm1
        rw [hm] at hp
        generalize hu : ρr m = u at hp
        cases hp with
        | mp _ B hφ =>
          obtain ⟨B', o', sz', e, hrb⟩ := hh.blk b (by rw [hb', hb]; rfl)
          rw [hφ] at e; cases e
          rw [hb', hb] at hrb
          obtain ⟨_, _, mes, clock, h1, h2, h3, h4⟩ := hrb
          exact ⟨B, mes, clock, hφ, rfl, h1, h2, h3, h4⟩
      cases y with
      | none =>
        simp at hyx
        subst hyx
        refine ⟨_, _, _, h, fun rd' ρr w φ I hrd _ hh hx => ?_⟩
        have hb' := hrd b (by simp)
        obtain ⟨B, mes, clock, hφ, hu, hheap, hsz, hrel, hbn⟩ := hpre rd' ρr w φ I hb' hh hx
        have hk := hx key hm2
        have hv := hx v hm3
        rcases find_now hkf hk (mes := mes.toList) (by simpa using hsz) (fun j kv e h1 h2 => hrel j kv e h1 (by simpa using h2)) hy with ⟨_, hf⟩ | ⟨n, v', uv, e, _⟩
        · have hw := hh.writeMap hφ (by rw [hb', hb]; rfl) (mes' := mes.push { key := ρr key, val := ρr v, born := clock }) (clock' := clock + 1) hheap (es ++ [(ρ key, ρ v)]) (by simp [hsz]) (fun i kv e h1 h2 => by
            rw [Array.getElem?_push] at h2
            by_cases hi : i = mes.size
            · rw [if_pos hi] at h2
              cases h2
              rw [List.getElem?_append_right (by omega), show i - es.length = 0 by omega] at h1
              simp at h1
              subst h1
              exact ⟨hk, hv, key_single hkf⟩
            · rw [if_neg hi] at h2
              have hlt : i < es.length := by
                rcases Nat.lt_or_ge i mes.size with h' | h'
                · omega
                · rw [Array.getElem?_eq_none h'] at h2; cases h2
              rw [List.getElem?_append_left hlt] at h1
              exact hrel i kv e h1 h2) (fun i e h2 => by
            rw [Array.getElem?_push] at h2
            split at h2
            · cases h2; exact Nat.lt_succ_self _
            · exact Nat.lt_succ_of_lt (hbn i e h2))
          refine ⟨undef, _, φ, I, .inr ⟨hex ρr w _ ?_, rfl⟩, .undef _, (hw 0).1, fun base => (hw base).2, Phi.le_refl _⟩
          simp only [Instr.mapUpdate, Sem.run_bind, run_underlying (htt t ti hti), hd, Result.andThen_ok, hu, run_getMap hheap, check_key (htt kt tk htk) hkf hk, find_key (htt kt tk htk) hf, run_setMap hheap]
        · cases e
      | some nv =>
        obtain ⟨n, v'⟩ := nv
        simp at hyx
        subst hyx
        simp only at h
        refine ⟨_, _, _, h, fun rd' ρr w φ I hrd _ hh hx => ?_⟩
        have hb' := hrd b (by simp)
        obtain ⟨B, mes, clock, hφ, hu, hheap, hsz, hrel, hbn⟩ := hpre rd' ρr w φ I hb' hh hx
        have hk := hx key hm2
        have hv := hx v hm3
        obtain ⟨_, ⟨a, hes⟩, hupd⟩ := lookIdx_spec hy
        obtain ⟨a', hes', hsame⟩ := lookIdx_same hy
        simp only [Nat.sub_zero] at hes hes' hupd
        rcases find_now hkf hk (mes := mes.toList) (by simpa using hsz) (fun j kv e h1 h2 => hrel j kv e h1 (by simpa using h2)) hy with ⟨e, _⟩ | ⟨n', v'', uv, e, hf, huv⟩
        · cases e
        · cases e
          have hlt : n < mes.size := by
            rcases Nat.lt_or_ge n es.length with h' | h'
            · omega
            · rw [List.getElem?_eq_none h'] at hes; cases hes
          have hkr := hrel n _ _ hes' (Array.getElem?_eq_getElem hlt)
          have hbits := same_bits hsame hk hkr.1
          have hw := hh.writeMap hφ (by rw [hb', hb]; rfl) (mes' := mes.modify n fun e => { e with key := ρr key, val := ρr v }) (clock' := clock) hheap (upd (ρ key) (ρ v) es) (by rw [hupd]; simp [hsz]) (fun i kv e h1 h2 => by
            rw [hupd, List.getElem?_modify] at h1
            rw [Array.getElem?_modify] at h2
            by_cases hi : n = i
            · subst hi
              rw [if_pos rfl] at h2
              rw [hes'] at h1
              rw [Array.getElem?_eq_getElem hlt] at h2
              simp at h1 h2
              subst h1; subst h2
              refine ⟨?_, hv, hkr.2.2⟩
              -- the old abstract key and the new key of the model say the same
              have : a' = ρ key := by
                unfold same at hsame
                split at hsame
                · obtain ⟨hkk, h2⟩ := cond_some hsame
                  cases kindEq_iff hkk
                  have := of_decide_eq_true (by simpa using h2)
                  simp_all
                · simp [strBeq_eq] at hsame; simp_all
                · cases hsame
              rw [this]; exact hk
            · rw [if_neg hi] at h2
              have h1' : es[i]? = some kv := by
                cases hq : es[i]? with
                | none => rw [hq] at h1; cases h1
                | some p => rw [hq] at h1; simpa [hi] using h1
              exact hrel i kv e h1' h2) (fun i e h2 => by
            rw [Array.getElem?_modify] at h2
            split at h2
            · cases hq : mes[i]? with
              | none => rw [hq] at h2; cases h2
              | some e0 => rw [hq] at h2; simp at h2; subst h2; exact hbn i e0 hq
            · exact hbn i e h2)
          refine ⟨undef, _, φ, I, .inr ⟨hex ρr w _ ?_, rfl⟩, .undef _, (hw 0).1, fun base => (hw base).2, Phi.le_refl _⟩
          have hkeep : (Instr.keyThatStays mes[n].key (ρr key)).run P w = .ok (ρr key) w := by simp [Instr.keyThatStays, hbits]
          simp only [Instr.mapUpdate, Sem.run_bind, run_underlying (htt t ti hti), hd, Result.andThen_ok, hu, run_getMap hheap, check_key (htt kt tk htk) hkf hk, find_key (htt kt tk htk) hf,
            Array.getElem?_eq_getElem hlt, Option.map_some, Option.getD_some, hkeep, run_setMap hheap]
    · cases h
  · cases h

end
end Go.AM
