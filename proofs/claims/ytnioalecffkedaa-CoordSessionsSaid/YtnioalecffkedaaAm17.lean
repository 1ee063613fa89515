/- The built-in functions. -/
import Derived.Test.YtnioalecffkedaaAm16
set_option linter.unusedVariables false
set_option linter.unusedSimpArgs false
namespace Go.AM

variable {R : Type}

section
variable {P : Program} {tt : TT} {ρ : Operand → AV} {rd : Nat → BS} {nx : Nat} {k : AopK R} {r : R} {o : Oper} {c : Call} {b : Builtin}

theorem exec_builtin (ho : o.op = .call c) (hc : c.callee = .builtin b) (ρr : Operand → Value) (w : World) :
    ∃ consts, (execOp ρr o).run P w = (builtin b c.argTypes o.type consts (c.args.map ρr)).run P w := by
  refine ⟨c.args.map fun | .const _ => true | _ => false, ?_⟩
  simp only [execOp, ho, resolve, hc, Sem.run_bind, Sem.run_pure, Result.andThen_ok, invoke]
  rfl

theorem args1 {x : AV} (h : c.args.toList.map ρ = [x]) : ∃ a, c.args = #[a] ∧ ρ a = x := by
  cases ha : c.args.toList with
  | nil => rw [ha] at h; cases h
  | cons a l =>
    rw [ha] at h
    cases l with
    | nil => simp at h; exact ⟨a, by rw [← ha], h⟩
    | cons b l => simp at h

theorem args2 {x y : AV} (h : c.args.toList.map ρ = [x, y]) : ∃ a b, c.args = #[a, b] ∧ ρ a = x ∧ ρ b = y := by
  cases ha : c.args.toList with
  | nil => rw [ha] at h; cases h
  | cons a l =>
    rw [ha] at h
    cases l with
    | nil => simp at h
    | cons b l =>
      cases l with
      | nil => simp at h; exact ⟨a, b, by rw [← ha], h.1, h.2⟩
      | cons d l => simp at h

theorem view_agree {x : AV} {rd rd' : Nat → BS} {sz : Nat} (h : ∀ b ∈ x.viewIds, rd' b = rd b) : x.view rd' sz = x.view rd sz := by
  cases x with
  | sl s b off len cm =>
    simp only [AV.view]
    cases hz : Nat.beq len 0 with
    | true => rfl
    | false => rw [h b (by simp [AV.viewIds, hz])]
  | _ => rfl

theorem ablen_ok (htt : TTok P tt) (ho : o.op = .call c) (hc : c.callee = .builtin .len) {x : AV} {t : TypeId} (hargs : c.args.toList.map ρ = [x]) (hts : c.argTypes.toList = [t])
    (h : abuiltK tt rd nx .len [t] [x] k = some r) : Good P o ρ rd k r := by
  simp only [abuiltK] at h
  obtain ⟨ti, hti, h⟩ := onK_some h
  obtain ⟨a, ha, hax⟩ := args1 hargs
  have hm : a ∈ o.op.operands := by simp [ho, Op.operands, Call.operands, hc, ha]
  have ht0 : c.argTypes[0]? = some t := by rw [← Array.getElem?_toList, hts]; rfl
  have hex : ∀ (ρr : Operand → Value) (w : World) (u : Value), (Builtin.len_ c.argTypes o.type #[ρr a]).run P w = .ok u w → (execOp ρr o).run P w = .ok (.value u) w := by
    intro ρr w u hu
    obtain ⟨cs, e⟩ := exec_builtin (P := P) ho hc ρr w
    rw [e, ha]
    simp [builtin, hu]
  have hu := run_underlying (htt t ti hti)
  have hpure : ∀ {n : Int} , k (.int .i64 n) [] [] = some r → (∀ (ρr : Operand → Value) (w : World) (I : Nat → Prop) (φ : Phi), RV w I φ x (ρr a) → (Builtin.len_ c.argTypes o.type #[ρr a]).run P w = .ok (.int .i64 n) w) → Good P o ρ rd k r :=
    fun hk hr => Good.pure hk fun ρr w φ I hx => ⟨_, hex ρr w _ (hr ρr w I φ (hax ▸ hx a hm)), .int _ _⟩
  have hmap : ∀ {kt e : TypeId} {bb : Nat} {mu : Bool} {es : List (AV × AV)}, ti.desc = .map kt e → x = .mp bb → rd bb = .map mu es → k (.int .i64 es.length) [] [bb] = some r → Good P o ρ rd k r := by
    intro kt e bb mu es hd hxe hb h
    refine ⟨_, _, _, h, fun rd' ρr w φ I hrd _ hh hx => ?_⟩
    have hp := hx a hm
    rw [hax, hxe] at hp
    generalize hua : ρr a = u at hp
    cases hp with
    | mp _ B hφ =>
      have hb' := hrd bb (by simp)
      obtain ⟨B', o', sz', e', hrb⟩ := hh.blk bb (by rw [hb', hb]; rfl)
      rw [hφ] at e'; cases e'
      rw [hb', hb] at hrb
      obtain ⟨_, _, mes, clock, h1, h2, h3, _⟩ := hrb
      refine OpOk.pure (u := .int .i64 es.length) hh (hex ρr w _ ?_) (.int _ _)
      rw [hua]
      simp only [Builtin.len_, ht0, List.getElem?_toArray, List.getElem?_cons_zero, Sem.run_bind, hu, hd, Result.andThen_ok, run_getMap h1, Sem.run_pure, goInt, h2]
  cases hd : ti.desc with
  | string =>
    rw [hd] at h
    cases x with
    | str l =>
      refine hpure h fun ρr w I φ hx => ?_
      generalize ρr a = u at hx
      cases hx with
      | str b _ hs => subst hs; simp [Builtin.len_, ht0, hu, hd, goInt]
    | _ => cases h
  | slice e =>
    rw [hd] at h
    cases x with
    | nils =>
      refine hpure h fun ρr w I φ hx => ?_
      generalize ρr a = u at hx
      cases hx
      simp [Builtin.len_, ht0, hu, hd, goInt]
    | sl =>
      refine hpure h fun ρr w I φ hx => ?_
      generalize ρr a = u at hx
      cases hx <;> simp [Builtin.len_, ht0, hu, hd, goInt]
    | tr =>
      refine hpure h fun ρr w I φ hx => ?_
      generalize ρr a = u at hx
      cases hx <;> simp [Builtin.len_, ht0, hu, hd, goInt]
    | trl sz es =>
      refine hpure h fun ρr w I φ hx => ?_
      generalize ρr a = u at hx
      cases hx with
      | trl _ _ _ hx hz =>
        generalize es.length = n at hx
        generalize (fun i => es.getD i []) = f at hx
        cases hx <;> simp [Builtin.len_, ht0, hu, hd, goInt]
    | _ => cases h
  | array n e =>
    rw [hd] at h
    refine hpure h fun ρr w I φ hx => ?_
    simp only [Builtin.len_, ht0, List.getElem?_toArray, List.getElem?_cons_zero, Sem.run_bind, hu, hd, Result.andThen_ok]
    rfl
  | map kt e =>
    rw [hd] at h
    cases x with
    | nilm =>
      refine hpure h fun ρr w I φ hx => ?_
      generalize ρr a = u at hx
      cases hx
      simp [Builtin.len_, ht0, hu, hd, goInt]
    | mp bb =>
      cases hb : rd bb with
      | map mu es => simp only [hb] at h; exact hmap hd rfl hb h
      | _ => simp only [hb] at h; cases h
    | _ => cases h
  | _ => rw [hd] at h; cases x <;> cases h

theorem elem_list {es : List (List AV)} {i : Nat} (h : i < es.length) : ∃ cs, es[i]? = some cs := ⟨_, List.getElem?_eq_getElem h⟩

theorem splice_list {es ns : List (List AV)} {p : Nat} (h : p + ns.length ≤ es.length) (i : Nat) :
    (es.take p ++ (ns ++ es.drop (p + ns.length)))[i]? = if p ≤ i ∧ i < p + ns.length then ns[i - p]? else es[i]? := by
  by_cases h1 : i < p
  · rw [List.getElem?_append_left (by simp; omega), if_neg (by omega), List.getElem?_take, if_pos h1]
  · rw [List.getElem?_append_right (by simp; omega)]
    have hl : (es.take p).length = p := by simp; omega
    rw [hl]
    by_cases h2 : i < p + ns.length
    · rw [List.getElem?_append_left (by omega), if_pos (by omega)]
    · rw [List.getElem?_append_right (by omega), if_neg (by omega), List.getElem?_drop]
      congr 1
      omega

theorem abappend_ok (htt : TTok P tt) (hnx : rd nx = .none) (ho : o.op = .call c) (hc : c.callee = .builtin .append) {s x : AV} {t : TypeId} {tr : List TypeId} (hargs : c.args.toList.map ρ = [s, x])
    (hts : c.argTypes.toList = t :: tr) (h : abuiltK tt rd nx .append (t :: tr) [s, x] k = some r) : Good P o ρ rd k r := by
  simp only [abuiltK] at h
  obtain ⟨ti, hti, h⟩ := onK_some h
  obtain ⟨oa, ob, hab, has, hax⟩ := args2 hargs
  have hm1 : oa ∈ o.op.operands := by simp [ho, Op.operands, Call.operands, hc, hab]
  have hm2 : ob ∈ o.op.operands := by simp [ho, Op.operands, Call.operands, hc, hab]
  have ht0 : c.argTypes[0]? = some t := by rw [← Array.getElem?_toList, hts]; rfl
  split at h
  · rename_i e hd
    obtain ⟨te, hte, h⟩ := onK_some h
    obtain ⟨z, hz, h⟩ := onK_some h
    obtain ⟨hcz, h⟩ := cond_some h
    obtain ⟨hzl, h1sz⟩ := and_true' hcz
    have hzl := Nat.eq_of_beq_eq_true hzl
    have h1sz := Nat.le_of_ble_eq_true h1sz
    split at h
    · cases h
    · rename_i hnint
      obtain ⟨_, htr, h⟩ := onK_some h
      obtain ⟨old, hold, h⟩ := onK_some h
      obtain ⟨new, hnew, h⟩ := onK_some h
      obtain ⟨hbnd, h⟩ := cond_some h
      obtain ⟨hb1, hb2⟩ := and_true' hbnd
      have hb1 := Nat.le_of_ble_eq_true hb1
      have hb2 := Nat.le_of_ble_eq_true hb2
      have ha1 : ∀ t2, c.argTypes[1]? = some t2 → ∃ d, P.underlying t2 = some d ∧ ∀ kd, d ≠ .int kd := by
        intro t2 ht2
        rw [← Array.getElem?_toList, hts] at ht2
        cases tr with
        | nil => simp at ht2
        | cons t2' tr =>
          simp at ht2
          subst ht2
          simp only at htr
          obtain ⟨t2i, ht2i, htr⟩ := onK_some htr
          obtain ⟨_, _, _, _, hdd, _⟩ := ti_spec (htt _ _ ht2i)
          refine ⟨_, hdd, fun kd e => ?_⟩
          rw [e] at htr
          cases htr
      -- what the model does
      have hmodel : ∀ (rd' : Nat → BS) (ρr : Operand → Value) (w : World) (φ : Phi) (I : Nat → Prop) (a : Option Addr) (cap : Nat), RH w I φ rd' → s.view rd' te.size = some old → x.view rd' te.size = some new →
          RV w I φ s (ρr oa) → RV w I φ x (ρr ob) → ρr oa = .slice a old.len cap →
          ∃ vo vn : Array Value, Flat w I (wphi φ old) te.size old.len old.at vo ∧ Flat w I (wphi φ new) te.size new.len new.at vn ∧
          (old.len + new.len ≤ cap → ∀ w', (match a with | some a => storeCells (a.add (old.len * te.size)) vn.toList | none => pure ()).run P w = .ok () w' →
            (execOp ρr o).run P w = .ok (.value (.slice a (old.len + new.len) cap)) w') ∧
          (cap < old.len + new.len → ∃ (nc : Nat) (rest : Array Value), old.len + new.len ≤ nc ∧ rest.size = (nc - (old.len + new.len)) * z.length ∧
            (execOp ρr o).run P w = .ok (.value (.slice (some ⟨w.heap.size, 0, none⟩) (old.len + new.len) nc)) (w.drew.alloc (.cells (vo ++ vn ++ rest) e))) := by
        intro rd' ρr w φ I a cap hh hv1 hv2 hs hx he
        obtain ⟨_, vo, hvo, hfo⟩ := read_view (P := P) hh hv1 hs
        obtain ⟨hlx, vn, hvn, hfn⟩ := read_view (P := P) hh hv2 hx
        obtain ⟨hA, hB⟩ := run_append (P := P) (htt t ti hti) hd (htt e te hte) hz (ty := o.type) ht0 ha1 (a := a) (n := old.len) (cap := cap) hlx (by rw [← he]; exact hvo) hvn hb1 hb2
        obtain ⟨cs, hex⟩ := exec_builtin (P := P) ho hc ρr w
        refine ⟨vo, vn, hfo, hfn, fun hle w' hst => ?_, fun hlt => ?_⟩
        · rw [hex, hab]
          have : (Builtin.append_ c.argTypes o.type #[.slice a old.len cap, ρr ob]).run P w = .ok (.slice a (old.len + new.len) cap) w' :=
            (hA hle).trans (congrArg (fun (r : Result Unit) => r.andThen fun _ w' => .ok (Value.slice a (old.len + new.len) cap) w') hst)
          simp [builtin, he, this]
        · obtain ⟨nc, rest, h1, h2, h3⟩ := hB hlt
          refine ⟨nc, rest, h1, h2, ?_⟩
          rw [hex, hab]
          simp [builtin, he, h3]
      -- a new row
      have hnewrow : ∀ {rd' : Nat → BS} {ρr : Operand → Value} {w : World} {φ : Phi} {I : Nat → Prop} {v : View} {vs rest : Array Value} {nc : Nat} {wr : Wr} (hh : RH w I φ rd') (rd2 : Nat → BS) (hh2 : RH w.drew I φ rd2)
          (hst : ∀ base, Step base rd' φ I w rd2 φ I w.drew) (hn : rd2 nx = .none) (hwr : rdputs rd' wr = rdput rd2 nx (blk te.size v)) (hf : Flat w I (wphi φ v) te.size v.len v.at vs) (hnc : v.len ≤ nc)
          (hrest : rest.size = (nc - v.len) * z.length)
          (hrun : (execOp ρr o).run P w = .ok (.value (.slice (some ⟨w.heap.size, 0, none⟩) v.len nc)) (w.drew.alloc (.cells (vs ++ rest) e))),
          OpOk P ρr o rd' φ I w (.sl te.size nx 0 v.len v.len) wr := by
        intro rd' ρr w φ I v vs rest nc wr hh rd2 hh2 hst hn hwr hf hnc hrest hrun
        have hfd : Flat w.drew I (wphi φ v) te.size v.len v.at vs := hf.mono (fun B hB => ⟨hB, rfl⟩) (fun _ => Nat.le_refl _) (Phi.le_refl _)
        have le := Phi.le_set (hh2.none nx hn) (w.heap.size, 0, te.size)
        have hrb := RB.of_flat (φ' := φ.set nx (w.heap.size, 0, te.size)) (rest := rest) hfd hh2.lt le e (0, 0) (fun q _ hq => Nat.lt_irrefl 0 (Nat.lt_of_le_of_lt (Nat.zero_le _) hq.2))
        have hal := hh2.alloc hn (.cells (vs ++ rest) e) _ te.size (by cases v <;> rfl) hrb
        refine ⟨_, _, _, I, .inl hrun, ?_, by rw [hwr]; exact (hal 0).1, fun base => by rw [hwr]; exact (hst base).trans (hal base).2.1, (hal 0).2.2⟩
        refine .sl te.size nx w.heap.size 0 0 _ _ nc 0 (Phi.set_same _ _ _) (by simp) (Nat.le_refl _) hnc ?_
        have hcs : csize (w.drew.alloc (.cells (vs ++ rest) e)) w.heap.size = (vs ++ rest).size := by
          unfold csize
          have : (w.drew.alloc (.cells (vs ++ rest) e)).heap[w.heap.size]? = some (.cells (vs ++ rest) e) := alloc_new w.drew _
          rw [this]
        rw [hcs, Array.size_append, hf.size, hrest, hzl, ← Nat.add_mul]
        have : v.len + (nc - v.len) = nc := by omega
        rw [this]; simp
      cases s with
      | nils =>
        -- behind nil
        have hol : old.len = 0 := by simp [AV.view] at hold; subst hold; rfl
        cases hz0 : Nat.beq new.len 0 with
        | true =>
          rw [hz0, cond_true] at h
          have hz0 := Nat.eq_of_beq_eq_true hz0
          refine ⟨_, [], _, h, fun rd' ρr w φ I hrd _ hh hx => ?_⟩
          have hs := has ▸ hx oa hm1
          have hxx := hax ▸ hx ob hm2
          have hv2 : x.view rd' te.size = some new := by rw [view_agree hrd]; exact hnew
          generalize hu : ρr oa = u at hs
          cases hs with
          | nils =>
            obtain ⟨vo, vn, _, hfn, hA, _⟩ := hmodel rd' ρr w φ I none 0 hh (by simpa [AV.view] using hold) hv2 (by rw [hu]; exact .nils) hxx (by rw [hu, hol])
            have := hA (by omega) w rfl
            rw [hol, hz0] at this
            exact OpOk.pure hh this .nils
        | false =>
          rw [hz0, cond_false] at h
          have hz0 : new.len ≠ 0 := fun e => by rw [e] at hz0; cases hz0
          refine ⟨_, _, _, h, fun rd' ρr w φ I hrd hwr hh hx => ?_⟩
          have hn : rd' nx = .none := (hwr _ List.mem_cons_self).trans hnx
          have hs := has ▸ hx oa hm1
          have hxx := hax ▸ hx ob hm2
          have hv2 : x.view rd' te.size = some new := by rw [view_agree hrd]; exact hnew
          generalize hu : ρr oa = u at hs
          cases hs with
          | nils =>
            obtain ⟨vo, vn, hfo, hfn, _, hB⟩ := hmodel rd' ρr w φ I none 0 hh (by simpa [AV.view] using hold) hv2 (by rw [hu]; exact .nils) hxx (by rw [hu, hol])
            obtain ⟨nc, rest, h1, h2, h3⟩ := hB (by omega)
            have hvo : vo = #[] := by
              have := hfo.size
              rw [hol, Nat.zero_mul] at this
              exact Array.eq_empty_of_size_eq_zero this
            rw [hol, Nat.zero_add] at h1 h2 h3
            rw [hvo, Array.empty_append] at h3
            exact hnewrow (v := new) hh rd' (hh.drew 0).1 (fun base => (hh.drew base).2) hn rfl hfn h1 h2 h3
      | sl sz b off len cm =>
        -- behind a slice of a block
        simp only at h
        have hszb : sz = te.size := by
          simp only [AV.view] at hold
          obtain ⟨hq, _⟩ := cond_some hold
          exact Nat.eq_of_beq_eq_true hq
        subst hszb
        have hlen_old : ∀ {rd' : Nat → BS} {w I φ u}, RH w I φ rd' → (AV.sl te.size b off len cm).view rd' te.size = some old → RV w I φ (.sl te.size b off len cm) u → old.len = len := by
          intro rd' w I φ u hh hv hs
          rcases view_ok hh hv hs with ⟨s', e', _⟩ | ⟨B, q, cap, e', _⟩ | ⟨a, n, cap, e', h0, hn0⟩
          · rw [e'] at hs; cases hs
          · rw [e'] at hs; generalize old.len = nn at hs ⊢; cases hs <;> rfl
          · rw [e'] at hs; cases hs <;> omega
        cases hz0 : Nat.beq new.len 0 with
        | true =>
          rw [hz0, cond_true] at h
          have hz0 := Nat.eq_of_beq_eq_true hz0
          refine ⟨_, [], _, h, fun rd' ρr w φ I hrd _ hh hx => ?_⟩
          have hs := has ▸ hx oa hm1
          have hxx := hax ▸ hx ob hm2
          have hv1 : (AV.sl te.size b off len cm).view rd' te.size = some old := by rw [view_agree fun b hb => hrd b (by simp [hb])]; exact hold
          have hv2 : x.view rd' te.size = some new := by rw [view_agree fun b hb => hrd b (by simp [hb])]; exact hnew
          have hol := hlen_old hh hv1 hs
          obtain ⟨a, cap, hu, hcap⟩ : ∃ a cap, ρr oa = .slice a len cap ∧ len ≤ cap := by
            generalize ρr oa = u at hs
            cases hs with
            | sl _ _ _ _ _ _ _ cap => exact ⟨_, cap, rfl, by omega⟩
            | sle => exact ⟨_, 0, rfl, Nat.le_refl _⟩
          obtain ⟨vo, vn, _, hfn, hA, _⟩ := hmodel rd' ρr w φ I a cap hh hv1 hv2 hs hxx (by rw [hu, hol])
          have hvn : vn = #[] := by
            have := hfn.size
            rw [hz0, Nat.zero_mul] at this
            exact Array.eq_empty_of_size_eq_zero this
          have := hA (by omega) w (by rw [hvn]; cases a <;> rfl)
          rw [hol, hz0, Nat.add_zero, ← hu] at this
          exact OpOk.pure hh this hs
        | false =>
          rw [hz0, cond_false] at h
          have hz0 : new.len ≠ 0 := fun e => by rw [e] at hz0; cases hz0
          cases hin : Nat.ble (len + new.len) cm with
          | true =>
            rw [hin, cond_true] at h
            have hin := Nat.le_of_ble_eq_true hin
            -- surely in place
            have hplace : ∀ (x' : BS), isRow x' = true → mutable x' = true → isRow (rd b) = true → mutable (rd b) = true → bsz x' = bsz (rd b) → (∀ φ, vphi φ x' = vphi φ (rd b)) →
                (∀ w I φ vn, Flat w I (wphi φ new) te.size new.len new.at vn → Flat w I (vphi φ x') te.size new.len new.at vn) →
                (∃ cs, elemAt (rd b) (off + len + new.len - 1) = some cs) →
                (∀ i cs', elemAt x' i = some cs' → (off + len ≤ i ∧ i < off + len + new.len ∧ cs' = new.at (i - (off + len))) ∨ (¬ (off + len ≤ i ∧ i < off + len + new.len) ∧ elemAt (rd b) i = some cs')) →
                k (.sl te.size b off (len + new.len) cm) [(b, x')] (b :: x.viewIds) = some r → Good P o ρ rd k r := by
              intro x' h1 h2 h3 h4 h5 h6 h7 h8 h9 hk
              refine ⟨_, _, _, hk, fun rd' ρr w φ I hrd _ hh hx => ?_⟩
              have hb' := hrd b (by simp)
              have hs := has ▸ hx oa hm1
              have hxx := hax ▸ hx ob hm2
              have hv1 : (AV.sl te.size b off len cm).view rd' te.size = some old := by
                rw [view_agree fun b' hb' => ?_]; exact hold
                simp only [AV.viewIds] at hb'
                cases hz1 : Nat.beq len 0 with
                | true => rw [hz1] at hb'; cases hb'
                | false =>
                  rw [hz1] at hb'
                  simp at hb'
                  subst hb'
                  exact hrd _ (by simp)
              have hv2 : x.view rd' te.size = some new := by rw [view_agree fun b hb => hrd b (by simp [hb])]; exact hnew
              have hol := hlen_old hh hv1 hs
              generalize hu : ρr oa = u at hs
              cases hs with
              | sl _ _ B obb _ _ _ cap q hφ hq hl hcc hs' =>
                obtain ⟨vo, vn, _, hfn, hA, _⟩ := hmodel rd' ρr w φ I _ cap hh hv1 hv2 (by rw [hu]; exact .sl te.size b B obb off len cm cap q hφ hq hl hcc hs') hxx (by rw [hu, hol])
                obtain ⟨w', hw1, hw2, hw3⟩ := write_range (P := P) (p := off + len) (m := new.len) (nf := new.at) (vs := vn) (x' := x') hh hφ (by rw [hb']; exact h4) (by rw [hb']; exact h3) (h7 w I φ vn hfn) h1sz (by omega)
                  (by rw [hb']; exact h8) h1 h2 (by rw [hb']; exact h5) (by rw [hb']; exact h6 φ) (by rw [hb']; exact h9)
                have := hA (by omega) w' (by
                  simp only [add_none]
                  rw [hol, hq, show obb + off * te.size + len * te.size = obb + (off + len) * te.size by rw [Nat.add_mul]; omega]
                  exact hw1)
                refine ⟨_, w', φ, I, .inl this, ?_, hw2, hw3, Phi.le_refl _⟩
                rw [hol]
                exact .sl te.size b B obb off _ cm cap q hφ hq hin hcc (Nat.le_trans hs' ((hw3 0).ext.csize B))
              | sle => omega
            generalize hnewv : new = nv at h
            split at h
            · rename new = _ => hnv
              revert h
              subst hnv
              intro h
              rename rd b = _ => hb
              obtain ⟨hle, h⟩ := cond_some h
              have hle := Nat.le_of_ble_eq_true hle
              refine hplace _ rfl rfl (by rw [hb]; rfl) (by rw [hb]; rfl) (by rw [hb]; rfl) (fun φ => by rw [hb]; rfl) (fun w I φ vn hf => by exact hf) ?_ ?_ h
              · rw [hb]
                simp only [View.len] at hin hz0 ⊢
                exact elem_list (by omega)
              · intro i cs' e'
                rw [hb]
                simp only [elemAt, View.len, View.at] at e' ⊢
                simp only [View.len] at hin hz0
                rw [← Nat.add_assoc, splice_list (p := off + len) (by omega)] at e'
                split at e'
                · rename_i hpi
                  exact .inl ⟨hpi.1, hpi.2, by simp [List.getD, e']⟩
                · rename_i hpi
                  exact .inr ⟨hpi, e'⟩
            · rename new = _ => hnv
              revert h
              subst hnv
              intro h
              rename rd b = _ => hb
              obtain ⟨hcc, h⟩ := cond_some h
              obtain ⟨hvf, hle⟩ := and_true' hcc
              have hle := Nat.le_of_ble_eq_true hle
              refine hplace _ rfl rfl (by rw [hb]; rfl) (by rw [hb]; rfl) (by rw [hb]; rfl) (fun φ => by rw [hb]; rfl) (fun w I φ vn hf => ?_) ?_ ?_ h
              · refine ⟨hf.size, hf.one, hf.len, fun i q cc u hi hcq e' => ?_⟩
                have := hf.val i q cc u hi hcq e'
                cases new with
                | fn => exact this
                | list ns =>
                  simp only [vfree, List.all_eq_true] at hvf
                  have hm : View.at (.list ns) i ∈ ns := by
                    simp only [View.at, List.getD]
                    rw [List.getElem?_eq_getElem hi]; exact List.getElem_mem _
                  exact this.free (hvf _ hm _ (List.mem_of_getElem? hcq))
              · rw [hb]
                simp only [elemAt]
                rw [if_pos (by omega)]
                exact ⟨_, rfl⟩
              · intro i cs' e'
                rw [hb]
                simp only [elemAt] at e' ⊢
                split at e'
                · rename_i hi
                  simp only [Option.some.injEq] at e'
                  by_cases h1 : i < off + len
                  · have : Nat.blt i (off + len) = true := by rw [Nat.blt_eq]; exact h1
                    rw [this, cond_true] at e'
                    exact .inr ⟨by omega, by rw [if_pos hi, e']⟩
                  · have hbf : Nat.blt i (off + len) = false := by
                      cases hq : Nat.blt i (off + len) with
                      | false => rfl
                      | true => rw [Nat.blt_eq] at hq; omega
                    rw [hbf, cond_false] at e'
                    by_cases h2 : i < off + (len + new.len)
                    · have : Nat.blt i (off + (len + new.len)) = true := by rw [Nat.blt_eq]; exact h2
                      rw [this, cond_true] at e'
                      exact .inl ⟨by omega, by omega, e'.symm⟩
                    · have hbf2 : Nat.blt i (off + (len + new.len)) = false := by
                        cases hq : Nat.blt i (off + (len + new.len)) with
                        | false => rfl
                        | true => rw [Nat.blt_eq] at hq; omega
                      rw [hbf2, cond_false] at e'
                      exact .inr ⟨by omega, by rw [if_pos hi, e']⟩
                · cases e'
            · cases h
          | false =>
            rw [hin, cond_false] at h
            have hin : cm < len + new.len := by
              rcases Nat.lt_or_ge cm (len + new.len) with h' | h'
              · exact h'
              · have := Nat.ble_eq_true_of_le h'; rw [this] at hin; cases hin
            -- the old block ends
            have hends : isRow (rd b) = true → mutable (rd b) = true → (vfree new || (match viewApp old new with | .list _ => true | .fn _ _ => false)) = true → (match viewApp old new with | .list _ => true | .fn _ _ => vfree old) = true →
                k (.sl te.size nx 0 (old.len + new.len) (old.len + new.len)) [(b, .dead), (nx, blk te.size (viewApp old new))] (b :: ((AV.sl te.size b off len cm).viewIds ++ x.viewIds)) = some r → Good P o ρ rd k r := by
              intro hrow hmut hc1 hc2 hk
              refine ⟨_, _, _, hk, fun rd' ρr w φ I hrd hwr hh hx => ?_⟩
              have hb' := hrd b (by simp)
              have hn : rd' nx = .none := (hwr (nx, _) (.tail _ (.head _))).trans hnx
              have hbn : nx ≠ b := by rintro rfl; rw [hnx] at hrow; cases hrow
              have hs := has ▸ hx oa hm1
              have hxx := hax ▸ hx ob hm2
              have hv1 : (AV.sl te.size b off len cm).view rd' te.size = some old := by rw [view_agree fun b hb => hrd b (by simp [hb])]; exact hold
              have hv2 : x.view rd' te.size = some new := by rw [view_agree fun b hb => hrd b (by simp [hb])]; exact hnew
              have hol := hlen_old hh hv1 hs
              have hlv : (viewApp old new).len = old.len + new.len := by cases old <;> cases new <;> simp [viewApp, View.len]
              obtain ⟨a, cap, hu⟩ : ∃ a cap, ρr oa = .slice a len cap := by
                generalize ρr oa = u at hs
                cases hs <;> exact ⟨_, _, rfl⟩
              obtain ⟨vo, vn, hfo, hfn, hA, hB⟩ := hmodel rd' ρr w φ I a cap hh hv1 hv2 hs hxx (by rw [hu, hol])
              have hfa := flat_app hfo hfn hc2 hc1
              have hwr2 : rdputs rd' [(b, .dead), (nx, blk te.size (viewApp old new))] = rdput (rdput rd' b .dead) nx (blk te.size (viewApp old new)) := rfl
              rcases Nat.lt_or_ge cap (old.len + new.len) with hlt | hge
              · obtain ⟨nc, rest, g1, g2, g3⟩ := hB hlt
                have hkill := hh.kill b (live_of_mutable (by rw [hb']; exact hmut))
                have hdr := (hkill 0).1.drew
                have := hnewrow (v := viewApp old new) (vs := vo ++ vn) (rest := rest) (nc := nc) (ρr := ρr) (wr := [(b, .dead), (nx, blk te.size (viewApp old new))]) hh (rdput rd' b .dead) (hdr 0).1 (fun base => (hkill base).2.trans (hdr base).2)
                  (by rw [rdput_ne _ _ hbn]; exact hn) hwr2 hfa (by rw [hlv]; exact g1) (by rw [hlv]; exact g2) (by rw [hlv]; exact g3)
                rw [hlv] at this
                exact this
              · rw [hu] at hs
                cases hs with
                | sl _ _ B obb _ _ _ _ q hφ hq hl hcc hs' =>
                  -- in place
                  obtain ⟨B', o', sz', e', hrb⟩ := hh.blk b (live_of_mutable (by rw [hb']; exact hmut))
                  rw [hφ] at e'; cases e'
                  obtain ⟨hbs, ⟨cc, te', fz, hcell, hth⟩, hel⟩ := hrb.row (by rw [hb']; exact hrow)
                  have hcsz : csize w B = cc.size := by unfold csize; rw [hcell]
                  rw [hcsz] at hs'
                  have hth := hth (by rw [hb']; exact hmut)
                  have hvnl : vn.toList.length = new.len * te.size := by simpa using hfn.size
                  have hfit : q + old.len * te.size + new.len * te.size ≤ cc.size := by
                    have : (off + cap) * te.size ≥ (off + (old.len + new.len)) * te.size := Nat.mul_le_mul_right te.size (by omega)
                    rw [hq]
                    have e1 : (off + (old.len + new.len)) * te.size = off * te.size + (old.len * te.size + new.len * te.size) := by rw [Nat.add_mul, Nat.add_mul]
                    omega
                  have hrun := run_storeCells (P := P) (o := q + old.len * te.size) vn.toList 0 cc w hcell (by rw [hvnl]; omega) hth (fun v hv' => by
                    obtain ⟨j, hj⟩ := List.getElem?_of_mem hv'
                    exact hfn.one j v (by simpa using hj))
                  have hst := hA hge _ (by simp only [add_none]; exact hrun)
                  have hM : Mut φ rd' B := ⟨b, obb, te.size, by rw [hb']; exact hmut, hφ⟩
                  have ext := Ext.setBlk (M := Mut φ rd') (c' := splice cc (q + old.len * te.size) vn.toList) hcell (splice_size _ _ _) hM
                  have le := Phi.le_set (hh.none nx hn) (B, q, te.size)
                  have mono : ∀ {ψ ψ' : Phi} {v : AV} {u : Value}, Phi.le ψ ψ' → RV w I ψ v u → RV (World.setBlk w B (.cells (splice cc (q + old.len * te.size) vn.toList) te' fz)) I ψ' v u := fun le hvu =>
                    hvu.mono (fun B hB => ⟨hB, ext.keep B (hh.lt B hB) fun ⟨b, o, sz, hm, e⟩ => hh.disj _ _ _ _ hm e hB⟩) ext.csize le
                  have hB := setBlk_same (o := .cells (splice cc (q + old.len * te.size) vn.toList) te' fz) (lt_of_heap hcell)
                  have hrb2 : RB (World.setBlk w B (.cells (splice cc (q + old.len * te.size) vn.toList) te' fz)) I (φ.set nx (B, q, te.size)) B q te.size (blk te.size (viewApp old new)) := by
                    have hvphi : ∀ ψ : Phi, vphi ψ (blk te.size (viewApp old new)) = wphi ψ (viewApp old new) := fun ψ => by cases viewApp old new <;> rfl
                    refine RB.of_row (by cases viewApp old new <;> rfl) (by cases viewApp old new <;> rfl) ⟨_, te', fz, hB, fun _ j hj => hth j (by simpa using hj)⟩ fun i cs he => ?_
                    obtain ⟨hi, rfl⟩ : i < (viewApp old new).len ∧ cs = (viewApp old new).at i := by
                      cases hva : viewApp old new with
                      | list es =>
                        rw [hva] at he
                        simp only [blk, elemAt] at he
                        have hi : i < es.length := by
                          rcases Nat.lt_or_ge i es.length with h' | h'
                          · exact h'
                          · rw [List.getElem?_eq_none h'] at he; cases he
                        exact ⟨hi, by simp [View.at, List.getD, he]⟩
                      | fn n f =>
                        rw [hva] at he
                        simp only [blk, elemAt] at he
                        split at he
                        · rename_i hi; cases he; exact ⟨hi, rfl⟩
                        · cases he
                    rw [hlv] at hi
                    rw [hvphi]
                    have hlen : ((viewApp old new).at i).length = te.size := (flat_app hfo hfn hc2 hc1).len i (by rw [hlv]; exact hi)
                    refine ⟨hlen, fun j x hx => ?_⟩
                    have hj : j < te.size := by
                      rcases Nat.lt_or_ge j ((viewApp old new).at i).length with h' | h'
                      · omega
                      · rw [List.getElem?_eq_none h'] at hx; cases hx
                    rw [cell_of hB, splice_get _ _ _ _ (by rw [hvnl]; exact hfit), hvnl]
                    by_cases hi1 : i < old.len
                    · rw [app_at1 hi1] at hx
                      have hlt := idx_lt hi1 hj
                      rw [if_neg (by omega)]
                      have hvv := view_ok hh hv1 (.sl te.size b B obb off len cm cap q hφ hq hl hcc (by rw [hcsz]; exact hs') : RV w I φ (.sl te.size b off len cm) (.slice (some ⟨B, q, none⟩) len cap))
                      rcases hvv with ⟨s', e1, _⟩ | ⟨B1, q1, cap1, e1, hvr⟩ | ⟨a1, n1, cap1, e1, h0, _⟩
                      · cases e1
                      · cases e1
                        obtain ⟨u, h1, h2, h3⟩ := hvr.cells i hi1 j x hx
                        rw [cell_of hcell] at h1
                        exact ⟨u, h1, h2, mono (by cases viewApp old new <;> first | exact le | exact Phi.le_refl _) (app_rv1 hc2 hi1 hx h3)⟩
                      · omega
                    · rw [app_at2 (by omega) hi] at hx
                      have hi2 : i - old.len < new.len := by omega
                      have hlt := idx_lt hi2 hj
                      have e1 : q + i * te.size + j = q + old.len * te.size + ((i - old.len) * te.size + j) := by
                        have : i = old.len + (i - old.len) := by omega
                        conv => lhs; rw [this, Nat.add_mul]
                        omega
                      rw [e1, if_pos (by omega), Nat.add_sub_cancel_left]
                      have hlt' : (i - old.len) * te.size + j < vn.size := by rw [hfn.size]; exact hlt
                      exact ⟨vn[(i - old.len) * te.size + j], by simp [hlt'], hfn.one _ _ (Array.getElem?_eq_getElem hlt'),
                        mono (by cases viewApp old new <;> first | exact le | exact Phi.le_refl _) (app_rv2 hc1 hi2 hx (hfn.val _ j x _ hi2 hx (Array.getElem?_eq_getElem hlt')))⟩
                  have hmv := hh.move hφ (by rw [hb']; exact hmut) hn hcell (splice_size _ _ _) (blk te.size (viewApp old new)) q (by cases viewApp old new <;> rfl) hrb2
                  refine ⟨_, _, _, I, .inl hst, ?_, by rw [hwr2]; exact (hmv 0).1, fun base => by rw [hwr2]; exact (hmv base).2.1, (hmv 0).2.2⟩
                  refine .sl te.size nx B q 0 _ _ cap q (Phi.set_same _ _ _) (by simp) (Nat.le_refl _) hge ?_
                  have hcs2 : csize (World.setBlk w B (.cells (splice cc (q + old.len * te.size) vn.toList) te' fz)) B = cc.size := by
                    unfold csize; rw [hB]; simp
                  show q + (0 + cap) * te.size ≤ csize (World.setBlk w B (.cells (splice cc (q + old.len * te.size) vn.toList) te' fz)) B
                  rw [hcs2, hq]
                  have : (off + cap) * te.size = off * te.size + cap * te.size := Nat.add_mul _ _ _
                  simp only [Nat.zero_add]
                  omega
                | sle => omega
            split at h
            · rename rd b = _ => hb
              obtain ⟨hc1, h⟩ := cond_some h
              obtain ⟨hc2, h⟩ := cond_some h
              exact hends (by rw [hb]; rfl) (by rw [hb]; rfl) hc1 hc2 h
            · rename rd b = _ => hb
              obtain ⟨hc1, h⟩ := cond_some h
              obtain ⟨hc2, h⟩ := cond_some h
              exact hends (by rw [hb]; rfl) (by rw [hb]; rfl) hc1 hc2 h
            · -- no room at all
              rename rd b = _ => hb
              obtain ⟨hl0, h⟩ := cond_some h
              have hl0 := Nat.eq_of_beq_eq_true hl0
              subst hl0
              refine ⟨_, _, _, h, fun rd' ρr w φ I hrd hwr hh hx => ?_⟩
              have hn : rd' nx = .none := (hwr _ List.mem_cons_self).trans hnx
              have hb' : rd' b = .none := (hrd b (by simp)).trans hb
              have hs := has ▸ hx oa hm1
              have hxx := hax ▸ hx ob hm2
              have hv1 : (AV.sl te.size b off 0 cm).view rd' te.size = some old := by
                have e1 : (AV.sl te.size b off 0 cm).view rd' te.size = (AV.sl te.size b off 0 cm).view rd te.size := by simp [AV.view]
                rw [e1]; exact hold
              have hv2 : x.view rd' te.size = some new := by rw [view_agree fun b hb => hrd b (by simp [hb])]; exact hnew
              have hol := hlen_old hh hv1 hs
              obtain ⟨a, hu⟩ : ∃ a, ρr oa = .slice a 0 0 := by
                generalize ρr oa = u at hs
                cases hs with
                | sl _ _ B obb _ _ _ cap q hφ => rw [hh.none b hb'] at hφ; cases hφ
                | sle => exact ⟨_, rfl⟩
              obtain ⟨vo, vn, hfo, hfn, _, hB⟩ := hmodel rd' ρr w φ I a 0 hh hv1 hv2 hs hxx (by rw [hu, hol])
              obtain ⟨nc, rest, h1, h2, h3⟩ := hB (by omega)
              have hvo : vo = #[] := by
                have := hfo.size
                rw [hol, Nat.zero_mul] at this
                exact Array.eq_empty_of_size_eq_zero this
              rw [hol, Nat.zero_add] at h1 h2 h3
              rw [hvo, Array.empty_append] at h3
              exact hnewrow (v := new) hh rd' (hh.drew 0).1 (fun base => (hh.drew base).2) hn rfl hfn h1 h2 h3
            · cases h
      | _ => cases h
  · cases h

end
end Go.AM
