/- The built-in functions: copy, clear, and those of numbers. -/
import Derived.Test.YtnioalecffkedaaAm17
set_option linter.unusedVariables false
set_option linter.unusedSimpArgs false
namespace Go.AM

variable {R : Type}

def View.take : View → Nat → View
  | .list es, m => .list (es.take m)
  | .fn _ f, m => .fn m f

/-- a view's first elements, read -/
theorem read_take {P : Program} {w : World} {I : Nat → Prop} {φ : Phi} {rd : Nat → BS} {sz : Nat} {x : AV} {v : View} {u : Value} (hh : RH w I φ rd) (hv : x.view rd sz = some v) (hx : RV w I φ x u) {m : Nat} (hm : m ≤ v.len) :
    ∃ vs, (∀ w' : World, w'.heap = w.heap → (Builtin.firstCells sz m u).run P w' = .ok vs w') ∧ Flat w I (wphi φ v) sz m v.at vs := by
  rcases view_ok hh hv hx with ⟨s, rfl, rfl, rfl⟩ | ⟨B, q, cap, rfl, hr⟩ | ⟨a, n, cap, rfl, h0, rfl⟩
  · simp only [View.len] at hm
    refine ⟨_, fun _ _ => rfl, ?_⟩
    have hf := str_flat w I s
    have hsz : (s.extract 0 m).size = m := by simp; omega
    have hget : ∀ (p : Nat) u, ((s.extract 0 m).data.map fun b => Value.int .u8 b.toNat)[p]? = some u → p < m ∧ (s.data.map fun b => Value.int .u8 b.toNat)[p]? = some u := by
      intro p u e
      have hp : p < m := by
        have := (Array.getElem?_eq_some_iff.1 e).1
        rw [Array.size_map] at this
        have h2 : (s.extract 0 m).data.size = m := hsz
        omega
      refine ⟨hp, ?_⟩
      rw [Array.getElem?_map] at e ⊢
      rw [← e]
      congr 1
      rw [ByteArray.data_extract, Array.getElem?_extract]
      have : s.data.size = s.size := rfl
      rw [if_pos (by omega), Nat.zero_add]
    exact ⟨by simp; omega, fun p u e => hf.one p u (hget p u e).2, fun i hi => rfl, fun i k c u hi hc e => hf.val i k c u (by omega) hc (hget _ u e).2⟩
  · have hr' : VRow w I φ sz (v.take m) B q := by
      cases v with
      | list es =>
        simp only [View.len] at hm
        have hat : ∀ i, i < m → View.at (.list (es.take m)) i = View.at (.list es) i := by
          intro i hi
          simp [View.at, List.getD, List.getElem?_take, hi]
        refine ⟨fun i hi => ?_, fun i hi => ?_⟩
        all_goals
          simp only [View.take, View.len, List.length_take] at hi
          have hi : i < m := by omega
        · rw [View.take, hat i hi]; exact hr.len i (by simp only [View.len]; omega)
        · rw [View.take, hat i hi]; exact hr.cells i (by simp only [View.len]; omega)
      | fn n f =>
        simp only [View.len] at hm
        exact ⟨fun i hi => hr.len i (Nat.lt_of_lt_of_le hi hm), fun i hi => hr.cells i (Nat.lt_of_lt_of_le hi hm)⟩
    have hl : (v.take m).len = m := by
      cases v with
      | list es => simp only [View.len] at hm; simp [View.take, View.len]; omega
      | fn n f => rfl
    obtain ⟨vs, h1, h2, h3⟩ := vrow_cells hr'
    rw [hl] at h1 h3
    refine ⟨vs.toArray, fun w' hw => ?_, ⟨h3.size, h3.one, fun i hi => ?_, fun i k c u hi hc e => ?_⟩⟩
    · simp only [Builtin.firstCells]
      refine run_loadCells_of vs h1 fun j v e => ?_
      have := h2 j v e
      simpa [World.cell?, hw] using this
    all_goals
      have hat : v.at i = (v.take m).at i := by
        cases v with
        | list es => simp [View.take, View.at, List.getD, List.getElem?_take, hi]
        | fn n f => rfl
      have hp : wphi φ (v.take m) = wphi φ v := by cases v <;> rfl
    · rw [hat]; exact h3.len i hi
    · rw [hat] at hc; rw [← hp]; exact h3.val i k c u hi hc e
  · have : m = 0 := by omega
    subst this
    refine ⟨#[], fun _ _ => ?_, ⟨by simp, by simp, fun i hi => by omega, fun i k c u hi => by omega⟩⟩
    cases a with
    | none => rfl
    | some a => simp [Builtin.firstCells, loadCells, loadCellsFrom]

section
variable {P : Program} {tt : TT} {ρ : Operand → AV} {rd : Nat → BS} {nx : Nat} {k : AopK R} {r : R} {o : Oper} {c : Call} {b : Builtin}

/-- elements of a slice written over -/
theorem over_ok {od : Operand} (hm : od ∈ o.op.operands) {sz b off len cm m : Nat} (hd : ρ od = .sl sz b off len cm) (h1sz : 1 ≤ sz) (hml : m ≤ len) {resAV : AV} {resV : Value} (hres : ∀ w I φ, RV w I φ resAV resV)
    {nf : Nat → List AV} {rdl : List Nat} (x' : BS)
    (hsrc : ∀ (rd' : Nat → BS) (ρr : Operand → Value) (w : World) (φ : Phi) (I : Nat → Prop), (∀ b' ∈ b :: rdl, rd' b' = rd b') → RH w I φ rd' → (∀ x ∈ o.op.operands, RV w I φ (ρ x) (ρr x)) →
      ∃ vs : Array Value, Flat w I (vphi φ x') sz m nf vs ∧ ∀ a cap w', ρr od = .slice a len cap → (match (generalizing := false) a with | some a => storeCells a vs.toList | none => pure ()).run P w = .ok () w' → (execOp ρr o).run P w = .ok (.value resV) w')
    (g1 : isRow x' = true) (g2 : mutable x' = true) (g3 : isRow (rd b) = true) (g4 : mutable (rd b) = true) (g5 : bsz x' = bsz (rd b)) (g6 : ∀ φ, vphi φ x' = vphi φ (rd b)) (g7 : 1 ≤ m → ∃ cs, elemAt (rd b) (off + m - 1) = some cs)
    (g8 : ∀ i cs', elemAt x' i = some cs' → (off ≤ i ∧ i < off + m ∧ cs' = nf (i - off)) ∨ (¬ (off ≤ i ∧ i < off + m) ∧ elemAt (rd b) i = some cs')) (g9 : m = 0 → x' = rd b)
    (hk : k resAV [(b, x')] (b :: rdl) = some r) : Good P o ρ rd k r := by
  refine ⟨_, _, _, hk, fun rd' ρr w φ I hrd _ hh hx => ?_⟩
  obtain ⟨vs, hf, hrun⟩ := hsrc rd' ρr w φ I hrd hh hx
  have hb' := hrd b (by simp)
  have hs := hd ▸ hx od hm
  by_cases hm0 : m = 0
  · have hvs : vs = #[] := by
      have := hf.size
      rw [hm0, Nat.zero_mul] at this
      exact Array.eq_empty_of_size_eq_zero this
    have he : rdputs rd' [(b, x')] = rd' := by
      funext b'
      show rdput rd' b x' b' = rd' b'
      unfold rdput
      split
      · rename_i e; rw [e, g9 hm0, hb']
      · rfl
    obtain ⟨a, cap, hu⟩ : ∃ a cap, ρr od = .slice a len cap := by
      generalize ρr od = u at hs
      cases hs <;> exact ⟨_, _, rfl⟩
    have := hrun a cap w hu (by rw [hvs]; cases a <;> rfl)
    exact ⟨_, w, φ, I, .inl this, hres _ _ _, by rw [he]; exact hh, fun base => by rw [he]; exact Step.refl _ _ _ _ _, Phi.le_refl _⟩
  · generalize hu : ρr od = u at hs
    cases hs with
    | sl _ _ B obb _ _ _ cap q hφ hq hl hcc hs' =>
      obtain ⟨w', hw1, hw2, hw3⟩ := write_range (P := P) (p := off) (m := m) (nf := nf) (vs := vs) (x' := x') hh hφ (by rw [hb']; exact g4) (by rw [hb']; exact g3) hf h1sz (by omega)
        (by rw [hb']; exact g7 (by omega)) g1 g2 (by rw [hb']; exact g5) (by rw [hb']; exact g6 φ) (by rw [hb']; exact g8)
      have := hrun _ cap w' hu (by simp only []; rw [hq]; exact hw1)
      exact ⟨_, w', φ, I, .inl this, hres _ _ _, hw2, hw3, Phi.le_refl _⟩
    | sle => omega

theorem min_len {a len : Nat} : min a len ≤ len := Nat.min_le_right _ _

theorem abcopy_ok (htt : TTok P tt) (ho : o.op = .call c) (hc : c.callee = .builtin .copy) {d x : AV} {t : TypeId} {tr : List TypeId} (hargs : c.args.toList.map ρ = [d, x])
    (hts : c.argTypes.toList = t :: tr) (h : abuiltK tt rd nx .copy (t :: tr) [d, x] k = some r) : Good P o ρ rd k r := by
  simp only [abuiltK] at h
  obtain ⟨ti, hti, h⟩ := onK_some h
  obtain ⟨oa, ob, hab, had, hax⟩ := args2 hargs
  clear hargs
  have hm1 : oa ∈ o.op.operands := by simp [ho, Op.operands, Call.operands, hc, hab]
  have hm2 : ob ∈ o.op.operands := by simp [ho, Op.operands, Call.operands, hc, hab]
  have ht0 : c.argTypes[0]? = some t := by rw [← Array.getElem?_toList, hts]; rfl
  split at h
  · rename_i e sz b off len cm hd had
    obtain ⟨te, hte, h1⟩ := onK_some h
    clear h
    obtain ⟨hcz, h2⟩ := cond_some h1
    clear h1
    obtain ⟨hsz, h1sz⟩ := and_true' hcz
    have hsz := Nat.eq_of_beq_eq_true hsz
    have h1sz := Nat.le_of_ble_eq_true h1sz
    clear hcz
    subst hsz
    obtain ⟨new, hnew, h⟩ := onK_some h2
    clear h2
    have hsrc : ∀ (x' : BS), (∀ w I φ vn, Flat w I (wphi φ new) te.size (min new.len len) new.at vn → Flat w I (vphi φ x') te.size (min new.len len) new.at vn) →
        ∀ (rd' : Nat → BS) (ρr : Operand → Value) (w : World) (φ : Phi) (I : Nat → Prop), (∀ b' ∈ b :: x.viewIds, rd' b' = rd b') → RH w I φ rd' → (∀ x ∈ o.op.operands, RV w I φ (ρ x) (ρr x)) →
          ∃ vs : Array Value, Flat w I (vphi φ x') te.size (min new.len len) new.at vs ∧ ∀ a cap w', ρr oa = .slice a len cap → (match (generalizing := false) a with | some a => storeCells a vs.toList | none => pure ()).run P w = .ok () w' → (execOp ρr o).run P w = .ok (.value (.int .i64 (min new.len len : Nat))) w' := by
      intro x' hx' rd' ρr w φ I hrd hh hx
      have hxx := hax ▸ hx ob hm2
      have hv2 : x.view rd' te.size = some new := by rw [view_agree fun b hb => hrd b (by simp [hb])]; exact hnew
      obtain ⟨hl, _⟩ := read_view (P := P) hh hv2 hxx
      obtain ⟨vs, h1, h2⟩ := read_take (P := P) hh hv2 hxx (m := min new.len len) (Nat.min_le_left _ _)
      refine ⟨vs, hx' w I φ vs h2, fun a cap w' ha hst => ?_⟩
      obtain ⟨cs, hex⟩ := exec_builtin (P := P) ho hc ρr w
      rw [hex, hab]
      have : (Builtin.copy_ c.argTypes o.type #[.slice a len cap, ρr ob]).run P w = .ok (.int .i64 (min new.len len : Nat)) w' := by
        have hnm : Nat.min new.len len = min new.len len := rfl
        cases a with
        | none =>
          simp only [Sem.run_pure] at hst
          cases hst
          simp [Builtin.copy_, ht0, run_underlying (htt t ti hti), hd, hl w, run_sizeOf (htt e te hte), hnm, h1 w rfl, goInt]
        | some a =>
          simp only at hst
          simp [Builtin.copy_, ht0, run_underlying (htt t ti hti), hd, hl w, run_sizeOf (htt e te hte), hnm, h1 w rfl, hst, goInt]
      simp [builtin, ha, this]
    cases hb : rd b with
    | arr mu sz' es =>
      rw [hb] at h
      cases mu with
      | false => cases h
      | true =>
      cases new with
      | fn n f => cases h
      | list ns =>
      obtain ⟨hle, h⟩ := cond_some h
      have hle := Nat.le_of_ble_eq_true hle
      have hml : min ns.length len ≤ len := Nat.min_le_right _ _
      have hml2 : min ns.length len ≤ ns.length := Nat.min_le_left _ _
      have htl : (ns.take (min ns.length len)).length = min ns.length len := by simp
      refine over_ok (rd := rd) hm1 had h1sz (m := min ns.length len) hml (fun w I φ => .int _ _) (.arr true sz' (es.take off ++ (ns.take (min ns.length len) ++ es.drop (off + min ns.length len)))) (hsrc _ fun w I φ vn hf => by exact hf) rfl rfl (by rw [hb]; rfl) (by rw [hb]; rfl) (by rw [hb]; rfl) (fun φ => by rw [hb]; rfl) ?_ ?_ ?_ h
      · intro h1
        rw [hb]
        exact elem_list (by omega)
      · intro i cs' e'
        rw [hb]
        simp only [elemAt] at e' ⊢
        have := splice_list (es := es) (ns := ns.take (min ns.length len)) (p := off) (by omega) i
        rw [htl] at this
        rw [this] at e'
        split at e'
        · rename_i hpi
          refine .inl ⟨hpi.1, hpi.2, ?_⟩
          rw [List.getElem?_take, if_pos (by omega)] at e'
          simp [View.at, List.getD, e']
        · rename_i hpi
          exact .inr ⟨hpi, e'⟩
      · intro h0
        rw [hb, h0]
        simp
    | seq mu sz' mm f =>
      rw [hb] at h
      cases mu with
      | false => cases h
      | true =>
      generalize hnv : new = nv at h hsrc hnew
      have h : (bif vfree nv && Nat.ble (off + len) mm then k (.int .i64 (min nv.len len : Nat)) [(b, .seq true sz' mm fun i => bif Nat.blt i off then f i else bif Nat.blt i (off + min nv.len len) then nv.at (i - off) else f i)] (b :: x.viewIds) else none) = some r := h
      obtain ⟨hcc, h⟩ := cond_some h
      obtain ⟨hvf, hle⟩ := and_true' hcc
      have hle := Nat.le_of_ble_eq_true hle
      have hml : min nv.len len ≤ len := Nat.min_le_right _ _
      refine over_ok (rd := rd) hm1 had h1sz (m := min nv.len len) hml (fun w I φ => .int _ _) (.seq true sz' mm fun i => bif Nat.blt i off then f i else bif Nat.blt i (off + min nv.len len) then nv.at (i - off) else f i) (hsrc _ fun w I φ vn hf => ?_) rfl rfl (by rw [hb]; rfl) (by rw [hb]; rfl) (by rw [hb]; rfl) (fun φ => by rw [hb]; rfl) ?_ ?_ ?_ h
      · refine ⟨hf.size, hf.one, hf.len, fun i q cc u hi hcq e' => ?_⟩
        have := hf.val i q cc u hi hcq e'
        cases nv with
        | fn => exact this
        | list ns =>
          simp only [vfree, List.all_eq_true] at hvf
          have hm : View.at (.list ns) i ∈ ns := by
            simp only [View.at, List.getD, View.len] at hi ⊢
            rw [List.getElem?_eq_getElem (by omega)]; exact List.getElem_mem _
          exact this.free (hvf _ hm _ (List.mem_of_getElem? hcq))
      · intro h1
        rw [hb]
        simp only [elemAt]
        rw [if_pos (by omega)]
        exact ⟨_, rfl⟩
      · intro i cs' e'
        rw [hb]
        simp only [elemAt] at e' ⊢
        split at e'
        · rename_i hi
          simp only [Option.some.injEq] at e'
          by_cases h1 : i < off
          · have : Nat.blt i off = true := by rw [Nat.blt_eq]; exact h1
            rw [this, cond_true] at e'
            exact .inr ⟨by omega, by rw [if_pos hi, e']⟩
          · have hbf : Nat.blt i off = false := by
              cases hq : Nat.blt i off with
              | false => rfl
              | true => rw [Nat.blt_eq] at hq; omega
            rw [hbf, cond_false] at e'
            by_cases h2 : i < off + min nv.len len
            · have : Nat.blt i (off + min nv.len len) = true := by rw [Nat.blt_eq]; exact h2
              rw [this, cond_true] at e'
              exact .inl ⟨by omega, h2, e'.symm⟩
            · have hbf2 : Nat.blt i (off + min nv.len len) = false := by
                cases hq : Nat.blt i (off + min nv.len len) with
                | false => rfl
                | true => rw [Nat.blt_eq] at hq; omega
              rw [hbf2, cond_false] at e'
              exact .inr ⟨by omega, by rw [if_pos hi, e']⟩
        · cases e'
      · intro h0
        rw [hb, h0]
        congr 1
        funext i
        by_cases h1 : i < off
        · rw [show Nat.blt i off = true by rw [Nat.blt_eq]; exact h1]; rfl
        · have hbf : Nat.blt i off = false := by
            cases hq : Nat.blt i off with
            | false => rfl
            | true => rw [Nat.blt_eq] at hq; omega
          rw [hbf, cond_false, Nat.add_zero, hbf]; rfl
    | _ => rw [hb] at h; cases h
  · cases h

theorem abclear_ok (htt : TTok P tt) (ho : o.op = .call c) (hc : c.callee = .builtin .clear) {x : AV} {t : TypeId} (hargs : c.args.toList.map ρ = [x])
    (hts : c.argTypes.toList = [t]) (h : abuiltK tt rd nx .clear [t] [x] k = some r) : Good P o ρ rd k r := by
  simp only [abuiltK] at h
  obtain ⟨ti, hti, h⟩ := onK_some h
  obtain ⟨oa, hab, hax⟩ := args1 hargs
  clear hargs
  have hm1 : oa ∈ o.op.operands := by simp [ho, Op.operands, Call.operands, hc, hab]
  have ht0 : c.argTypes[0]? = some t := by rw [← Array.getElem?_toList, hts]; rfl
  have hex : ∀ (ρr : Operand → Value) (w w' : World) (u : Value), (Builtin.clear_ c.argTypes o.type #[ρr oa]).run P w = .ok u w' → (execOp ρr o).run P w = .ok (.value u) w' := by
    intro ρr w w' u hu
    obtain ⟨cs, e⟩ := exec_builtin (P := P) ho hc ρr w
    rw [e, hab]
    simp [builtin, hu]
  have htup : ∀ (w : World) (I : Nat → Prop) (φ : Phi), RV w I φ (.tup []) (.tuple #[]) := fun w I φ => .tup _ _ rfl fun k c u e => by simp at e
  have hu := run_underlying (htt t ti hti)
  split at h
  · rename_i e hd
    refine Good.pure h fun ρr w φ I hx => ⟨_, hex ρr w w (.tuple #[]) ?_, htup w I φ⟩
    have hp := hx oa hm1
    rw [hax] at hp
    generalize ρr oa = u at hp
    cases hp
    simp [Builtin.clear_, ht0, hu, hd]
  · rename_i e sz b off len cm hd hax
    obtain ⟨te, hte, h1⟩ := onK_some h
    clear h
    obtain ⟨z, hz, h2⟩ := onK_some h1
    clear h1
    cases h0 : Nat.beq len 0 with
    | true =>
      rw [h0, cond_true] at h2
      have h0 := Nat.eq_of_beq_eq_true h0
      refine Good.pure h2 fun ρr w φ I hx => ⟨_, hex ρr w w (.tuple #[]) ?_, htup w I φ⟩
      have hp := hx oa hm1
      rw [hax, h0] at hp
      generalize ρr oa = u at hp
      obtain ⟨a, cap, rfl⟩ : ∃ a cap, u = .slice a 0 cap := by cases hp <;> exact ⟨_, _, rfl⟩
      cases a <;> simp [Builtin.clear_, ht0, hu, hd]
    | false =>
      rw [h0, cond_false] at h2
      have hlen : 1 ≤ len := by
        rcases Nat.eq_zero_or_pos len with e | e
        · subst e; simp at h0
        · exact e
      obtain ⟨hcz, h3⟩ := cond_some h2
      clear h2
      obtain ⟨hsz, hcz⟩ := and_true' hcz
      obtain ⟨hzl, h1sz⟩ := and_true' hcz
      have h1sz := Nat.le_of_ble_eq_true h1sz
      have hsz := Nat.eq_of_beq_eq_true hsz
      have hzl := Nat.eq_of_beq_eq_true hzl
      subst hsz
      revert h3
      intro h
      have hsrc : 1 ≤ te.size → ∀ (x' : BS), 
          ∀ (rd' : Nat → BS) (ρr : Operand → Value) (w : World) (φ : Phi) (I : Nat → Prop), (∀ b' ∈ b :: [], rd' b' = rd b') → RH w I φ rd' → (∀ x ∈ o.op.operands, RV w I φ (ρ x) (ρr x)) →
            ∃ vs : Array Value, Flat w I (vphi φ x') te.size len (fun _ => z) vs ∧ ∀ a cap w', ρr oa = .slice a len cap → (match (generalizing := false) a with | some a => storeCells a vs.toList | none => pure ()).run P w = .ok () w' → (execOp ρr o).run P w = .ok (.value (.tuple #[])) w' := by
        intro h1sz x' rd' ρr w φ I hrd hh hx
        obtain ⟨v, hv, _, _, hrc⟩ := run_zero (htt e te hte) hz w I (vphi φ x')
        have hzr := hrc.zeros (by omega) len
        have hvs : z.length = v.cells.size := hrc.1
        refine ⟨Builtin.zeroCells v.cells len, ⟨by simp [Builtin.zeroCells, ← hvs, hzl], hzr.2.1, fun i _ => hzl, fun i k c u hi hc e => ?_⟩, fun a cap w' ha hst => hex ρr w w' _ ?_⟩
        · refine hzr.2.2 (i * te.size + k) c u ?_ e
          have hk : k < te.size := by
            have := (List.getElem?_eq_some_iff.1 hc).1
            omega
          have hp := idx_lt hi hk
          unfold AM.zeros
          rw [List.getElem?_map, List.getElem?_range (by rw [hzl]; exact hp)]
          simp only [Option.map_some, Option.some.injEq]
          have : (i * te.size + k) % z.length = k := by
            rw [hzl, Nat.mul_comm, Nat.mul_add_mod, Nat.mod_eq_of_lt hk]
          rw [this, List.getD, hc, Option.getD_some]
        · rw [ha]
          obtain ⟨n, rfl⟩ : ∃ n, len = n + 1 := ⟨len - 1, by omega⟩
          cases a with
          | none =>
            simp only [Sem.run_pure] at hst
            cases hst
            simp [Builtin.clear_, ht0, hu, hd]
          | some a =>
            simp only at hst
            simp [Builtin.clear_, ht0, hu, hd, hv, hst]
      split at h
      · rename_i sz' es hb
        obtain ⟨hle, h⟩ := cond_some h
        have hle := Nat.le_of_ble_eq_true hle
        have hrl : (List.replicate len z).length = len := by simp
        · refine over_ok (rd := rd) hm1 hax h1sz (m := len) (Nat.le_refl _) htup (.arr true sz' (es.take off ++ (List.replicate len z ++ es.drop (off + len)))) (hsrc h1sz _) rfl rfl (by rw [hb]; rfl) (by rw [hb]; rfl) (by rw [hb]; rfl) (fun φ => by rw [hb]; rfl) ?_ ?_ ?_ h
          · intro h1
            rw [hb]
            exact elem_list (by omega)
          · intro i cs' e'
            rw [hb]
            simp only [elemAt] at e' ⊢
            have := splice_list (es := es) (ns := List.replicate len z) (p := off) (by omega) i
            rw [hrl] at this
            rw [this] at e'
            split at e'
            · rename_i hpi
              refine .inl ⟨hpi.1, hpi.2, ?_⟩
              rw [List.getElem?_replicate, if_pos (by omega)] at e'
              cases e'; rfl
            · rename_i hpi
              exact .inr ⟨hpi, e'⟩
          · intro h0; omega
      · rename_i sz' mm f hb
        obtain ⟨hle, h⟩ := cond_some h
        have hle := Nat.le_of_ble_eq_true hle
        · refine over_ok (rd := rd) hm1 hax h1sz (m := len) (Nat.le_refl _) htup (.seq true sz' mm fun i => bif Nat.blt i off then f i else bif Nat.blt i (off + len) then z else f i) (hsrc h1sz _) rfl rfl (by rw [hb]; rfl) (by rw [hb]; rfl) (by rw [hb]; rfl) (fun φ => by rw [hb]; rfl) ?_ ?_ ?_ h
          · intro h1
            rw [hb]
            simp only [elemAt]
            rw [if_pos (by omega)]
            exact ⟨_, rfl⟩
          · intro i cs' e'
            rw [hb]
            simp only [elemAt] at e' ⊢
            split at e'
            · rename_i hi
              simp only [Option.some.injEq] at e'
              by_cases h1 : i < off
              · have : Nat.blt i off = true := by rw [Nat.blt_eq]; exact h1
                rw [this, cond_true] at e'
                exact .inr ⟨by omega, by rw [if_pos hi, e']⟩
              · have hbf : Nat.blt i off = false := by
                  cases hq : Nat.blt i off with
                  | false => rfl
                  | true => rw [Nat.blt_eq] at hq; omega
                rw [hbf, cond_false] at e'
                by_cases h2 : i < off + len
                · have : Nat.blt i (off + len) = true := by rw [Nat.blt_eq]; exact h2
                  rw [this, cond_true] at e'
                  exact .inl ⟨by omega, h2, e'.symm⟩
                · have hbf2 : Nat.blt i (off + len) = false := by
                    cases hq : Nat.blt i (off + len) with
                    | false => rfl
                    | true => rw [Nat.blt_eq] at hq; omega
                  rw [hbf2, cond_false] at e'
                  exact .inr ⟨by omega, by rw [if_pos hi, e']⟩
            · cases e'
          · intro h0; omega
      · cases h
  · cases h

theorem abnum_ok (ho : o.op = .call c) (hc : c.callee = .builtin b) {args : List AV} (hargs : c.args.toList.map ρ = args) {ts : List TypeId} (hts : c.argTypes.toList = ts)
    (hb : b = .complex ∨ b = .real ∨ b = .imag ∨ b = .min ∨ b = .max) (h : abuiltK tt rd nx b ts args k = some r) : Good P o ρ rd k r := by
  have one : ∀ {x v : AV}, args = [x] → k v [] [] = some r → (∀ (w : World) (I : Nat → Prop) (φ : Phi) (u : Value) cs, RV w I φ x u → ∃ u', (builtin b c.argTypes o.type cs #[u]).run P w = .ok (.value u') w ∧ RV w I φ v u') → Good P o ρ rd k r := by
    intro x v e hk hr
    rw [e] at hargs
    obtain ⟨oa, hab, hax⟩ := args1 hargs
    refine Good.pure hk fun ρr w φ I hx => ?_
    obtain ⟨cs, hex⟩ := exec_builtin (P := P) ho hc ρr w
    have := hx oa (by simp [ho, Op.operands, Call.operands, hc, hab])
    rw [hax] at this
    obtain ⟨u', h1, h2⟩ := hr w I φ _ cs this
    exact ⟨u', by rw [hex, hab]; simpa using h1, h2⟩
  have two : ∀ {x y v : AV}, args = [x, y] → k v [] [] = some r → (∀ (w : World) (I : Nat → Prop) (φ : Phi) (u u2 : Value) cs, RV w I φ x u → RV w I φ y u2 → ∃ u', (builtin b c.argTypes o.type cs #[u, u2]).run P w = .ok (.value u') w ∧ RV w I φ v u') → Good P o ρ rd k r := by
    intro x y v e hk hr
    rw [e] at hargs
    obtain ⟨oa, ob, hab, hax, hbx⟩ := args2 hargs
    refine Good.pure hk fun ρr w φ I hx => ?_
    obtain ⟨cs, hex⟩ := exec_builtin (P := P) ho hc ρr w
    have g1 := hx oa (by simp [ho, Op.operands, Call.operands, hc, hab])
    have g2 := hx ob (by simp [ho, Op.operands, Call.operands, hc, hab])
    rw [hax] at g1
    rw [hbx] at g2
    obtain ⟨u', h1, h2⟩ := hr w I φ _ _ cs g1 g2
    exact ⟨u', by rw [hex, hab]; simpa using h1, h2⟩
  rcases hb with rfl | rfl | rfl | rfl | rfl
  · cases args with
    | nil => cases h
    | cons x l => cases l with
      | nil => cases x <;> cases h
      | cons y l => cases l with
        | cons z l => cases x <;> cases y <;> cases h
        | nil =>
          cases x <;> try (cases h; done)
          cases y <;> try (cases h; done)
          rename_i kd a kd' a'
          have h : (bif fkindEq kd kd' then k (.cplx kd a a') [] [] else none) = some r := h
          obtain ⟨hkd, h2⟩ := cond_some h
          have hkd : kd = kd' := of_decide_eq_true hkd
          clear h
          subst hkd
          refine two rfl h2 fun w I φ u u2 cs g1 g2 => ?_
          cases g1; cases g2
          refine ⟨.complex kd a a', ?_, .cplx _ _ _⟩
          show (do let r ← ((if kd = kd then pure (Value.complex kd a a') else stuck _ : Sem Value)); pure (Next.value r) : Sem Next).run P w = _
          rw [if_pos rfl]
          rfl
  · cases args with
    | nil => cases h
    | cons x l => cases l with
      | cons y l => cases x <;> cases h
      | nil =>
        cases x <;> try (cases h; done)
        refine one rfl h fun w I φ u cs g1 => ?_
        cases g1
        exact ⟨_, rfl, .flt _ _⟩
  · cases args with
    | nil => cases h
    | cons x l => cases l with
      | cons y l => cases x <;> cases h
      | nil =>
        cases x <;> try (cases h; done)
        refine one rfl h fun w I φ u cs g1 => ?_
        cases g1
        exact ⟨_, rfl, .flt _ _⟩
  · cases args with
    | nil => cases h
    | cons x l => cases l with
      | nil => cases x <;> cases h
      | cons y l => cases l with
        | cons z l => cases x <;> cases y <;> cases h
        | nil =>
          cases x <;> try (cases h; done)
          cases y <;> try (cases h; done)
          rename_i kd a kd' a'
          refine two rfl h fun w I φ u u2 cs g1 g2 => ?_
          cases g1; cases g2
          refine ⟨.int kd (if a' < a then a' else a), by simp [builtin, Builtin.min_, Builtin.min2], ?_⟩
          cases hd : decide (a' < a) with
          | true => rw [if_pos (of_decide_eq_true hd)]; exact .int _ _
          | false => rw [if_neg (of_decide_eq_false hd)]; exact .int _ _
  · cases args with
    | nil => cases h
    | cons x l => cases l with
      | nil => cases x <;> cases h
      | cons y l => cases l with
        | cons z l => cases x <;> cases y <;> cases h
        | nil =>
          cases x <;> try (cases h; done)
          cases y <;> try (cases h; done)
          rename_i kd a kd' a'
          refine two rfl h fun w I φ u u2 cs g1 g2 => ?_
          cases g1; cases g2
          refine ⟨.int kd (if a' > a then a' else a), by simp [builtin, Builtin.max_, Builtin.max2], ?_⟩
          cases hd : decide (a < a') with
          | true => rw [if_pos (show a' > a from of_decide_eq_true hd)]; exact .int _ _
          | false => rw [if_neg (show ¬ a' > a from of_decide_eq_false hd)]; exact .int _ _

end
end Go.AM
