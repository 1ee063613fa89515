/- Slicing; what is made anew: slices, maps, literals. -/
import Derived.Test.YtnioalecffkedaaAm11
set_option linter.unusedVariables false
set_option linter.unusedSimpArgs false
namespace Go.AM

variable {R : Type}

section
variable {P : Program} {tt : TT} {ρ : Operand → AV} {rd : Nat → BS} {nx : Nat} {k : AopK R} {r : R} {o : Oper}

theorem boundK_some {x : Option AV} {d y : Nat} {k : Nat → Option R} {r : R} (h : boundK x d y k = some r) :
    (x = none ∧ k d = some r) ∨ ∃ kd i, x = some (.int kd i) ∧ 0 ≤ i ∧ i ≤ (y : Int) ∧ k i.toNat = some r := by
  unfold boundK at h
  split at h
  · exact .inl ⟨rfl, h⟩
  · obtain ⟨h1, h2⟩ := cond_some h
    obtain ⟨h3, h4⟩ := and_true' h1
    exact .inr ⟨_, _, rfl, of_decide_eq_true h3, of_decide_eq_true h4, h2⟩
  · cases h

theorem run_sliceBound {kd : IntKind} {i : Int} {y : Nat} (h0 : 0 ≤ i) (h1 : i ≤ (y : Int)) (c : BoundsCode) (w : World) : (Instr.sliceBound (.int kd i) y c).run P w = .ok i.toNat w := by
  simp [Instr.sliceBound, asIntOf, h0, h1]

/-- the bounds of a slice expression; cap: the model's capacity, that may be more -/
theorem bounds_ok {lo hi mx : Option Operand} {len cm : Nat} {k : Nat → Nat → Nat → Option R} {r : R} (hg : (mx.isSome && hi.isNone) = false) (hlen : len ≤ cm)
    (h : boundsK (lo.map ρ) (hi.map ρ) (mx.map ρ) len cm k = some r) :
    ∃ l hh m, k l hh m = some r ∧ l ≤ hh ∧ hh ≤ m ∧ m ≤ cm ∧ ∀ (ρr : Operand → Value) (w : World) (I : Nat → Prop) (φ : Phi) (b : Bool) (cap : Nat), cm ≤ cap →
      (∀ x, x ∈ lo → RV w I φ (ρ x) (ρr x)) → (∀ x, x ∈ hi → RV w I φ (ρ x) (ρr x)) → (∀ x, x ∈ mx → RV w I φ (ρ x) (ρr x)) →
      (Instr.sliceBounds b len cap (lo.map ρr) (hi.map ρr) (mx.map ρr)).run P w = .ok (l, hh, if mx.isSome then m else cap) w := by
  unfold boundsK at h
  have hint : ∀ {x : Operand} {kd i} {ρr : Operand → Value} {w : World} {I : Nat → Prop} {φ : Phi}, ρ x = .int kd i → RV w I φ (ρ x) (ρr x) → ρr x = .int kd i := by
    intro x kd i ρr w I φ e hx
    rw [e] at hx
    generalize ρr x = u at hx
    cases hx
    rfl
  have hN : ∀ {d y : Nat} {k : Nat → Option R} {r : R}, boundK none d y k = some r → k d = some r := fun h => by
    rcases boundK_some h with ⟨_, h'⟩ | ⟨_, _, e, _⟩
    · exact h'
    · cases e
  have hS : ∀ {x : Operand} {d y : Nat} {k : Nat → Option R} {r : R}, boundK (some (ρ x)) d y k = some r → ∃ kd i, ρ x = .int kd i ∧ 0 ≤ i ∧ i ≤ (y : Int) ∧ k i.toNat = some r := fun h => by
    rcases boundK_some h with ⟨e, _⟩ | ⟨kd, i, e, h1, h2, h3⟩
    · cases e
    · exact ⟨kd, i, by simpa using e, h1, h2, h3⟩
  cases mx with
  | none =>
    have hA := hN h
    cases hi with
    | none =>
      have hB := hN hA
      cases lo with
      | none =>
        have hC := hN hB
        exact ⟨0, len, cm, hC, by omega, hlen, Nat.le_refl _, fun ρr w I φ b cap hc _ _ _ => by simp [Instr.sliceBounds]⟩
      | some xl =>
        obtain ⟨kl, il, el, l0, l1, hC⟩ := hS hB
        refine ⟨il.toNat, len, cm, hC, by omega, hlen, Nat.le_refl _, fun ρr w I φ b cap hc h1 _ _ => ?_⟩
        have e := hint el (h1 xl rfl)
        simp [Instr.sliceBounds, e, run_sliceBound l0 l1]
    | some xh =>
      obtain ⟨kh, ih, eh, h0, h1, hB⟩ := hS hA
      cases lo with
      | none =>
        have hC := hN hB
        refine ⟨0, ih.toNat, cm, hC, by omega, by omega, Nat.le_refl _, fun ρr w I φ b cap hc _ h2 _ => ?_⟩
        have e := hint eh (h2 xh rfl)
        have hb : ih ≤ (cap : Int) := by omega
        cases b <;> simp [Instr.sliceBounds, e, run_sliceBound h0 hb]
      | some xl =>
        obtain ⟨kl, il, el, l0, l1, hC⟩ := hS hB
        refine ⟨il.toNat, ih.toNat, cm, hC, by omega, by omega, Nat.le_refl _, fun ρr w I φ b cap hc h1' h2 _ => ?_⟩
        have e := hint eh (h2 xh rfl)
        have e' := hint el (h1' xl rfl)
        have hb : ih ≤ (cap : Int) := by omega
        cases b <;> simp [Instr.sliceBounds, e, e', run_sliceBound h0 hb, run_sliceBound l0 l1]
  | some xm =>
    obtain ⟨km, im, em, m0, m1, hA⟩ := hS h
    cases hi with
    | none => cases hg
    | some xh =>
      obtain ⟨kh, ih, eh, h0, h1, hB⟩ := hS hA
      cases lo with
      | none =>
        have hC := hN hB
        refine ⟨0, ih.toNat, im.toNat, hC, by omega, by omega, by omega, fun ρr w I φ b cap hc _ h2 h3 => ?_⟩
        have e := hint eh (h2 xh rfl)
        have e2 := hint em (h3 xm rfl)
        have hb : im ≤ (cap : Int) := by omega
        cases b <;> simp [Instr.sliceBounds, e, e2, run_sliceBound m0 hb, run_sliceBound h0 h1]
      | some xl =>
        obtain ⟨kl, il, el, l0, l1, hC⟩ := hS hB
        refine ⟨il.toNat, ih.toNat, im.toNat, hC, by omega, by omega, by omega, fun ρr w I φ b cap hc h1' h2 h3 => ?_⟩
        have e := hint eh (h2 xh rfl)
        have e2 := hint em (h3 xm rfl)
        have e' := hint el (h1' xl rfl)
        have hb : im ≤ (cap : Int) := by omega
        cases b <;> simp [Instr.sliceBounds, e, e2, e', run_sliceBound m0 hb, run_sliceBound h0 h1, run_sliceBound l0 l1]

theorem aop_slice (htt : TTok P tt) {t : TypeId} {x : Operand} {lo hi mx : Option Operand} (ho : o.op = .slice t x lo hi mx) (h : aopK tt ρ rd nx (.slice t x lo hi mx) k = some r) : Good P o ρ rd k r := by
  simp only [aopK] at h
  obtain ⟨hg, h⟩ := ncond_some h
  obtain ⟨ti, hti, h⟩ := onK_some h
  have hm : x ∈ o.op.operands := by simp [ho, Op.operands]
  have hml : ∀ y, y ∈ lo → y ∈ o.op.operands := fun y hy => by simp [ho, Op.operands]; exact .inr (.inl (by simpa using hy))
  have hmh : ∀ y, y ∈ hi → y ∈ o.op.operands := fun y hy => by simp [ho, Op.operands]; exact .inr (.inr (.inl (by simpa using hy)))
  have hmm : ∀ y, y ∈ mx → y ∈ o.op.operands := fun y hy => by simp [ho, Op.operands]; exact .inr (.inr (.inr (by simpa using hy)))
  have hu := run_underlying (htt t ti hti)
  split at h
  · rename_i s hd hx0
    split at h
    · obtain ⟨l, hh, m, hk, h1, h2, h3, hb⟩ := bounds_ok (P := P) (ρ := ρ) (mx := none) (by rfl) (Nat.le_refl s.length) h
      refine Good.pure hk fun ρr w φ I hx => ?_
      have hp := hx x hm
      rw [hx0] at hp
      generalize hux : ρr x = u at hp
      cases hp with
      | str b _ hs =>
        subst hs
        have hb' := hb ρr w I φ false b.size (Nat.le_refl _) (fun y hy => hx y (hml y hy)) (fun y hy => hx y (hmh y hy)) (fun y hy => by cases hy)
        refine ⟨.string (b.extract l hh), ?_, .str _ _ ?_⟩
        · have hb'' : (Instr.sliceBounds false b.size b.size (lo.map ρr) (hi.map ρr) none).run P w = .ok (l, hh, b.size) w := hb'
          simp [execOp, ho, hux, Instr.sliceAt, hu, hd, Instr.slice, hb'']
        · simp [ByteArray.data_extract, Array.toList_extract, List.extract_eq_take_drop]
    · cases h
  · rename_i x0 e hd
    obtain ⟨te, hte, h⟩ := onK_some h
    have hrun : ∀ (ρr : Operand → Value) (w : World) (a : Option Addr) (n cap l hh m : Nat), ρr x = .slice a n cap →
        (Instr.sliceBounds true n cap (lo.map ρr) (hi.map ρr) (mx.map ρr)).run P w = .ok (l, hh, m) w →
        (execOp ρr o).run P w = .ok (.value (.slice (if m = l then a else a.map (·.add (l * te.size))) (hh - l) (m - l))) w := by
      intro ρr w a n cap l hh m e1 e2
      simp [execOp, ho, e1, Instr.sliceAt, hu, hd, Instr.slice, e2, run_sizeOf (htt e te hte)]
    split at h
    · rename_i sz b off len cm hx0
      obtain ⟨hsz, h2⟩ := cond_some h
      clear h
      have hsz := Nat.eq_of_beq_eq_true hsz
      have hlc : len ≤ cm ∨ ∀ (w : World) (I : Nat → Prop) (φ : Phi) (u : Value), ¬ RV w I φ (.sl sz b off len cm) u := by
        rcases Nat.lt_or_ge cm len with hlt | hge
        · right; intro w I φ u hv; cases hv with
          | sl _ _ _ _ _ _ _ _ _ _ _ hl => omega
          | sle => omega
        · exact .inl hge
      rcases hlc with hlc | hno
      · obtain ⟨l, hh, m, hk, h1, h2', h3, hb⟩ := bounds_ok (P := P) (ρ := ρ) hg hlc h2
        refine Good.pure hk fun ρr w φ I hx => ?_
        have hp := hx x hm
        rw [hx0] at hp
        generalize hux : ρr x = u at hp
        have hbb : ∀ cap, cm ≤ cap → (Instr.sliceBounds true len cap (lo.map ρr) (hi.map ρr) (mx.map ρr)).run P w = .ok (l, hh, if mx.isSome then m else cap) w := fun cap hc =>
          hb ρr w I φ true cap hc (fun y hy => hx y (hml y hy)) (fun y hy => hx y (hmh y hy)) (fun y hy => hx y (hmm y hy))
        cases hp with
        | sl _ _ B ob _ _ _ cap q hφ hq hl hc hs =>
          refine ⟨_, hrun ρr w _ len cap l hh _ hux (hbb cap hc), ?_⟩
          have hmcap : m ≤ (if mx.isSome then m else cap) ∧ (if mx.isSome then m else cap) ≤ cap := by split <;> omega
          generalize hM : (if mx.isSome then m else cap) = M at hmcap
          by_cases hml' : M = l
          · rw [if_pos hml']
            have e1 : hh - l = 0 := by omega
            have e2 : m - l = 0 := by omega
            have e3 : M - l = 0 := by omega
            rw [e1, e2, e3]
            exact .sle sz b _ _
          · rw [if_neg hml']
            simp only [Option.map_some, add_none]
            refine .sl sz b B ob (off + l) (hh - l) (m - l) (M - l) _ hφ ?_ (by omega) (by omega) ?_
            · rw [hq, ← hsz, Nat.add_mul]; omega
            · refine Nat.le_trans ?_ hs
              have : off + l + (M - l) ≤ off + cap := by omega
              exact Nat.add_le_add_left (Nat.mul_le_mul_right sz this) ob
        | sle _ _ _ a =>
          have hl0 : l = 0 := by omega
          have hh0 : hh = 0 := by omega
          have hm0 : m = 0 := by omega
          refine ⟨_, hrun ρr w _ 0 0 l hh _ hux (hbb 0 (Nat.le_refl 0)), ?_⟩
          subst hl0; subst hh0; subst hm0
          simp
          exact .sle sz b _ _
      · -- no such value
        rcases boundK_some (R := R) (x := mx.map ρ) (d := cm) (y := cm) (r := r) (by exact h2) with ⟨_, h3⟩ | ⟨km, im, _, _, _, h3⟩
        all_goals
          rcases boundK_some h3 with ⟨_, h4⟩ | ⟨kh, ih, _, _, _, h4⟩
          all_goals
            rcases boundK_some h4 with ⟨_, h5⟩ | ⟨kl, il, _, _, _, h5⟩
            all_goals
              refine ⟨_, [], [], h5, fun rd' ρr w φ I _ _ hh hx => ?_⟩
              have hp := hx x hm
              rw [hx0] at hp
              exact absurd hp (hno w I φ _)
    · rename_i sz es hx0
      obtain ⟨hsz, h2⟩ := cond_some h
      clear h
      have hsz := Nat.eq_of_beq_eq_true hsz
      cases mx with
      | some y =>
        obtain ⟨l, hh, m, hk, h1, h2', h3, hb⟩ := bounds_ok (P := P) (ρ := ρ) hg (Nat.le_refl es.length) h2
        obtain ⟨hm0, hk⟩ := cond_some hk
        have hm0 := Nat.eq_of_beq_eq_true hm0
        refine Good.pure hk fun ρr w φ I hx => ?_
        have hp := hx x hm
        rw [hx0] at hp
        generalize hux : ρr x = u at hp
        obtain ⟨a, cap, hu2, hcap⟩ : ∃ (a : Addr) (cap : Nat), u = .slice (some a) es.length cap ∧ es.length ≤ cap := by
          cases hp with
          | trl _ _ _ hp hz =>
            generalize es.length = nn at *
            cases hp with
            | tr _ _ _ B ob cap uf hI hn' => exact ⟨_, cap, rfl, hn'⟩
            | trn _ _ a => cases a with
              | none => exact absurd rfl hz
              | some a => exact ⟨_, 0, rfl, Nat.le_refl _⟩
        subst hu2
        have hbb : (Instr.sliceBounds true es.length cap (lo.map ρr) (hi.map ρr) (some (ρr y))).run P w = .ok (l, hh, m) w := by
          have := hb ρr w I φ true cap hcap (fun y hy => hx y (hml y hy)) (fun y hy => hx y (hmh y hy)) (fun y hy => hx y (hmm y hy))
          simpa using this
        refine ⟨_, hrun ρr w _ es.length cap l hh _ hux (by simpa using hbb), ?_⟩
        rw [show hh - l = 0 by omega, show m - l = 0 by omega]
        split <;> exact .sle sz noB 0 _
      | none =>
      obtain ⟨l, hh, m, hk, h1, h2', h3, hb⟩ := bounds_ok (P := P) (ρ := ρ) (mx := none) (by rfl) (Nat.le_refl es.length) h2
      refine Good.pure hk fun ρr w φ I hx => ?_
      have hp := hx x hm
      rw [hx0] at hp
      generalize hux : ρr x = u at hp
      have hbb : ∀ cap, es.length ≤ cap → (Instr.sliceBounds true es.length cap (lo.map ρr) (hi.map ρr) none).run P w = .ok (l, hh, cap) w := fun cap hc =>
        hb ρr w I φ true cap hc (fun y hy => hx y (hml y hy)) (fun y hy => hx y (hmh y hy)) (fun y hy => by cases hy)
      have hlen : ((es.drop l).take (hh - l)).length = hh - l := by simp; omega
      have hat : ∀ i, i < hh - l → ((es.drop l).take (hh - l)).getD i [] = es.getD (l + i) [] := by
        intro i hi
        simp only [List.getD, List.getElem?_take, if_pos hi, List.getElem?_drop]
      cases hp with
      | trl _ _ _ hp hz =>
        generalize hn : es.length = n at *
        generalize hf : (fun i => es.getD i []) = f at hp
        have hfe : ∀ i, f i = es.getD i [] := fun i => by rw [← hf]
        cases hp with
        | tr _ _ _ B ob cap uf hI hn' hlen' hc hh1 hr =>
          refine ⟨_, hrun ρr w _ n cap l hh _ hux (hbb cap hn'), .trl _ _ _ ?_ (by split <;> simp)⟩
          rw [hlen]
          by_cases hcl : cap = l
          · rw [if_pos hcl]
            have e1 : hh - l = 0 := by omega
            rw [e1]
            exact .tr sz 0 _ B ob _ uf (fun h => absurd h (Nat.lt_irrefl 0)) (Nat.zero_le _) (fun i hi => by omega) (fun i k c hi => by omega) (fun i k c hi => by omega) (fun i k c hi => by omega)
          · rw [if_neg hcl]
            simp only [Option.map_some, add_none]
            refine .tr sz _ _ B (ob + l * te.size) _ (fun i k => uf (l + i) k) (fun _ => hI (by omega)) (by omega) (fun i hi => ?_) (fun i k c hi e => ?_) (fun i k c hi e => ?_) (fun i k c hi e => ?_)
            · simp only [hat i hi]; rw [← hfe]; exact hlen' _ (by omega)
            · simp only [hat i hi] at e; rw [← hfe] at e
              rw [← hsz, show ob + l * sz + i * sz + k = ob + (l + i) * sz + k by rw [Nat.add_mul]; omega]
              exact hc (l + i) k c (by omega) e
            · simp only [hat i hi] at e; rw [← hfe] at e; exact hh1 (l + i) k c (by omega) e
            · simp only [hat i hi] at e; rw [← hfe] at e; exact hr (l + i) k c (by omega) e
        | trn =>
          have hl0 : l = 0 := by omega
          have hh0 : hh = 0 := by omega
          rename_i a
          have ha : a ≠ none := by rintro rfl; exact hz rfl
          refine ⟨_, hrun ρr w _ 0 0 l hh _ hux (hbb 0 (Nat.le_refl 0)), .trl _ _ _ ?_ (by subst hl0; simp [ha])⟩
          rw [hlen]
          subst hl0; subst hh0
          simp
          exact .trn _ _ _
    · rename_i sz n f hx0
      obtain ⟨hsz, h2⟩ := cond_some h
      clear h
      have hsz := Nat.eq_of_beq_eq_true hsz
      cases mx with
      | some y =>
        obtain ⟨l, hh, m, hk, h1, h2', h3, hb⟩ := bounds_ok (P := P) (ρ := ρ) hg (Nat.le_refl n) h2
        obtain ⟨hm0, hk⟩ := cond_some hk
        obtain ⟨hn0, hm0⟩ := and_true' hm0
        have hm0 := Nat.eq_of_beq_eq_true hm0
        refine Good.pure hk fun ρr w φ I hx => ?_
        have hp := hx x hm
        rw [hx0] at hp
        generalize hux : ρr x = u at hp
        obtain ⟨a, cap, hu2, hcap⟩ : ∃ (a : Addr) (cap : Nat), u = .slice (some a) n cap ∧ n ≤ cap := by
          cases hp with
          | tr _ _ _ B ob cap uf hI hn' => exact ⟨_, cap, rfl, hn'⟩
          | trn => cases hn0
        subst hu2
        have hbb : (Instr.sliceBounds true n cap (lo.map ρr) (hi.map ρr) (some (ρr y))).run P w = .ok (l, hh, m) w := by
          have := hb ρr w I φ true cap hcap (fun y hy => hx y (hml y hy)) (fun y hy => hx y (hmh y hy)) (fun y hy => hx y (hmm y hy))
          simpa using this
        refine ⟨_, hrun ρr w _ n cap l hh _ hux (by simpa using hbb), ?_⟩
        rw [show hh - l = 0 by omega, show m - l = 0 by omega]
        split <;> exact .sle sz noB 0 _
      | none =>
      obtain ⟨l, hh, m, hk, h1, h2', h3, hb⟩ := bounds_ok (P := P) (ρ := ρ) (mx := none) (by rfl) (Nat.le_refl n) h2
      refine Good.pure hk fun ρr w φ I hx => ?_
      have hp := hx x hm
      rw [hx0] at hp
      generalize hux : ρr x = u at hp
      have hbb : ∀ cap, n ≤ cap → (Instr.sliceBounds true n cap (lo.map ρr) (hi.map ρr) none).run P w = .ok (l, hh, cap) w := fun cap hc =>
        hb ρr w I φ true cap hc (fun y hy => hx y (hml y hy)) (fun y hy => hx y (hmh y hy)) (fun y hy => by cases hy)
      have hat : ∀ i, i < hh - l → (bif Nat.blt i (hh - l) then f (l + i) else f n) = f (l + i) := by
        intro i hi
        have : Nat.blt i (hh - l) = true := by rw [Nat.blt_eq]; exact hi
        rw [this]; rfl
      cases hp with
      | tr _ _ _ B ob cap uf hI hn' hlen' hc hh1 hr =>
        refine ⟨_, hrun ρr w _ n cap l hh _ hux (hbb cap hn'), ?_⟩
        by_cases hcl : cap = l
        · rw [if_pos hcl]
          have e1 : hh - l = 0 := by omega
          rw [e1]
          exact .tr sz 0 _ B ob _ uf (fun h => absurd h (Nat.lt_irrefl 0)) (Nat.zero_le _) (fun i hi => by omega) (fun i k c hi => by omega) (fun i k c hi => by omega) (fun i k c hi => by omega)
        · rw [if_neg hcl]
          simp only [Option.map_some, add_none]
          refine .tr sz _ _ B (ob + l * te.size) _ (fun i k => uf (l + i) k) (fun _ => hI (by omega)) (by omega) (fun i hi => ?_) (fun i k c hi e => ?_) (fun i k c hi e => ?_) (fun i k c hi e => ?_)
          · simp only [hat i hi]; exact hlen' _ (by omega)
          · simp only [hat i hi] at e
            rw [← hsz, show ob + l * sz + i * sz + k = ob + (l + i) * sz + k by rw [Nat.add_mul]; omega]
            exact hc (l + i) k c (by omega) e
          · simp only [hat i hi] at e; exact hh1 (l + i) k c (by omega) e
          · simp only [hat i hi] at e; exact hr (l + i) k c (by omega) e
      | trn =>
        have hl0 : l = 0 := by omega
        have hh0 : hh = 0 := by omega
        refine ⟨_, hrun ρr w _ 0 0 l hh _ hux (hbb 0 (Nat.le_refl 0)), ?_⟩
        subst hl0; subst hh0
        simp
        exact .trn _ _ _
    · rename_i hx0
      obtain ⟨l, hh, m, hk, h1, h2', h3, hb⟩ := bounds_ok (P := P) (ρ := ρ) hg (Nat.le_refl 0) h
      refine Good.pure hk fun ρr w φ I hx => ?_
      have hp := hx x hm
      rw [hx0] at hp
      generalize hux : ρr x = u at hp
      cases hp
      have hl0 : l = 0 := by omega
      have hh0 : hh = 0 := by omega
      have hm0 : m = 0 := by omega
      have hb' := hb ρr w I φ true 0 (Nat.le_refl _) (fun y hy => hx y (hml y hy)) (fun y hy => hx y (hmh y hy)) (fun y hy => hx y (hmm y hy))
      refine ⟨_, hrun ρr w _ 0 0 l hh _ hux hb', ?_⟩
      subst hl0; subst hh0; subst hm0
      simp
      exact .nils
    · cases h
  · cases h

end
end Go.AM
