/- Operators and conversions, as operations. -/
import Derived.Test.YtnioalecffkedaaAm8
set_option linter.unusedVariables false
set_option linter.unusedSimpArgs false
namespace Go.AM

variable {R : Type}

section
variable {P : Program} {tt : TT} {ρ : Operand → AV} {rd : Nat → BS} {nx : Nat} {k : AopK R} {r : R} {o : Oper}

theorem guard_plain (op : BinOp) (t : TypeId) (p q : Operand) (u v : Value) (w : World) (h : (∀ c, u ≠ .agg c) ∧ u ≠ .nilIface) : (eqGuard op t p q u v).run P w = .ok () w := by
  have hfin : ∀ (X : Sem Unit) (Y : Array Value → Array Value → Sem Unit), Sem.run P (match u, v with
      | .nilIface, .nilIface => X
      | .agg a, .agg b => Y a b
      | _, _ => pure ()) w = .ok () w := by
    intro X Y
    split
    · exact absurd rfl h.2
    · exact absurd rfl (h.1 _)
    · rfl
  cases op <;> first | rfl | (simp only [eqGuard, Bool.not_true, Bool.false_eq_true, if_false]; exact hfin _ _)

theorem float_res {k : FloatKind} {c : Option Nat} {x : Nat} (h : c = some x) (a b : Nat) (w : World) :
    (match c with | some r => (pure (.float k r) : Sem Value) | none => do pure (.float k (← choose (.nanBits k a b)))).run P w = .ok (.float k x) w := by
  subst h; rfl

theorem aop_binOp (htt : TTok P tt) {op : BinOp} {t t2 : TypeId} {x y : Operand} (ho : o.op = .binOp op t x y t2) (h : aopK tt ρ rd nx (.binOp op t x y t2) k = some r) : Good P o ρ rd k r := by
  simp only [aopK] at h
  have hm : x ∈ o.op.operands := by simp [ho, Op.operands]
  have hm2 : y ∈ o.op.operands := by simp [ho, Op.operands]
  have hex : ∀ (ρr : Operand → Value) (w : World) (u : Value), (eqGuard op t x y (ρr x) (ρr y)).run P w = .ok () w → (binOp op t (ρr x) (ρr y)).run P w = .ok u w → (execOp ρr o).run P w = .ok (.value u) w := by
    intro ρr w u h1 h2
    simp only [execOp, ho, Sem.run_bind, h1, h2, Result.andThen_ok, Sem.run_pure]
  unfold abinK at h
  split at h
  · rename_i kd a kd' b hx0 hy0
    have hval : ∀ {v : AV} {u : Value}, k v [] [] = some r → (∀ w, (binOp op t (.int kd a) (.int kd' b)).run P w = .ok u w) → (∀ w I φ, RV w I φ v u) → Good P o ρ rd k r := by
      intro v u hk hrun hrv
      refine Good.pure hk fun ρr w φ I hx => ⟨u, ?_, hrv w I φ⟩
      have h1 := hx x hm
      have h2 := hx y hm2
      rw [hx0] at h1
      rw [hy0] at h2
      generalize hu : ρr x = ux at h1
      generalize hv : ρr y = uy at h2
      cases h1
      cases h2
      refine hex ρr w u ?_ ?_
      · rw [hu, hv]; exact guard_plain op t x y _ _ w ⟨fun c e => (by cases e), fun e => (by cases e)⟩
      · rw [hu, hv]; exact hrun w
    split at h
    · obtain ⟨hb, h⟩ := ncond_some h
      have hb := of_decide_eq_false hb
      exact hval h (fun w => by simp [binOp, Op.shift, hb]) fun w I φ => .int _ _
    · obtain ⟨hb, h⟩ := ncond_some h
      have hb := of_decide_eq_false hb
      exact hval h (fun w => by simp [binOp, Op.shift, hb]) fun w I φ => .int _ _
    · rename_i hn1 hn2
      obtain ⟨hk, h2⟩ := cond_some h
      clear h
      cases kindEq_iff hk
      have h := h2
      clear h2
      split at h
      · exact hval h (fun w => by simp [binOp, Op.intArith]) fun w I φ => .int _ _
      · exact hval h (fun w => by simp [binOp, Op.intArith]) fun w I φ => .int _ _
      · exact hval h (fun w => by simp [binOp, Op.intArith]) fun w I φ => .int _ _
      · obtain ⟨hb, h⟩ := ncond_some h
        have hb := of_decide_eq_false hb
        exact hval h (fun w => by simp [binOp, Op.intDiv, hb]) fun w I φ => .int _ _
      · obtain ⟨hb, h⟩ := ncond_some h
        have hb := of_decide_eq_false hb
        exact hval h (fun w => by simp [binOp, Op.intDiv, hb]) fun w I φ => .int _ _
      · exact hval h (fun w => by simp [binOp, Op.intBits]) fun w I φ => .int _ _
      · exact hval h (fun w => by simp [binOp, Op.intBits]) fun w I φ => .int _ _
      · exact hval h (fun w => by simp [binOp, Op.intBits]) fun w I φ => .int _ _
      · exact hval h (fun w => by simp [binOp, Op.intBits]) fun w I φ => .int _ _
      · obtain ⟨c, hc, h⟩ := obK_some h
        refine hval h (fun w => ?_) fun w I φ => .bool _
        have := run_intCmp (P := P) hc w
        unfold cmpI at hc
        split at hc <;> first | (cases hc; done) | (simpa [binOp] using this)
  · rename_i kd a kd' b hx0 hy0
    obtain ⟨hk, h2⟩ := cond_some h
    clear h
    cases fkindEq_iff hk
    have h := h2
    clear h2
    have hval : ∀ {v : AV} {u : Value}, k v [] [] = some r → (∀ w, (binOp op t (.float kd a) (.float kd b)).run P w = .ok u w) → (∀ w I φ, RV w I φ v u) → Good P o ρ rd k r := by
      intro v u hk hrun hrv
      refine Good.pure hk fun ρr w φ I hx => ⟨u, ?_, hrv w I φ⟩
      have h1 := hx x hm
      have h2 := hx y hm2
      rw [hx0] at h1
      rw [hy0] at h2
      generalize hu : ρr x = ux at h1
      generalize hv : ρr y = uy at h2
      cases h1
      cases h2
      refine hex ρr w u ?_ ?_
      · rw [hu, hv]; exact guard_plain op t x y _ _ w ⟨fun c e => (by cases e), fun e => (by cases e)⟩
      · rw [hu, hv]; exact hrun w
    split at h
    · obtain ⟨c, hc, h⟩ := onK_some h
      exact hval h (fun w => by simp [binOp, Op.floatArith, hc]) fun w I φ => .flt _ _
    · obtain ⟨c, hc, h⟩ := onK_some h
      exact hval h (fun w => by simp [binOp, Op.floatArith, hc]) fun w I φ => .flt _ _
    · obtain ⟨c, hc, h⟩ := onK_some h
      exact hval h (fun w => by simp [binOp, Op.floatArith, hc]) fun w I φ => .flt _ _
    · obtain ⟨c, hc, h⟩ := onK_some h
      exact hval h (fun w => by simp [binOp, Op.floatArith, hc]) fun w I φ => .flt _ _
    · obtain ⟨c, hc, h⟩ := obK_some h
      refine hval h (fun w => ?_) fun w I φ => .bool _
      have := run_floatCmp (P := P) hc w
      unfold cmpF at hc
      split at hc <;> first | (cases hc; done) | (simpa [binOp] using this)
  · rename_i kd a b kd' c d hx0 hy0
    obtain ⟨hk, h2⟩ := cond_some h
    clear h
    cases fkindEq_iff hk
    have h := h2
    clear h2
    have hval : ∀ {v : AV} {u : Value}, k v [] [] = some r → (∀ w, (binOp op t (.complex kd a b) (.complex kd c d)).run P w = .ok u w) → (∀ w I φ, RV w I φ v u) → Good P o ρ rd k r := by
      intro v u hk hrun hrv
      refine Good.pure hk fun ρr w φ I hx => ⟨u, ?_, hrv w I φ⟩
      have h1 := hx x hm
      have h2 := hx y hm2
      rw [hx0] at h1
      rw [hy0] at h2
      generalize hu : ρr x = ux at h1
      generalize hv : ρr y = uy at h2
      cases h1
      cases h2
      refine hex ρr w u ?_ ?_
      · rw [hu, hv]; exact guard_plain op t x y _ _ w ⟨fun c e => (by cases e), fun e => (by cases e)⟩
      · rw [hu, hv]; exact hrun w
    split at h
    · refine hval h (fun w => ?_) fun w I φ => .bool _
      simp [binOp, Op.complexOp, Op.Complex.cmp, Op.floatCmp, asBool, fEq, isO_eq]
    · refine hval h (fun w => ?_) fun w I φ => .bool _
      simp [binOp, Op.complexOp, Op.Complex.cmp, Op.floatCmp, asBool, fEq, isO_eq]
    · cases h
  · rename_i a b hx0 hy0
    have hval : ∀ {v : AV} (u : ByteArray → ByteArray → Value), k v [] [] = some r → (∀ w (s s' : ByteArray), a = s.data.toList → b = s'.data.toList → (binOp op t (.string s) (.string s')).run P w = .ok (u s s') w ∧ ∀ I φ, RV w I φ v (u s s')) → Good P o ρ rd k r := by
      intro v u hk hrun
      refine Good.pure hk fun ρr w φ I hx => ?_
      have h1 := hx x hm
      have h2 := hx y hm2
      rw [hx0] at h1
      rw [hy0] at h2
      generalize hu : ρr x = ux at h1
      generalize hv : ρr y = uy at h2
      cases h1 with
      | str s _ hs => cases h2 with
        | str s' _ hs' =>
          obtain ⟨g1, g2⟩ := hrun w s s' hs hs'
          refine ⟨u s s', hex ρr w _ ?_ ?_, g2 I φ⟩
          · rw [hu, hv]; exact guard_plain op t x y _ _ w ⟨fun c e => (by cases e), fun e => (by cases e)⟩
          · rw [hu, hv]; exact g1
    split at h
    · obtain ⟨hl, h⟩ := cond_some h
      have hl := Nat.le_of_ble_eq_true hl
      refine hval (fun s s' => .string (s ++ s')) h fun w s s' hs hs' => ⟨?_, fun I φ => .str _ _ ?_⟩
      · subst hs; subst hs'
        have : ¬ (((s.size + s'.size : Nat) : Int) > IntKind.i64.max) := by
          have h1 : s.data.toList.length = s.size := rfl
          have h2 : s'.data.toList.length = s'.size := rfl
          have : IntKind.i64.max = 9223372036854775807 := by decide
          rw [this]; omega
        simp only [binOp, Op.stringOp, this, if_false, Sem.run_pure]
      · subst hs; subst hs'; simp [ByteArray.data_append]
    · obtain ⟨c, hc, h⟩ := obK_some h
      refine hval (fun _ _ => .bool c) h fun w s s' hs hs' => ⟨?_, fun I φ => .bool c⟩
      have := run_strOp (P := P) hc s s' hs hs' w
      unfold cmpS at hc
      split at hc <;> first | (cases hc; done) | (simpa [binOp] using this)
  · rename_i hni hnf hnc hns
    have key : ∀ {b : Bool}, eqA tt t (ρ x) (ρ y) = some b → ∀ (ρr : Operand → Value) (w : World) (φ : Phi) (I : Nat → Prop), RV w I φ (ρ x) (ρr x) → RV w I φ (ρ y) (ρr y) →
        (op = .eql → (binOp op t (ρr x) (ρr y)).run P w = .ok (.bool b) w) ∧ (op = .neq → (binOp op t (ρr x) (ρr y)).run P w = .ok (.bool (!b)) w) := by
      intro b he ρr w φ I h1 h2
      have hr := (run_eqA htt he h1 h2).1
      have hnot : ¬ (∃ k a k' a', ρr x = .int k a ∧ ρr y = .int k' a') ∧ ¬ (∃ k a k' a', ρr x = .float k a ∧ ρr y = .float k' a') ∧
          ¬ (∃ k a b k' a' b', ρr x = .complex k a b ∧ ρr y = .complex k' a' b') ∧ ¬ (∃ a b, ρr x = .string a ∧ ρr y = .string b) := by
        have hxy : ρ x ≠ .undef ∧ ρ y ≠ .undef := by
          constructor
          · intro e; rw [e] at he; unfold eqA eq1 at he; split at he <;> first | (cases he; done) | (split at he <;> first | (cases he; done) | (split at he <;> first | (cases he; done) | (clear h1 h2 hr hex hm hm2 h; simp_all; done)))
          · intro e; rw [e] at he; unfold eqA eq1 at he; split at he <;> first | (cases he; done) | (split at he <;> first | (cases he; done) | (split at he <;> first | (cases he; done) | (clear h1 h2 hr hex hm hm2 h; simp_all; done)))
        have hi : ∀ (z : AV) k a, RV w I φ z (.int k a) → z ≠ .undef → z = .int k a := by
          intro z k a hz hne
          cases hz with
          | undef => exact absurd rfl hne
          | int => rfl
          | trl _ _ _ h => generalize hn : List.length _ = n at h; generalize (fun i => List.getD _ i _) = f at h; cases h
        have hf : ∀ (z : AV) k a, RV w I φ z (.float k a) → z ≠ .undef → z = .flt k a := by
          intro z k a hz hne
          cases hz with
          | undef => exact absurd rfl hne
          | flt => rfl
          | trl _ _ _ h => generalize hn : List.length _ = n at h; generalize (fun i => List.getD _ i _) = f at h; cases h
        have hc : ∀ (z : AV) k a b, RV w I φ z (.complex k a b) → z ≠ .undef → z = .cplx k a b := by
          intro z k a b hz hne
          cases hz with
          | undef => exact absurd rfl hne
          | cplx => rfl
          | trl _ _ _ h => generalize hn : List.length _ = n at h; generalize (fun i => List.getD _ i _) = f at h; cases h
        have hs : ∀ (z : AV) a, RV w I φ z (.string a) → z ≠ .undef → z = .str a.data.toList := by
          intro z a hz hne
          cases hz with
          | undef => exact absurd rfl hne
          | str _ _ e => rw [e]
          | trl _ _ _ h => generalize hn : List.length _ = n at h; generalize (fun i => List.getD _ i _) = f at h; cases h
        refine ⟨?_, ?_, ?_, ?_⟩
        · rintro ⟨k, a, k', a', e1, e2⟩
          rw [e1] at h1; rw [e2] at h2
          exact hni _ _ _ _ (hi _ _ _ h1 hxy.1) (hi _ _ _ h2 hxy.2)
        · rintro ⟨k, a, k', a', e1, e2⟩
          rw [e1] at h1; rw [e2] at h2
          exact hnf _ _ _ _ (hf _ _ _ h1 hxy.1) (hf _ _ _ h2 hxy.2)
        · rintro ⟨k, a, b, k', a', b', e1, e2⟩
          rw [e1] at h1; rw [e2] at h2
          exact hnc _ _ _ _ _ _ (hc _ _ _ _ h1 hxy.1) (hc _ _ _ _ h2 hxy.2)
        · rintro ⟨a, b, e1, e2⟩
          rw [e1] at h1; rw [e2] at h2
          exact hns _ _ (hs _ _ h1 hxy.1) (hs _ _ h2 hxy.2)
      obtain ⟨n1, n2, n3, n4⟩ := hnot
      constructor
      · rintro rfl
        have : binOp .eql t (ρr x) (ρr y) = (do pure (.bool (← Op.equal t (ρr x) (ρr y)))) := by
          generalize ρr x = u at n1 n2 n3 n4
          generalize ρr y = v at n1 n2 n3 n4
          unfold binOp
          split <;> first | rfl | (rename_i e _ _; cases e; done) | (exact absurd ⟨_, _, _, _, rfl, rfl⟩ n1) | (exact absurd ⟨_, _, _, _, rfl, rfl⟩ n2) | (exact absurd ⟨_, _, _, _, _, _, rfl, rfl⟩ n3) | (exact absurd ⟨_, _, rfl, rfl⟩ n4) | (simp_all; done)
        rw [this]
        simp [hr]
      · rintro rfl
        have : binOp .neq t (ρr x) (ρr y) = (do pure (.bool (!(← Op.equal t (ρr x) (ρr y))))) := by
          generalize ρr x = u at n1 n2 n3 n4
          generalize ρr y = v at n1 n2 n3 n4
          unfold binOp
          split <;> first | rfl | (rename_i e _ _; cases e; done) | (exact absurd ⟨_, _, _, _, rfl, rfl⟩ n1) | (exact absurd ⟨_, _, _, _, rfl, rfl⟩ n2) | (exact absurd ⟨_, _, _, _, _, _, rfl, rfl⟩ n3) | (exact absurd ⟨_, _, rfl, rfl⟩ n4) | (simp_all; done)
        rw [this]
        simp [hr]
    split at h
    · obtain ⟨b, hb, h⟩ := obK_some h
      refine Good.pure h fun ρr w φ I hx => ⟨_, hex ρr w _ ?_ ?_, .bool b⟩
      · exact (run_eqA htt hb (hx x hm) (hx y hm2)).2 _ x y
      · exact (key hb ρr w φ I (hx x hm) (hx y hm2)).1 rfl
    · obtain ⟨b, hb, h⟩ := obK_some h
      cases he : eqA tt t (ρ x) (ρ y) with
      | none => rw [he] at hb; cases hb
      | some b' =>
        rw [he] at hb
        cases hb
        refine Good.pure h fun ρr w φ I hx => ⟨_, hex ρr w _ ?_ ?_, .bool _⟩
        · exact (run_eqA htt he (hx x hm) (hx y hm2)).2 _ x y
        · exact (key he ρr w φ I (hx x hm) (hx y hm2)).2 rfl
    · cases h

theorem aop_unOp {op : UnOp} {t : TypeId} {x : Operand} (ho : o.op = .unOp op t x) (h : aopK tt ρ rd nx (.unOp op t x) k = some r) : Good P o ρ rd k r := by
  simp only [aopK] at h
  have hm : x ∈ o.op.operands := by simp [ho, Op.operands]
  unfold aunK at h
  split at h
  · rename_i kd n hx0
    refine Good.pure h fun ρr w φ I hx => ?_
    have hp := hx x hm
    rw [hx0] at hp
    generalize hu : ρr x = u at hp
    cases hp
    exact ⟨_, by simp [execOp, ho, hu, Op.unary, Op.intArith], .int _ _⟩
  · rename_i kd n hx0
    refine Good.pure h fun ρr w φ I hx => ?_
    have hp := hx x hm
    rw [hx0] at hp
    generalize hu : ρr x = u at hp
    cases hp
    exact ⟨_, by simp [execOp, ho, hu, Op.unary, Op.intBits, Nat.xor_comm], .int _ _⟩
  · rename_i b hx0
    refine Good.pure h fun ρr w φ I hx => ?_
    have hp := hx x hm
    rw [hx0] at hp
    generalize hu : ρr x = u at hp
    cases hp
    exact ⟨_, by simp [execOp, ho, hu, Op.unary], .bool _⟩
  · cases h

end
end Go.AM
