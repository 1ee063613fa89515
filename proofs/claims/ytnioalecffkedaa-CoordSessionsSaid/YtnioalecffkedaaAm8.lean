/- Operators and conversions. -/
import Derived.Test.YtnioalecffkedaaAm7
import Derived.Laws.StructEq
import Derived.Laws.Strings
set_option linter.unusedVariables false
set_option linter.unusedSimpArgs false
namespace Go.AM

variable {R : Type}

theorem strBeq_eq : ∀ (a b : List UInt8), strBeq a b = (a == b)
  | [], [] => rfl
  | [], _ :: _ => rfl
  | _ :: _, [] => rfl
  | a :: x, b :: y => by
    simp only [strBeq, strBeq_eq x y, List.cons_beq_cons]
    congr 1
    rw [Bool.eq_iff_iff, Nat.beq_eq]
    simp [UInt8.toNat_inj]

theorem strLt_eq : ∀ (a b : List UInt8), strLt a b = Op.bytesLess a b
  | [], [] => rfl
  | [], _ :: _ => rfl
  | _ :: _, [] => rfl
  | a :: x, b :: y => by
    simp only [strLt, Op.bytesLess, strLt_eq x y]
    have h1 : Nat.blt a.toNat b.toNat = decide (a < b) := by
      rw [Bool.eq_iff_iff, Nat.blt_eq]; simp [UInt8.lt_iff_toNat_lt]
    have h2 : Nat.beq a.toNat b.toNat = (a == b) := by
      rw [Bool.eq_iff_iff, Nat.beq_eq]; simp [UInt8.toNat_inj]
    rw [h1, h2]

theorem isO_eq (c : Option Ordering) (p : Ordering) : isO c p = (c == some p) := by
  cases c with
  | none => rfl
  | some c => cases c <;> cases p <;> rfl

theorem kindEq_iff {a b : IntKind} (h : kindEq a b = true) : a = b := of_decide_eq_true h
theorem fkindEq_iff {a b : FloatKind} (h : fkindEq a b = true) : a = b := of_decide_eq_true h

theorem boolEq_eq (a b : Bool) : boolEq a b = (a == b) := by cases a <;> cases b <;> rfl

theorem obK_some {b : Option Bool} {k : AV → Option R} {r : R} (h : obK b k = some r) : ∃ x, b = some x ∧ k (.bool x) = some r := by
  cases b with
  | none => cases h
  | some x => exact ⟨x, rfl, h⟩

section
variable {P : Program}

theorem run_strOp {op : BinOp} {a b : List UInt8} {x : Bool} (h : cmpS op a b = some x) (s s' : ByteArray) (hs : a = s.data.toList) (hs' : b = s'.data.toList) (w : World) :
    (Op.stringOp op s s').run P w = .ok (.bool x) w := by
  subst hs; subst hs'
  unfold cmpS at h
  split at h <;> cases h <;> simp [Op.stringOp, ByteArray.toList_eq, strBeq_eq, strLt_eq]

theorem run_intCmp {op : BinOp} {a b : Int} {x : Bool} (h : cmpI op a b = some x) (w : World) : (Op.intCmp op a b).run P w = .ok (.bool x) w := by
  unfold cmpI at h
  split at h <;> cases h <;> simp [Op.intCmp] <;> first | rfl | (rw [Bool.eq_iff_iff]; simp)

theorem run_floatCmp {op : BinOp} {k : FloatKind} {a b : Nat} {x : Bool} (h : cmpF op k a b = some x) (w : World) : (Op.floatCmp op k a b).run P w = .ok (.bool x) w := by
  unfold cmpF at h
  split at h <;> cases h <;> simp [Op.floatCmp, fEq, fLt, fGt, isO_eq, bne]

set_option maxHeartbeats 1000000 in
theorem run_eq1 {tt : TT} (htt : TTok P tt) {t : TypeId} {x y : AV} {b : Bool} (h : eq1 tt t x y = some b) {w : World} {I : Nat → Prop} {φ : Phi} {u v : Value}
    (hx : RV w I φ x u) (hy : RV w I φ y v) (d : Nat) : (Op.equalIn (d + 1) t u v).run P w = .ok b w := by
  unfold eq1 at h
  split at h
  · cases h
  · rename_i ti hti
    have hd := run_underlying (htt t ti hti) w
    split at h
    all_goals first | cases h | skip
    · rename_i e; rw [e] at hd; cases hx; cases hy; simp [Op.equalIn, hd, boolEq_eq]
    · rename_i e; rw [e] at hd; cases hx; cases hy
      obtain ⟨hk, h2⟩ := cond_some h
      clear h
      cases kindEq_iff hk
      cases h2
      simp [Op.equalIn, hd]
      rfl
    · rename_i e; rw [e] at hd; cases hx; cases hy
      obtain ⟨hk, h2⟩ := cond_some h
      clear h
      cases fkindEq_iff hk
      cases h2
      simp [Op.equalIn, hd, fEq, isO_eq, Op.floatEq]
    · rename_i e; rw [e] at hd; cases hx; cases hy
      obtain ⟨hk, h2⟩ := cond_some h
      clear h
      cases fkindEq_iff hk
      cases h2
      simp [Op.equalIn, hd, fEq, isO_eq, Op.floatEq]
    · rename_i e; rw [e] at hd; cases hx with
      | str s _ hs => cases hy with
        | str s' _ hs' => subst hs; subst hs'; simp [Op.equalIn, hd, strBeq_eq, beq_toListBytes, ByteArray.toList_eq]
    · rename_i e; rw [e] at hd; cases hx; cases hy; simp [Op.equalIn, hd]
    · rename_i e; rw [e] at hd; cases hx; cases hy; simp [Op.equalIn, hd]
    · rename_i e; rw [e] at hd; cases hx; cases hy; simp [Op.equalIn, hd]
    · rename_i e; rw [e] at hd; cases hx; cases hy; simp [Op.equalIn, hd]
    · rename_i e; rw [e] at hd; cases hx; cases hy; simp [Op.equalIn, hd]
    · rename_i e; rw [e] at hd; cases hx; cases hy; simp [Op.equalIn, hd]
    · rename_i e; rw [e] at hd; cases hx; cases hy with
      | trl _ _ _ hy hz => revert hy; generalize (fun i => List.getD _ i _) = f; generalize List.length _ = n; intro hy; cases hy <;> first | (simp [Op.equalIn, hd]; done) | (rename_i a; cases a <;> simp_all [Op.equalIn])
    · rename_i e; rw [e] at hd; cases hy; cases hx with
      | trl _ _ _ hx hz => revert hx; generalize (fun i => List.getD _ i _) = f; generalize List.length _ = n; intro hx; cases hx <;> first | (simp [Op.equalIn, hd]; done) | (rename_i a; cases a <;> simp_all [Op.equalIn])
    · rename_i e; rw [e] at hd; cases hx <;> cases hy <;> simp [Op.equalIn, hd]
    · rename_i e; rw [e] at hd; cases hy; cases hx <;> simp [Op.equalIn, hd]
    · rename_i e; rw [e] at hd; cases hx; cases hy; simp [Op.equalIn, hd]
    · rename_i e; rw [e] at hd; cases hx; cases hy; simp [Op.equalIn, hd]
    · rename_i e; rw [e] at hd; cases hx; cases hy; simp [Op.equalIn, hd]
    · rename_i e; rw [e] at hd; cases hx; cases hy; simp [Op.equalIn, hd]


theorem run_eqFields {tt : TT} (htt : TTok P tt) {xs ys : List AV} {w : World} {I : Nat → Prop} {φ : Phi} {us vs : Array Value} (hx : RC w I φ xs us) (hy : RC w I φ ys vs) (d : Nat) :
    ∀ (fs : List Field) {b : Bool}, fs.all (fun f => f.name != "_") = true → eqFields tt xs ys fs = some b → (Op.eqFields (d + 1) us vs fs).run P w = .ok b w
  | [], b, _, h => by cases h; rfl
  | f :: fs, b, hn, h => by
    simp only [List.all_cons, Bool.and_eq_true] at hn
    have hname : f.name ≠ "_" := by simpa using hn.1
    simp only [eqFields] at h
    split at h
    · rename_i x y hxo hyo
      split at h
      · rename_i a b' ha hb
        cases h
        have ih := run_eqFields htt hx hy d fs hn.2 hb
        unfold eqFields.eqPart at ha
        split at ha
        · rename_i ti hti
          obtain ⟨hag, ha⟩ : ti.agg = false ∧ eq1 tt f.type x y = some a := by
            cases hg : ti.agg with
            | true => rw [hg] at ha; cases ha
            | false => rw [hg] at ha; exact ⟨rfl, ha⟩
          have hu : f.offset < us.size := by
            rcases Nat.lt_or_ge f.offset xs.length with h | h
            · have := hx.1; omega
            · rw [List.getElem?_eq_none h] at hxo; cases hxo
          have hv : f.offset < vs.size := by
            rcases Nat.lt_or_ge f.offset ys.length with h | h
            · have := hy.1; omega
            · rw [List.getElem?_eq_none h] at hyo; cases hyo
          have hp1 : (part f.type us f.offset).run P w = .ok us[f.offset] w := by
            unfold part
            simp only [Sem.run_bind, run_isAgg (htt f.type ti hti), Result.andThen_ok, hag, Bool.false_eq_true, if_false, Array.getElem?_eq_getElem hu, Sem.run_pure]
          have hp2 : (part f.type vs f.offset).run P w = .ok vs[f.offset] w := by
            unfold part
            simp only [Sem.run_bind, run_isAgg (htt f.type ti hti), Result.andThen_ok, hag, Bool.false_eq_true, if_false, Array.getElem?_eq_getElem hv, Sem.run_pure]
          have he := run_eq1 htt ha (hx.2.2 _ _ _ hxo (Array.getElem?_eq_getElem hu)) (hy.2.2 _ _ _ hyo (Array.getElem?_eq_getElem hv)) d
          simp only [Op.eqFields, hname, ne_eq, not_false_eq_true, if_true, Sem.run_bind, hp1, hp2, he, Result.andThen_ok]
          cases a with
          | true => simp [ih]
          | false => simp
        · cases ha
      · cases h
    · cases h

theorem run_eqA {tt : TT} (htt : TTok P tt) {t : TypeId} {x y : AV} {b : Bool} (h : eqA tt t x y = some b) {w : World} {I : Nat → Prop} {φ : Phi} {u v : Value}
    (hx : RV w I φ x u) (hy : RV w I φ y v) : (Op.equal t u v).run P w = .ok b w ∧ ∀ (op : BinOp) (p q : Operand), (eqGuard op t p q u v).run P w = .ok () w := by
  unfold eqA at h
  split at h
  · rename_i xs ys
    split at h
    · rename_i ti hti
      split at h
      · rename_i fields hd
        obtain ⟨hst, h⟩ := ncond_some h
        obtain ⟨hn, h⟩ := cond_some h
        cases hx with
        | agg _ us hl1 h11 hr1 => cases hy with
          | agg _ vs hl2 h12 hr2 =>
            obtain ⟨i, hi, hs, hby, hdd, ha, hz, hstood, _⟩ := ti_spec (htt t ti hti)
            have hf : P.fieldsOf t = fields := by simp [Program.fieldsOf, hdd, hd]
            have hu : P.underlying t = some (.struct (P.fieldsOf t)) := by rw [hf, hdd, hd]
            have hgt : P.eqGuardType P.depth t = false := by
              have hdep : P.depth = (P.depth - 2) + 1 + 1 := by unfold Program.depth; omega
              rw [hdep]
              simp only [Program.eqGuardType, hdd, hd]
              rw [Array.any_eq_false]
              intro q hq
              have hmem : fields[q] ∈ fields.toList := by simp
              have hok : ∀ (fs : List Field) (b : Bool), eqFields tt xs ys fs = some b → ∀ f ∈ fs, ∃ tf, tt f.type = some tf ∧ tf.agg = false ∧ ∃ x y b, eq1 tt f.type x y = some b := by
                intro fs
                induction fs with
                | nil => intro b _ f hf; cases hf
                | cons g fs ih =>
                  intro b hb f hf
                  simp only [eqFields] at hb
                  split at hb
                  · split at hb
                    · rename_i a b' ha hb'
                      rcases List.mem_cons.1 hf with rfl | hf
                      · unfold eqFields.eqPart at ha
                        split at ha
                        · rename_i tf htf
                          cases hg : tf.agg with
                          | true => rw [hg] at ha; cases ha
                          | false => rw [hg] at ha; exact ⟨tf, htf, hg, _, _, _, ha⟩
                        · cases ha
                      · exact ih _ hb' f hf
                    · cases hb
                  · cases hb
              obtain ⟨tf, htf, hag, x1, y1, b1, he1⟩ := hok _ _ h _ hmem
              obtain ⟨i2, hi2, hs2, hby2, hdd2, ha2, hz2, hst2, _⟩ := ti_spec (htt _ tf htf)
              simp only [hdd2]
              unfold eq1 at he1
              rw [htf] at he1
              simp only at he1
              split at he1 <;> first | (rename_i e; simp [e]; done) | (cases he1; done)
            refine ⟨?_, fun op p q => run_eqGuard_agg (P := P) w op t p q us vs hgt⟩
            unfold Op.equal Op.maxDepth
            rw [run_equalIn_struct w 9999 t us vs hu (hstood ▸ hst), hf]
            exact run_eqFields htt ⟨hl1, h11, hr1⟩ ⟨hl2, h12, hr2⟩ 9998 _ hn h
      · cases h
    · cases h
  · rename_i hna
    refine ⟨run_eq1 htt h hx hy 9999, fun op p q => ?_⟩
    have hni : ∀ (z : AV) (u : Value), RV w I φ z u → u = .nilIface → z = .undef := by
      intro z u hz e
      subst e
      cases hz with
      | undef => rfl
      | trl _ _ _ h _ => generalize hn : List.length _ = n at h; generalize (fun i => List.getD _ i _) = f at h; cases h
    have hag : ∀ (z : AV) (u : Value) (c : Array Value), RV w I φ z u → u = .agg c → z = .undef ∨ ∃ cs, z = .agg cs := by
      intro z u c hz e
      subst e
      cases hz with
      | undef => exact .inl rfl
      | agg cs => exact .inr ⟨cs, rfl⟩
      | trl _ _ _ h _ => generalize hn : List.length _ = n at h; generalize (fun i => List.getD _ i _) = f at h; cases h
    have hxu : x ≠ .undef ∧ y ≠ .undef := by
      constructor
      · rintro rfl; unfold eq1 at h; split at h <;> first | (cases h; done) | (split at h <;> first | (clear hx hy hni hag hna; simp_all; done) | (cases h; done))
      · rintro rfl; unfold eq1 at h; split at h <;> first | (cases h; done) | (split at h <;> first | (clear hx hy hni hag hna; simp_all; done) | (cases h; done))
    have hfin : ∀ (X : Sem Unit) (Y : Array Value → Array Value → Sem Unit), Sem.run P (match u, v with
        | .nilIface, .nilIface => X
        | .agg a, .agg b => Y a b
        | _, _ => pure ()) w = .ok () w := by
      intro X Y
      split
      · exact absurd (hni x _ hx rfl) hxu.1
      · rcases hag x _ _ hx rfl with e | ⟨cs, e⟩
        · exact absurd e hxu.1
        · rcases hag y _ _ hy rfl with e' | ⟨cs', e'⟩
          · exact absurd e' hxu.2
          · exact (hna cs cs' e e').elim
      · rfl
    cases op <;> first | rfl | (simp only [eqGuard, Bool.not_true, Bool.false_eq_true, if_false]; exact hfin _ _)

end
end Go.AM
