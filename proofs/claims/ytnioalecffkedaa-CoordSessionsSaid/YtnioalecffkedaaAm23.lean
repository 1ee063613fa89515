/- Regions in text order. -/
import Derived.Test.YtnioalecffkedaaAm22
import Derived.Tactics
set_option linter.unusedVariables false
set_option linter.unusedSimpArgs false
namespace Go.AM

variable {R : Type}

def FrOk (w : World) (I : Nat → Prop) (φ : Phi) (fr : Nat → AV) (a : Act) : Prop := ∀ t, RV w I φ (fr t) (a.eval (.tmp t))

structure StOk (w : World) (I : Nat → Prop) (φ : Phi) (s : St) (a : Act) : Prop where
  hh : RH w I φ (hget s.hp)
  fr : FrOk w I φ (fget s.fr) a

theorem FrOk.eval {w : World} {I : Nat → Prop} {φ : Phi} {fr : Nat → AV} {a : Act} (h : FrOk w I φ fr a) (x : Operand) : RV w I φ (evalO fr x) (a.eval x) := by
  cases x with
  | tmp t => exact h t
  | const v => exact ofVal_ok w I φ v
  | global g => exact .undef _
  | func f => exact .fn _ [] [] #[] #[] rfl rfl (fun k x u e => by simp at e) (fun k x u e => by simp at e)

theorem FrOk.step {w w' : World} {I I' : Nat → Prop} {φ φ' : Phi} {rd rd' : Nat → BS} {base : Nat} {fr : Nat → AV} {a : Act} (h : FrOk w I φ fr a) (hh : RH w I φ rd) (s : Step base rd φ I w rd' φ' I' w') (le : Phi.le φ φ') :
    FrOk w' I' φ' fr a := fun t => (h t).step hh s le

theorem FrOk.put {w : World} {I : Nat → Prop} {φ : Phi} {fr : Fr} {a : Act} {d : Option Nat} {v : AV} {u : Value} (h : FrOk w I φ (fget fr) a) (hv : RV w I φ v u) (hd : dstOk a.tmps.size d = true) :
    FrOk w I φ (fget (fput fr d v)) (a.put d u) := by
  intro t
  cases d with
  | none => exact h t
  | some d =>
    have hd : d < a.tmps.size := by simpa [dstOk, Nat.blt_eq] using hd
    simp only [fput, fget, Act.put, Act.eval, Array.getD_eq_getD_getElem?]
    cases e : Nat.beq d t with
    | true =>
      have e := Nat.eq_of_beq_eq_true e
      subst e
      rw [cond_true, Array.getElem?_setIfInBounds_self_of_lt hd]
      exact hv
    | false =>
      have hne : d ≠ t := fun e' => by subst e'; simp at e
      rw [cond_false, Array.getElem?_setIfInBounds_ne hne]
      have := h t
      simp only [Act.eval, Array.getD_eq_getD_getElem?] at this
      exact this

theorem dstOk_le {n m : Nat} {d : Option Nat} (h : dstOk n d = true) (hl : n ≤ m) : dstOk m d = true := by
  cases d with
  | none => rfl
  | some d => simp only [dstOk, Nat.blt_eq] at h ⊢; omega

@[simp] theorem put_size (a : Act) (d : Option Nat) (u : Value) : (a.put d u).tmps.size = a.tmps.size := by cases d <;> simp [Act.put]
@[simp] theorem put_defers' (a : Act) (d : Option Nat) (u : Value) : (a.put d u).defers = a.defers := by cases d <;> simp [Act.put]

theorem RV.skip (w : World) (I : Nat → Prop) (φ : Phi) : RV w I φ (.tup []) Go.undef := .tup _ _ rfl fun k c u e => by simp at e

theorem guard_ok {w : World} {I : Nat → Prop} {φ : Phi} {fr : Nat → AV} {a : Act} (h : FrOk w I φ fr a) {ops : Array Oper} {o : Oper} {b : Bool} (hg : guardV ops fr o = some b) :
    Region.wanted o (yielded ops a.tmps) = b := by
  unfold guardV at hg
  unfold Region.wanted
  cases ho : o.guard with
  | none => rw [ho] at hg; cases hg; rfl
  | some p =>
    obtain ⟨j, want⟩ := p
    rw [ho] at hg
    simp only at hg ⊢
    unfold yielded
    cases hj : (ops[j]?).bind (·.dst) with
    | none => rw [hj] at hg; cases hg
    | some d =>
      rw [hj] at hg
      simp only at hg
      have hd := h d
      generalize fr d = v at hg hd
      cases v <;> simp only at hg <;> try cases hg
      case tup.refl =>
        simp only [Act.eval, Array.getD_eq_getD_getElem?] at hd
        simp only [Option.bind_some]
        cases ht : a.tmps[d]? with
        | none => rfl
        | some u =>
          rw [ht] at hd
          simp only [Option.getD_some] at hd
          cases hd
          rfl
      rename_i c
      simp only [Act.eval, Array.getD_eq_getD_getElem?] at hd
      simp only [Option.bind_some]
      cases ht : a.tmps[d]? with
      | none => rw [ht] at hd; simp [undef] at hd; cases hd
      | some u =>
        rw [ht] at hd
        simp only [Option.getD_some] at hd
        cases hd
        cases c <;> cases want <;> rfl

theorem guardK_inv {R : Type} {ops : Array Oper} {o : Oper} {fr : Fr} {k : Bool → Fr → Option R} {r : R} (h : guardK ops o fr k = some r) :
    ∃ g fr', k g fr' = some r ∧ guardV ops (fget fr) o = some g ∧ fget fr' = fget fr := by
  unfold guardK at h
  unfold guardV
  cases ho : o.guard with
  | none => rw [ho] at h; exact ⟨true, fr, h, rfl, rfl⟩
  | some p =>
    obtain ⟨j, want⟩ := p
    rw [ho] at h
    simp only at h ⊢
    cases hj : (ops[j]?).bind (·.dst) with
    | none => rw [hj] at h; cases h
    | some d =>
      rw [hj] at h
      simp only at h ⊢
      have same : ∀ b, fget fr d = .bool b → fget ((d, .bool b) :: fr) = fget fr := by
        intro b e
        funext t
        simp only [fget]
        cases ht : Nat.beq d t with
        | false => rfl
        | true => have := Nat.eq_of_beq_eq_true ht; subst this; rw [cond_true, e]
      cases hd : fget fr d <;> rw [hd] at h <;> simp only at h <;> try cases h
      case tup => exact ⟨false, fr, h, rfl, rfl⟩
      case bool b =>
        cases b with
        | true => exact ⟨want, _, h, by cases want <;> rfl, same true hd⟩
        | false => exact ⟨!want, _, h, by cases want <;> rfl, same false hd⟩

theorem Eff.fits_refl {rd : Nat → BS} (e : Eff) : e.fits rd rd := by
  cases e with
  | wr l => exact fun _ _ => rfl
  | full h => exact rfl

section
variable {P : Program} {env : Env} {run : CallK R} {r : R}

theorem ops_plain (henv : EnvOk P env) (hrun : RunOk P run) {nt : Nat} {ops : Array Oper} : ∀ (l : List Oper) (i : Nat) (recs : List Rec) (s : St) (k : St → Option R), opsK env run nt ops false l i recs s k = some r →
    ∃ s', k s' = some r ∧ s.hp.length ≤ s'.hp.length ∧ ∀ (w : World) (I : Nat → Prop) (φ : Phi) (a : Act), StOk w I φ s a → nt ≤ a.tmps.size → ∀ Q : Exit → Act → World → Prop,
      (∀ a' w' φ' I', nt ≤ a'.tmps.size → a'.defers = a.defers → StOk w' I' φ' s' a' → (∀ base, base ≤ s.hp.length → Step base (hget s.hp) φ I w (hget s'.hp) φ' I' w') → Q .normal a' w') → wpList P ops Q l a w := by
  intro l
  induction l with
  | nil =>
    intro i recs s k h
    refine ⟨s, h, Nat.le_refl _, fun w I φ a hs ha Q hQ => hQ a w φ I ha rfl hs fun base _ => Step.refl _ _ _ _ _⟩
  | cons o rest ih =>
    intro i recs s k h
    unfold opsK at h
    obtain ⟨hd, h⟩ := cond_some h
    obtain ⟨g, fr', h, hg, hfr⟩ := guardK_inv h
    cases g with
    | true =>
      obtain ⟨v, e, rdl, h1, h2, h3⟩ := oper_ok henv hrun h
      obtain ⟨s', g1, g2, g3⟩ := ih _ _ _ _ h1
      refine ⟨s', g1, Nat.le_trans h2 g2, fun w I φ a hs ha Q hQ => ?_⟩
      unfold wpList
      rw [if_pos (guard_ok hs.fr hg)]
      have hfr1 : FrOk w I φ (fget fr') a := by rw [hfr]; exact hs.fr
      refine .inl (h3 (hget s.hp) a w φ I (fun _ _ => rfl) (Eff.fits_refl e) hs.hh (fun x _ => hfr1.eval x) _ _ fun u w' φ' I' b1 b2 b3 b4 => ?_)
      have hs' : StOk w' I' φ' { fr := fput fr' o.dst v, hp := e.apply s.hp } (a.put o.dst u) :=
        ⟨by rw [Eff.apply_rd]; exact b2, (hfr1.step hs.hh (b3 0 (Nat.zero_le _)) b4).put b1 (dstOk_le hd ha)⟩
      refine g3 w' I' φ' (a.put o.dst u) hs' (by simpa using ha) Q fun a' w'' φ'' I'' c1 c2 c3 c4 => hQ a' w'' φ'' I'' c1 (by simpa using c2) c3 fun base hb => ?_
      have := b3 base hb
      rw [← Eff.apply_rd] at this
      exact this.trans (c4 base (Nat.le_trans hb h2))
    | false =>
      obtain ⟨s', g1, g2, g3⟩ := ih _ _ _ _ h
      refine ⟨s', g1, g2, fun w I φ a hs ha Q hQ => ?_⟩
      unfold wpList
      rw [if_neg (by rw [guard_ok hs.fr hg]; simp)]
      have hfr1 : FrOk w I φ (fget fr') a := by rw [hfr]; exact hs.fr
      refine g3 w I φ (a.put o.dst undef) ⟨hs.hh, hfr1.put (RV.skip _ _ _) (dstOk_le hd ha)⟩ (by simpa using ha) Q fun a' w'' φ'' I'' c1 c2 c3 c4 => hQ a' w'' φ'' I'' c1 (by simpa using c2) c3 c4

end
end Go.AM
