/- Functions. -/
import Derived.Test.YtnioalecffkedaaAm25
set_option linter.unusedVariables false
set_option linter.unusedSimpArgs false
namespace Go.AM

variable {R : Type}

/-- the code that the evaluator sees is the program's, and its regions are sound -/
def CodeOk (P : Program) (env : Env) : Prop := ∀ f fn, env.code f = some fn → P.funcs[f]? = some fn ∧ fn.body.isNone = false ∧ (fn.name == "runtime.NumGoroutine") = false ∧ ∀ c, fn.body = some c → okCode c = true

section
variable {P : Program} {env : Env} {run : CallK R} {r : R}

theorem fget_mkFrame : ∀ (l : List AV) (i t : Nat), fget (mkFrame i l) t = if i ≤ t then l.getD (t - i) .undef else .undef
  | [], i, t => by simp [mkFrame, fget]
  | v :: l, i, t => by
    simp only [mkFrame, fget]
    cases h : Nat.beq i t with
    | true => have := Nat.eq_of_beq_eq_true h; subst this; simp
    | false =>
      have hne : i ≠ t := fun e => by subst e; simp at h
      rw [cond_false, fget_mkFrame l (i + 1) t]
      by_cases h1 : i + 1 ≤ t
      · rw [if_pos h1, if_pos (by omega)]
        have : t - i = (t - (i + 1)) + 1 := by omega
        rw [this]; simp
      · rw [if_neg h1, if_neg (by omega)]

theorem frame_ok {w : World} {I : Nat → Prop} {φ : Phi} {args : List AV} {ra : Array Value} (h : RVs w I φ args ra) (n : Nat) :
    FrOk w I φ (fget (mkFrame 0 args)) { tmps := ra ++ Array.replicate n undef, defers := [] } := by
  intro t
  rw [fget_mkFrame, if_pos (Nat.zero_le _), Nat.sub_zero]
  simp only [Act.eval, Array.getD_eq_getD_getElem?, List.getD]
  cases e : args[t]? with
  | none => exact .undef _
  | some x =>
    have ht : t < args.length := by
      rcases Nat.lt_or_ge t args.length with h' | h'
      · exact h'
      · rw [List.getElem?_eq_none h'] at e; cases e
    rw [h.1] at ht
    rw [Array.getElem?_append_left ht, Array.getElem?_eq_getElem ht]
    exact h.2 t x _ e (Array.getElem?_eq_getElem ht)

theorem results_ok (htt : TTok P env.tt) {s : St} : ∀ (l : List ResultVar) (k : List AV → Option R), resultsK env.tt s l k = some r →
    ∃ vs, k vs = some r ∧ ∀ w I φ a, StOk w I φ s a → ∃ us : List Value, (l.mapM (m := Sem) fun | .tmp t => pure (a.tmps.getD t undef) | .cell x t => do loadVar t (← asAddr (a.tmps.getD x undef))).run P w = .ok us w ∧
      vs.length = us.length ∧ ∀ (i : Nat) x u, vs[i]? = some x → us[i]? = some u → RV w I φ x u := by
  intro l
  induction l with
  | nil => intro k h; exact ⟨[], h, fun w I φ a hs => ⟨[], rfl, rfl, fun i x u e => by simp at e⟩⟩
  | cons v l ih =>
    intro k h
    cases v with
    | tmp t =>
      unfold resultsK at h
      obtain ⟨vs, h1, h2⟩ := ih _ h
      refine ⟨_, h1, fun w I φ a hs => ?_⟩
      obtain ⟨us, g1, g2, g3⟩ := h2 w I φ a hs
      refine ⟨a.tmps.getD t undef :: us, by simp only [List.mapM_cons, Sem.run_bind, Sem.run_pure, Result.andThen_ok, g1], by simp [g2], fun i x u e e' => ?_⟩
      cases i with
      | zero => simp at e e'; subst e; subst e'; have := hs.fr t; simpa [Act.eval] using this
      | succ i => simp at e e'; exact g3 i x u e e'
    | cell x t =>
      unfold resultsK at h
      obtain ⟨ti, hti, h⟩ := onK_some h
      split at h
      · rename_i b i j hp
        obtain ⟨cs, h1, h2⟩ := elemK_inv h
        obtain ⟨v, h3, h4⟩ := partK_inv h1
        obtain ⟨vs, h5, h6⟩ := ih _ h3
        refine ⟨_, h5, fun w I φ a hs => ?_⟩
        obtain ⟨us, g1, g2, g3⟩ := h6 w I φ a hs
        have hv := hs.fr x
        rw [hp] at hv
        simp only [Act.eval] at hv
        generalize hu : a.tmps.getD x undef = u at hv
        cases hv with
        | ptr _ B o sz _ _ q hφ hq =>
          have hlive : live (hget s.hp b) = true := by
            cases hrb : hget s.hp b <;> first | rfl | (rw [hrb] at h; simp [elemK] at h)
          obtain ⟨B', o', sz', e, hrb⟩ := hs.hh.blk b hlive
          rw [hφ] at e; cases e
          obtain ⟨cs', e, hc⟩ := elem_ok hrb (h2 (R' := List AV) some)
          cases e
          obtain ⟨v', u', e', hl, hv⟩ := load_ok (htt t ti hti) hc (h4 (R' := AV) some)
          cases e'
          rw [← hq] at hl
          refine ⟨u' :: us, ?_, by simp [g2], fun i x u e e' => ?_⟩
          · have ha : (asAddr (a.tmps.getD x undef)).run P w = .ok ⟨B, q, none⟩ w := by rw [hu]; rfl
            simp only [List.mapM_cons, Sem.run_bind, ha, Sem.run_pure, Result.andThen_ok, hl, g1]
          · cases i with
            | zero => simp at e e'; subst e; subst e'; exact hv
            | succ i => simp at e e'; exact g3 i x u e e'
      · cases h

theorem body_ok (henv : EnvOk P env) (hcode : CodeOk P env) (hrun : RunOk P run) (hm : P.follows .mixedOrders = true) (n : Nat) : RunOk P (runBody env run n) := by
  intro f args hp k r h
  unfold runBody at h
  cases hf : env.code f with
  | none => rw [hf] at h; cases h
  | some fn =>
    rw [hf] at h
    simp only at h
    obtain ⟨hfn, hbody, hname, hok⟩ := hcode f fn hf
    cases hb : fn.body with
    | none => rw [hb] at h; cases h
    | some c =>
      rw [hb] at h
      simp only at h
      obtain ⟨e, s', h1, h2⟩ := evC_ok henv hrun hm (hok c hb) h
      obtain ⟨g1, g2⟩ := h2 (Nat.le_refl _)
      have key : (e = .normal ∨ e = .ret) ∧ resultsK env.tt s' fn.results.toList (fun vs => k (tupled vs) s'.hp) = some r := by
        cases e with
        | normal => exact ⟨.inl rfl, h1⟩
        | ret => exact ⟨.inr rfl, h1⟩
        | exit id => cases h1
        | goto l => cases h1
      obtain ⟨he, h3⟩ := key
      obtain ⟨vs, h4, h5⟩ := results_ok henv.tt _ _ h3
      refine ⟨tupled vs, s'.hp, h4, g1, fun w I φ ra hh hx => .inl ⟨?_, calls_of_wp hfn hb ?_⟩⟩
      · simp only [callFunc, Sem.run_bind, run_program, Result.andThen_ok, hfn, hname, hbody, Bool.false_eq_true, if_false, Sem.run_pure]
      · have hst : StOk w I φ { fr := mkFrame 0 args, hp := hp } { tmps := ra ++ Array.replicate (fn.ntmps - ra.size) undef, defers := [] } := ⟨hh, frame_ok hx _⟩
        refine g2 w I φ _ hst (by simp; omega) _ fun a' w' φ' I' c1 c2 c3 c4 => ?_
        obtain ⟨us, d1, d2, d3⟩ := h5 w' I' φ' a' c3
        have hres : (results fn a'.tmps).run P w' = .ok (if h : us.toArray.size = 1 then us.toArray[0] else .tuple us.toArray) w' := by
          unfold results
          rw [Array.mapM_eq_mapM_toList]
          simp only [map_eq_pure_bind, bind_assoc, pure_bind, Sem.run_bind]
          exact (congrArg (fun (x : Result (List Value)) => x.andThen fun us w => (pure (if h : us.toArray.size = 1 then us.toArray[0] else Value.tuple us.toArray) : Sem Value).run P w) d1)
        have hfin : bodyPost P fn (fun e w' => ∃ u, e = .returned u ∧ ∃ φ' I', RV w' I' φ' (tupled vs) u ∧ RH w' I' φ' (hget s'.hp) ∧ Step hp.length (hget hp) φ I w (hget s'.hp) φ' I' w') .normal a' w' := by
          refine ⟨c2, _, hres, _, rfl, φ', I', ?_, c3.hh, c4⟩
          have htup : us.length ≠ 1 → RV w' I' φ' (.tup vs) (if h : us.toArray.size = 1 then us.toArray[0] else .tuple us.toArray) := by
            intro hne
            rw [dif_neg (by simpa using hne)]
            exact .tup _ _ (by simpa using d2) fun i x u e e' => d3 i x u e (by simpa using e')
          cases vs with
          | nil => exact htup (by simp at d2; omega)
          | cons v l =>
            cases l with
            | nil =>
              cases us with
              | nil => simp at d2
              | cons u us =>
                cases us with
                | nil => exact d3 0 v u rfl rfl
                | cons u' us => simp at d2
            | cons v' l => exact htup (by simp at d2; omega)
        rcases he with rfl | rfl
        · exact hfin
        · exact hfin

theorem ev_ok (henv : EnvOk P env) (hcode : CodeOk P env) (hm : P.follows .mixedOrders = true) : ∀ n, RunOk (R := R) P (evFn env n) := by
  intro n
  induction n with
  | zero => intro f args hp k r h; cases h
  | succ n ih => exact body_ok henv hcode ih hm n

end
end Go.AM
