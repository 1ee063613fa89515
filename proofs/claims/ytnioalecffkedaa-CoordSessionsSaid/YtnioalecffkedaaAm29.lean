/- Environments over a program: the code is let by where it is sound, one function at a time. -/
import Derived.Test.YtnioalecffkedaaAm28
set_option linter.unusedVariables false
set_option linter.unusedSimpArgs false
namespace Go.AM

def codeGood (fn : Func) : Bool :=
  match fn.body with
  | some c => okCode c && !(fn.name == "runtime.NumGoroutine")
  | none => false

/-- the program's code, where the abstract machine may run it -/
def codeOf (P : Program) (f : Nat) : Option Func :=
  match P.funcs[f]? with
  | some fn => bif codeGood fn then some fn else none
  | none => none

theorem codeOf_ok {P : Program} {env : Env} (h : env.code = codeOf P) : CodeOk P env := by
  intro f fn hf
  rw [h] at hf
  unfold codeOf at hf
  cases e : P.funcs[f]? with
  | none => rw [e] at hf; cases hf
  | some fn' =>
    rw [e] at hf
    obtain ⟨hg, hf⟩ := cond_some hf
    cases hf
    unfold codeGood at hg
    cases hb : fn.body with
    | none => rw [hb] at hg; cases hg
    | some c =>
      rw [hb] at hg
      obtain ⟨h1, h2⟩ := and_true' hg
      refine ⟨rfl, rfl, by simpa using h2, fun c' e' => ?_⟩
      cases e'
      exact h1

theorem tt_ok {P : Program} {env : Env} (h : env.tt = tiOf P) : TTok P env.tt := fun t x e => by rw [h] at e; exact e

def nmem (x : Nat) : List Nat → Bool
  | [] => false
  | y :: r => bif Nat.beq x y then true else nmem x r

def liveOf (f b : Nat) : List (Nat × Nat × List Nat) → List Nat
  | [] => []
  | (f', b', l) :: r => bif Nat.beq f f' && Nat.beq b b' then l else liveOf f b r

/-- contracts that are known -/
structure Known where
  f : Nat
  ans : List AV → Option Answer

def orcOf : List Known → Nat → List AV → Option Answer
  | [], _, _ => none
  | k :: r, f, args => bif Nat.beq k.f f then k.ans args else orcOf r f args

def Known.Ok (P : Program) (k : Known) : Prop := ∀ args A, k.ans args = some A → A.g = true → Contract P k.f args [] (A.r A.a).1 (A.r A.a).2

theorem orc_ok {P : Program} : ∀ {l : List Known}, (∀ k ∈ l, k.Ok P) → ∀ f args A, orcOf l f args = some A → A.g = true → Contract P f args [] (A.r A.a).1 (A.r A.a).2
  | [], _, f, args, A, h => by cases h
  | k :: l, hl, f, args, A, h => by
    unfold orcOf at h
    cases e : Nat.beq k.f f with
    | true =>
      rw [e] at h
      have e := Nat.eq_of_beq_eq_true e
      subst e
      exact hl k (by simp) args A h
    | false =>
      rw [e] at h
      exact orc_ok (fun k hk => hl k (by simp [hk])) f args A h

/-- a run of the abstract machine is a contract -/
theorem contract_of {P : Program} {env : Env} (henv : EnvOk P env) (hcode : CodeOk P env) (hm : P.follows .mixedOrders = true) {n f : Nat} {args : List AV} {r : AV} {hp : Heap}
    (h : evFn (R := AV × Heap) env n f args [] (fun r h => some (r, h)) = some (r, hp)) : Contract P f args [] r hp := by
  obtain ⟨res, hp', k1, _, hc⟩ := ev_ok henv hcode hm n f args [] _ _ h
  cases k1
  exact hc

/-- a value that leads nowhere: the blocks are let go -/
theorem Contract.bare {P : Program} {f : Nat} {args : List AV} {r : AV} {hp : Heap} (h : Contract P f args [] r hp) (hf : refFree r = true) (ht : hasTree r = false) : Contract P f args [] r [] := by
  intro w I φ ra hh hx
  refine (h w I φ ra hh hx).mono fun u w' ⟨φ', I', h1, h2, h3⟩ => ?_
  refine ⟨Phi.no, I, (h1.free hf).treeless I ht, RH.empty w' I fun B hB => Nat.lt_of_lt_of_le (hh.lt B hB) h3.ext.size, fun b p hb => absurd hb (Nat.not_lt_zero b), fun _ h => h, fun _ h => .inl h, fun B hB => (not_mut_nil hB).elim, h3.ext⟩

end Go.AM
