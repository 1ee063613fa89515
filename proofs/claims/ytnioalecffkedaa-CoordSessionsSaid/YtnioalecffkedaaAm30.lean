/- Answers as trees; weaker contracts; points of a function's code, from which a run is told by equations. -/
import Derived.Test.YtnioalecffkedaaAm29
set_option linter.unusedVariables false
set_option linter.unusedSimpArgs false
namespace Go.AM

/-- the answer as a tree -/
def snK (r : AV) (h : Heap) : Option AV :=
  match snap depth (hget h) r with
  | some (r, _) => some r
  | .none => .none

theorem Contract.snapped {P : Program} {f : Nat} {args : List AV} {res r : AV} {hp' : Heap} (hc : Contract P f args [] res hp') (h : snK res hp' = some r) : Contract P f args [] r [] := by
  unfold snK at h
  split at h
  · rename_i r1 l1 hs1
    cases h
    intro w I φ ra hh hx
    refine (hc w I φ ra hh hx).mono fun u w' ⟨φ', I', h1, h2, h3⟩ => ?_
    obtain ⟨s1, s2⟩ := (snap_ok h2 depth).1 _ _ _ hs1
    have hr := s2 (fun B => I' B ∨ InL φ' l1 B) (fun B hB => .inl hB) (fun B hB => .inr hB) u h1
    refine ⟨Phi.no, fun B => I' B ∨ InL φ' l1 B, hr, RH.empty w' _ fun B hB => hB.elim (h2.lt B) (inL_lt h2 s1), fun b p hb => absurd hb (Nat.not_lt_zero b), fun B hB => .inl (h3.Ile B hB), ?_, fun B hB => (not_mut_nil hB).elim, h3.ext⟩
    rintro B (hB | ⟨b, hb, o, sz, e⟩)
    · exact h3.Inew B hB
    · cases hm : mutable (hget hp' b) with
      | true => exact .inr ((h3.mt B ⟨b, o, sz, hm, e⟩).imp id id)
      | false => exact h3.Inew B (h2.imm b B o sz (s1 b hb) hm e)
  · cases h

/-- a call on a heap of its own, the answer a tree -/
def callT (env : Env) (n f : Nat) (args : List AV) : Option AV := evFn (R := AV) env n f args [] snK

theorem callT_ok {P : Program} {env : Env} (henv : EnvOk P env) (hcode : CodeOk P env) (hm : P.follows .mixedOrders = true) {n f : Nat} {args : List AV} {r : AV}
    (h : callT env n f args = some r) : Contract P f args [] r [] := by
  obtain ⟨res, hp', k1, _, hc⟩ := ev_ok henv hcode hm n f args [] _ _ h
  exact hc.snapped k1

theorem phi_nil {w : World} {I : Nat → Prop} {φ : Phi} (h : RH w I φ (hget [])) : φ = Phi.no := by
  funext b
  exact h.none b (hget_nil b)

theorem Contract.args {P : Program} {f : Nat} {args args' : List AV} {r : AV} {bs : Heap} (h : Contract P f args' [] r bs) (hs : SubC args args') : Contract P f args [] r bs := by
  intro w I φ ra hh hx
  have := phi_nil hh
  subst this
  refine h w I Phi.no ra hh ⟨by rw [← hs.1]; exact hx.1, fun k x u e e' => ?_⟩
  obtain ⟨c0, e0, hv⟩ := hs.get e
  exact hv _ _ _ (hx.2 k c0 u e0 e')

theorem Contract.res {P : Program} {f : Nat} {args : List AV} {r r' : AV} (h : Contract P f args [] r []) (hs : SubV r r') : Contract P f args [] r' [] := by
  intro w I φ ra hh hx
  refine (h w I φ ra hh hx).mono fun u w' ⟨φ', I', h1, h2, h3⟩ => ?_
  have := phi_nil h2
  subst this
  exact ⟨Phi.no, I', hs _ _ _ h1, h2, h3⟩

theorem SubV.trans {a b c : AV} (h : SubV a b) (h' : SubV b c) : SubV a c := fun w I u hv => h' w I u (h w I u hv)
theorem SubC.trans {a b c : List AV} (h : SubC a b) (h' : SubC b c) : SubC a c := by
  refine ⟨h.1.trans h'.1, fun k x z e e' => ?_⟩
  obtain ⟨y, e1, h1⟩ := h'.get e'
  exact (h.2 k x y e e1).trans h1

/-- no elements: whatever stands behind -/
theorem SubV.nils {sz : Nat} {f : Nat → List AV} : SubV .nils (.tr sz 0 f) := by
  intro w I u hv
  cases hv with
  | nils => exact .trn sz f none

theorem SubV.trs {sz n : Nat} {f g : Nat → List AV} (h : ∀ i, i < n → SubC (f i) (g i)) : SubV (.tr sz n f) (.tr sz n g) := by
  intro w I u hv
  cases hv with
  | tr _ _ _ B o cap uf hI hn' hlen hc h1 hr =>
    refine .tr sz n g B o cap uf hI hn' (fun i hi => ?_) (fun i k c hi e => ?_) (fun i k c hi e => ?_) (fun i k c hi e => ?_)
    · rw [← (h i hi).1]; exact hlen i hi
    · obtain ⟨c0, e0, _⟩ := (h i hi).get e
      exact hc i k c0 hi e0
    · obtain ⟨c0, e0, _⟩ := (h i hi).get e
      exact h1 i k c0 hi e0
    · obtain ⟨c0, e0, hs⟩ := (h i hi).get e
      exact hs _ _ _ (hr i k c0 hi e0)
  | trn _ _ a => exact .trn sz g a

theorem SubV.tup {cs cs' : List AV} (h : SubC cs cs') : SubV (.tup cs) (.tup cs') := by
  intro w I u hv
  cases hv with
  | tup _ vs hl hr =>
    refine .tup _ _ (h.1.symm.trans hl) fun k c u e e' => ?_
    obtain ⟨c0, e0, hs⟩ := h.get e
    exact hs _ _ _ (hr k c0 u e0 e')

/-! ### points of a function's code -/

/-- steps into a code: into the first or the second part, a body; into a loop's body, with so much fuel behind it -/
inductive PE where
  | L
  | R
  | lp (m : Nat)

def sub : Code → List PE → Code
  | c, [] => c
  | .seq a _, .L :: p => sub a p
  | .seq _ b, .R :: p => sub b p
  | .cond _ a _, .L :: p => sub a p
  | .cond _ _ b, .R :: p => sub b p
  | .block _ a, _ :: p => sub a p
  | .loop a, _ :: p => sub a p
  | .scope a, _ :: p => sub a p
  | c, _ :: _ => c

def curAt : Nat → Code → List PE → Nat
  | cur, _, [] => cur
  | cur, .seq a _, .L :: p => curAt cur a p
  | cur, .seq _ b, .R :: p => curAt cur b p
  | cur, .cond _ a _, .L :: p => curAt cur a p
  | cur, .cond _ _ b, .R :: p => curAt cur b p
  | _, .block id a, _ :: p => curAt id a p
  | cur, .loop a, _ :: p => curAt cur a p
  | cur, .scope a, _ :: p => curAt cur a p
  | cur, _, _ :: _ => cur

section
variable {R : Type} (env : Env) (run : CallK R) (fn nt n base : Nat) (jump : Code → Nat → CodeK R)

/-- what follows behind the point p of a code -/
def contOf : Nat → Code → List PE → (AX → St → Option R) → AX → St → Option R
  | _, _, [], k => k
  | cur, .seq a b, .L :: p, k => contOf cur a p fun e s' => match e with
    | .normal => evC1 env run fn nt n base jump cur b k s'
    | e => k e s'
  | cur, .seq _ b, .R :: p, k => contOf cur b p k
  | cur, .cond _ a _, .L :: p, k => contOf cur a p k
  | cur, .cond _ _ b, .R :: p, k => contOf cur b p k
  | _, .block id a, _ :: p, k => contOf id a p fun e s' => match e with
    | .exit id' => bif Nat.beq id' id then k .normal s' else k (.exit id') s'
    | e => k e s'
  | cur, .loop a, .lp m :: p, k => contOf cur a p fun e s' => match e with
    | .normal => loopK (norm base (env.live fn cur)) (evC1 env run fn nt n base jump cur a) m k (norm base (env.live fn cur) s')
    | e => k e s'
  | cur, .scope a, _ :: p, k => contOf cur a p fun e s' => match e with
    | .goto l => match findLabel a l with
      | some _ => jump a l k (norm base (env.live fn (1000 + l)) s')
      | .none => k (.goto l) s'
    | e => k e s'
  | _, _, _ :: _, k => k

end

/-- what becomes of a run at a function's end -/
def endK {R : Type} (env : Env) (fn : Func) (k : AV → Heap → Option R) (e : AX) (s : St) : Option R :=
  match e with
  | .normal | .ret => resultsK env.tt s fn.results.toList fun vs => k (tupled vs) s.hp
  | _ => .none

def bodyOf (env : Env) (f : Nat) : Code := match env.code f with
  | some fn => match fn.body with
    | some c => c
    | .none => .skip
  | .none => .skip

def ntOf (env : Env) (f : Nat) : Nat := match env.code f with
  | some fn => fn.ntmps
  | .none => 0

def finK {R : Type} (env : Env) (f : Nat) (k : AV → Heap → Option R) (e : AX) (s : St) : Option R := match env.code f with
  | some fn => endK env fn k e s
  | .none => .none

/-- a run from the point p of the function f on (n: the fuel of calls and of loops; base: the blocks that stood there at its beginning) -/
def pt {R : Type} (env : Env) (n base f : Nat) (k : AV → Heap → Option R) (p : List PE) (s : St) : Option R :=
  evC1 env (evFn env n) f (ntOf env f) n base (jumpK env (evFn env n) f (ntOf env f) n base n) (curAt 0 (bodyOf env f) p) (sub (bodyOf env f) p)
    (contOf env (evFn env n) f (ntOf env f) n base (jumpK env (evFn env n) f (ntOf env f) n base n) 0 (bodyOf env f) p (finK env f k)) s

/-- the loop at the point p, with the fuel m, at its head -/
def lpt {R : Type} (env : Env) (n base f : Nat) (k : AV → Heap → Option R) (p : List PE) (m : Nat) (s : St) : Option R :=
  match sub (bodyOf env f) p with
  | .loop a => loopK (norm base (env.live f (curAt 0 (bodyOf env f) p))) (evC1 env (evFn env n) f (ntOf env f) n base (jumpK env (evFn env n) f (ntOf env f) n base n) (curAt 0 (bodyOf env f) p) a) m
      (contOf env (evFn env n) f (ntOf env f) n base (jumpK env (evFn env n) f (ntOf env f) n base n) 0 (bodyOf env f) p (finK env f k)) s
  | _ => .none

/-- the way to the loop of the block b, through loops with the fuels fs left -/
def findL (b : Nat) : Code → Nat → List Nat → Option (List PE)
  | .loop a, cur, fs => bif Nat.beq cur b then some [] else match fs with
    | m :: fs => match findL b a cur fs with
      | some p => some (.lp m :: p)
      | .none => .none
    | [] => .none
  | .seq x y, cur, fs => match findL b x cur fs with
    | some p => some (.L :: p)
    | .none => match findL b y cur fs with
      | some p => some (.R :: p)
      | .none => .none
  | .cond _ x y, cur, fs => match findL b x cur fs with
    | some p => some (.L :: p)
    | .none => match findL b y cur fs with
      | some p => some (.R :: p)
      | .none => .none
  | .block id a, _, fs => match findL b a id fs with
    | some p => some (.L :: p)
    | .none => .none
  | .scope a, cur, fs => match findL b a cur fs with
    | some p => some (.L :: p)
    | .none => .none
  | _, _, _ => .none

/-- the loop of the block b of the function f, at its head, with the fuel m -/
def LP {R : Type} (env : Env) (n base f : Nat) (k : AV → Heap → Option R) (b : Nat) (fs : List Nat) (m : Nat) (s : St) : Option R :=
  match findL b (bodyOf env f) 0 fs with
  | some p => lpt env n base f k p m s
  | .none => .none

end Go.AM
