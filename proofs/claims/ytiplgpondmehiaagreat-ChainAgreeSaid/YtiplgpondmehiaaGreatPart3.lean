/- Part 3 of the texts that the proof needs: the abstract machine, plain laws, contracts of the program's functions. No statement is claimed here. -/
import Derived.Test.YtiplgpondmehiaaGreatPart2
import GoSem.Core.Float
import Derived.Test.YtiplgpondmehiaaGreatProg
import Derived.KernelRfl
set_option linter.unusedVariables false
set_option linter.unusedSimpArgs false
section
/- From the abstract machine's 'true' to a law's contract. -/
set_option linter.unusedVariables false
set_option linter.unusedSimpArgs false
namespace Go.AM

def argOf (P : Program) (t : TypeId) (av : List AV) : AV :=
  match P.underlying t with
  | some (.struct _) => .agg av
  | _ => av.headD .undef

/-- the arguments of a law -/
def Args (P : Program) (N : Nat) : List TypeId → List AV → Prop
  | [], vs => vs = []
  | t :: ts, vs => ∃ av r, Shape P N t av ∧ vs = argOf P t av :: r ∧ Args P N ts r

section
variable {H : Type} {enc : TypeId × Value → H} {P : Program} {W W' : World} {I : Nat → Prop}

theorem arg_ok (hI : ∀ B, B < W.heap.size → I B) {N base : Nat} {t : TypeId} {v : Value} {d : DataW H} {ps : List MemPlace} (hg : goodT P N t = true) (hval : Value.okWide P W .any base t v)
    (h : DataW.Trod enc P W 0 (fun _ => true) true t v d ps) : ∃ av, Shape P N t av ∧ RV W I Phi.no (argOf P t av) v := by
  obtain ⟨m, hm⟩ := h
  cases N with
  | zero => cases hg
  | succ N =>
    have hlen : v.cells.toList.length = P.cellsOf t ∧ ((∃ fs, P.underlying t = some (.struct fs)) → ∃ cs, v = .agg cs) ∧ ((∀ fs, P.underlying t ≠ some (.struct fs)) → v.cells.toList = [v]) := by
      have hg' := hg
      unfold goodT at hg'
      unfold Value.okWide at hval
      cases hu : P.underlying t with
      | none => rw [hu] at hg'; cases hg'
      | some u =>
        rw [hu] at hg' hval
        cases u <;> simp only at hg' hval <;> try (cases hg'; done)
        case struct fs =>
          obtain ⟨cs, rfl, hs, _⟩ := hval
          refine ⟨by simpa [Value.cells] using hs, fun _ => ⟨cs, rfl⟩, fun h => absurd rfl (h fs)⟩
        case slice e =>
          have := Nat.eq_of_beq_eq_true (and_true' hg').1
          unfold Cell.okWide Cell.ok at hval
          rw [hu] at hval
          cases v <;> simp at hval <;> exact ⟨by simp [Value.cells, this], fun ⟨fs, e⟩ => (by cases e), fun _ => by simp [Value.cells]⟩
        all_goals
          have := Nat.eq_of_beq_eq_true hg'
          unfold Cell.okWide Cell.ok at hval
          rw [hu] at hval
          cases v <;> simp at hval <;> exact ⟨by simp [Value.cells, this], fun ⟨fs, e⟩ => (by cases e), fun _ => by simp [Value.cells]⟩
    obtain ⟨h1, h2, h3⟩ := hlen
    obtain ⟨av, g1, g2, g3⟩ := read_ok hI (N + 1) t _ hg h1 ⟨m, _, hm⟩
    refine ⟨av, g1, ?_⟩
    unfold argOf
    by_cases hs : ∃ fs, P.underlying t = some (.struct fs)
    · obtain ⟨cs, rfl⟩ := h2 hs
      obtain ⟨fs, hfs⟩ := hs
      rw [hfs]
      simp only [Value.cells] at g2 g3
      refine .agg _ _ (by simpa using g2) (fun k u e => ?_) (fun k c u e e' => ?_)
      · have hk : k < av.length := by
          rw [g2]; simpa using (Array.getElem?_eq_some_iff.1 e).1
        exact (g3 k av[k] u (List.getElem?_eq_getElem hk) (by rw [Array.getElem?_toList]; exact e)).2
      · exact (g3 k c u e (by rw [Array.getElem?_toList]; exact e')).1
    · have hs : ∀ fs, P.underlying t ≠ some (.struct fs) := fun fs e => hs ⟨fs, e⟩
      have h3 := h3 hs
      rw [h3] at g2 g3
      have : ∃ c, av = [c] := by
        match av, g2 with
        | [c], _ => exact ⟨c, rfl⟩
      obtain ⟨c, rfl⟩ := this
      have := (g3 0 c v rfl rfl).1
      split
      · rename_i fs e; exact absurd e (hs fs)
      · exact this

theorem args_ok (hI : ∀ B, B < W.heap.size → I B) {N base : Nat} : ∀ {ts : List TypeId} {vs : List Value} {ds : List (DataW H)} {ps : List MemPlace}, (∀ t ∈ ts, goodT P N t = true) →
    (∀ (j : Nat) t v, ts[j]? = some t → vs[j]? = some v → Value.okWide P W .any base t v) → DataW.TrodAll enc P W 0 (fun _ => true) true ts vs ds ps →
    ∃ avs, Args P N ts avs ∧ avs.length = vs.length ∧ ∀ (k : Nat) c u, avs[k]? = some c → vs[k]? = some u → RV W I Phi.no c u
  | [], [], [], ps, _, _, _ => ⟨[], rfl, rfl, fun k c u e => by simp at e⟩
  | t :: ts, v :: vs, d :: ds, ps, hg, hval, ⟨p, q, h1, h2, _⟩ => by
    obtain ⟨avs, g1, g2, g3⟩ := args_ok hI (fun t ht => hg t (by simp [ht])) (fun j t v e e' => hval (j + 1) t v (by simpa using e) (by simpa using e')) h2
    obtain ⟨av, g4, g5⟩ := arg_ok hI (hg t (by simp)) (hval 0 t v rfl rfl) h1
    refine ⟨argOf P t av :: avs, ⟨av, avs, g4, rfl, g1⟩, by simp [g2], fun k c u e e' => ?_⟩
    cases k with
    | zero => simp at e e'; subst e; subst e'; exact g5
    | succ k => exact g3 k c u (by simpa using e) (by simpa using e')
  | [], [], _ :: _, _, _, _, h => h.elim
  | [], _ :: _, _, _, _, _, h => h.elim
  | _ :: _, [], _, _, _, _, h => h.elim
  | _ :: _, _ :: _, [], _, _, _, h => h.elim

/-- as 'post_of_same', but for new memory, which may be frozen -/
theorem post_of_old {f : Func} {s : ChangeSpec} {apart fresh handsOn again : Bool} {args : Array Value} {v : Value} {ds gs : List (DataW H)} {before pa pv : List MemPlace}
    (hW : DataW.Whole enc P f.params.toList s.vars apart W args.toList ds gs before)
    (hres : ∀ (b : Nat) (sp : Nat → Bool) (hd : Bool), DataW.TrodAll enc P W' b sp hd f.resultTypes.toList (v.resultList f.resultTypes.size) (s.fn H (ds ++ gs)).results [])
    (hargs : ∀ sp : Nat → Bool, (∀ p ∈ before, sp p.block = true) → DataW.TrodAll enc P W' 0 sp true f.params.toList args.toList (s.fn H (ds ++ gs)).args pa)
    (hvars : ∀ sp : Nat → Bool, (∀ p ∈ before, sp p.block = true) → DataW.TrodVars enc P W' sp s.vars (s.fn H (ds ++ gs)).vars pv)
    (hps : before = pa ++ pv) (hb : RowKit.Below W.heap.size W W')
    (hok : ∀ (j : Nat) (t : TypeId) (r : Value), f.resultTypes[j]? = some t → (v.resultList f.resultTypes.size)[j]? = some r → Value.okWide P W' .any 0 t r) :
    s.post enc P f apart fresh handsOn again W args v W' := by
  have hold : ∀ p ∈ before, (fun b => decide (b < W.heap.size)) p.block = true := fun p hp => by simpa using hW.lt p hp
  have hlt := hW.lt
  refine ⟨ds, gs, before, [], pa, pv, hW, hres _ _ _, hargs _ hold, hvars _ hold, World.keptBut_mono (fun p hp => ⟨hp, ?_⟩) (hb.frame (· ∈ before)), fun _ => ?_⟩
  · rw [hps, List.mem_append] at hp
    exact Or.inr hp
  · obtain ⟨_, _, _, _, _, hz, hn⟩ := hW
    refine ⟨hok, _, _, ([] ++ pa) ++ pv, ⟨[] ++ pa, pv, ChangeShapes.trodAll_append (hargs _ (fun _ _ => rfl)) (hres _ _ _), hvars _ (fun _ _ => rfl), rfl, ?_, ?_⟩, ?_⟩
    · intro b off hp
      have hp' : MemPlace.cell b off ∈ before := by rw [hps]; simpa using hp
      rw [hb.frozen (p := ⟨b, off, none⟩) (hlt _ hp')]
      exact hz b off hp'
    · intro ha
      have := hn ha
      rw [hps] at this
      simpa using this
    · intro p hp _
      rw [hps]
      simpa using hp

theorem trodAll_stays (hl : laidOutB P = true) (hb : RowKit.Below W.heap.size W W') {sp : Nat → Bool} : ∀ {ts : List TypeId} {vs : List Value} {ds : List (DataW H)} {ps : List MemPlace}, (∀ t ∈ ts, P.readableRec t = true ∧ t < P.types.size) →
    DataW.TrodAll enc P W 0 (fun _ => true) true ts vs ds ps → (∀ x ∈ ps, x.block < W.heap.size) → (∀ x ∈ ps, sp x.block = true) → DataW.TrodAll enc P W' 0 sp true ts vs ds ps
  | [], [], [], ps, _, h, _, _ => h
  | t :: ts, v :: vs, d :: ds, ps, hr, ⟨p, q, h1, h2, e⟩, hlt, hsp => by
    subst e
    refine ⟨p, q, WideElems.Trod_stays hl (hr t (by simp)).1 (hr t (by simp)).2 h1 (fun x hx => hb.same (hlt x (by simp [hx]))) (fun x hx => hsp x (by simp [hx])),
      trodAll_stays hl hb (fun t ht => hr t (by simp [ht])) h2 (fun x hx => hlt x (by simp [hx])) (fun x hx => hsp x (by simp [hx])), rfl⟩
  | [], [], _ :: _, _, _, h, _, _ => h.elim
  | [], _ :: _, _, _, _, h, _, _ => h.elim
  | _ :: _, [], _, _, _, h, _, _ => h.elim
  | _ :: _, _ :: _, [], _, _, h, _, _ => h.elim

/-- every value that reads as the one reads as the other -/
def SubV (c c' : AV) : Prop := ∀ (w : World) (I : Nat → Prop) (u : Value), RV w I Phi.no c u → RV w I Phi.no c' u
def SubC (cs cs' : List AV) : Prop := cs.length = cs'.length ∧ ∀ (k : Nat) c c', cs[k]? = some c → cs'[k]? = some c' → SubV c c'

theorem SubV.refl (c : AV) : SubV c c := fun _ _ _ h => h
theorem SubC.refl (cs : List AV) : SubC cs cs := ⟨rfl, fun k c c' e e' => by rw [e] at e'; cases e'; exact .refl _⟩
theorem SubC.nil : SubC [] [] := .refl _
theorem SubC.cons {c c' : AV} {cs cs' : List AV} (h : SubV c c') (h' : SubC cs cs') : SubC (c :: cs) (c' :: cs') := by
  refine ⟨by simp [h'.1], fun k x x' e e' => ?_⟩
  cases k with
  | zero => simp at e e'; subst e; subst e'; exact h
  | succ k => exact h'.2 k x x' (by simpa using e) (by simpa using e')

theorem SubC.get {cs cs' : List AV} (h : SubC cs cs') {k : Nat} {c' : AV} (e : cs'[k]? = some c') : ∃ c, cs[k]? = some c ∧ SubV c c' := by
  have hk : k < cs.length := by rw [h.1]; exact (List.getElem?_eq_some_iff.1 e).1
  exact ⟨cs[k], List.getElem?_eq_getElem hk, h.2 k _ c' (List.getElem?_eq_getElem hk) e⟩

theorem SubV.tr {sz : Nat} {es : List (List AV)} {f : Nat → List AV} (h : ∀ i, i < es.length → SubC (es.getD i []) (f i)) : SubV (.trl sz es) (.tr sz es.length f) := by
  intro w I u hv
  cases hv with
  | trl _ _ _ hv hz =>
    generalize hn : es.length = n at *
    generalize hf : (fun i => es.getD i []) = g at hv
    have hg : ∀ i, g i = es.getD i [] := fun i => by rw [← hf]
    cases hv with
    | tr _ _ _ B o cap uf hI hn' hlen hc h1 hr =>
      refine .tr sz n f B o cap uf hI hn' (fun i hi => ?_) (fun i k c hi e => ?_) (fun i k c hi e => ?_) (fun i k c hi e => ?_)
      · rw [← (h i hi).1, ← hg]; exact hlen i hi
      · obtain ⟨c0, e0, _⟩ := (h i hi).get e
        rw [← hg] at e0; exact hc i k c0 hi e0
      · obtain ⟨c0, e0, _⟩ := (h i hi).get e
        rw [← hg] at e0; exact h1 i k c0 hi e0
      · obtain ⟨c0, e0, hs⟩ := (h i hi).get e
        rw [← hg] at e0; exact hs _ _ _ (hr i k c0 hi e0)
    | trn => exact .trn _ _ _

theorem SubV.agg {cs cs' : List AV} (h : SubC cs cs') : SubV (.agg cs) (.agg cs') := by
  intro w I u hv
  cases hv with
  | agg _ vs hl h1 hr =>
    refine .agg _ _ (h.1.symm.trans hl) h1 fun k c u e e' => ?_
    obtain ⟨c0, e0, hs⟩ := h.get e
    exact hs _ _ _ (hr k c0 u e0 e')

/-- the abstract machine says 'true', at whatever arguments of the types -/
def LawOk (P : Program) (env : Env) (N f : Nat) (ts : List TypeId) : Prop :=
  ∀ avs, Args P N ts avs → ∃ avs' n hp, SubC avs avs' ∧ evFn (R := AV × Heap) env n f avs' [] (fun r h => some (r, h)) = some (.bool true, hp)

theorem law_post {env : Env} {N base f tb : Nat} {fn : Func} {s : ChangeSpec} (henv : EnvOk P env) (hcode : CodeOk P env) (hm : P.follows .mixedOrders = true) (hfn : P.funcs[f]? = some fn) (hbody : fn.body.isNone = false)
    (hname : (fn.name == "runtime.NumGoroutine") = false)
    (hvars : s.vars = []) (hrt : fn.resultTypes = #[tb]) (hbool : P.underlying tb = some .bool)
    (hspec : ∀ ds : List (DataW H), ds.length = fn.params.toList.length → s.fn H ds = { results := [.lit (.bool true)], args := ds })
    (hlaid : laidOutB P = true) (hread : ∀ t ∈ fn.params.toList, P.readableRec t = true ∧ t < P.types.size) (hgood : ∀ t ∈ fn.params.toList, goodT P N t = true)
    (hlaw : LawOk P env N f fn.params.toList) {args : Array Value} {ds gs : List (DataW H)} {before : List MemPlace}
    (hval : ∀ (j : Nat) t v, fn.params[j]? = some t → args[j]? = some v → Value.okWide P W .any base t v) (hW : DataW.Whole enc P fn.params.toList s.vars false W args.toList ds gs before) :
    Calls P f args W fun e W' => ∃ v, e = .returned v ∧ s.post enc P fn false true false false W args v W' := by
  have hW' := hW
  obtain ⟨p, q, hA, hV, rfl, hfz, hnd⟩ := hW
  rw [hvars] at hV
  have hgs : gs = [] ∧ q = [] := by
    cases gs with
    | nil => exact ⟨rfl, hV⟩
    | cons g gs => exact hV.elim
  obtain ⟨rfl, rfl⟩ := hgs
  have hlt := hW'.lt
  simp only [List.append_nil] at hlt hW'
  let I : Nat → Prop := fun B => B < W.heap.size
  obtain ⟨avs, h1, h2, h3⟩ := args_ok (I := I) (fun _ h => h) hgood (fun j t v e e' => hval j t v (by rwa [Array.getElem?_toList] at e) (by rwa [Array.getElem?_toList] at e')) hA
  obtain ⟨avs', n, hp, hsub, hrun⟩ := hlaw avs h1
  obtain ⟨res, hp', k1, _, hc⟩ := ev_ok henv hcode hm n f avs' [] _ _ hrun
  cases k1
  have hans := hc W I Phi.no args (RH.empty W I fun _ h => h) ⟨by rw [← hsub.1]; simpa using h2, fun k x u e e' => by
    obtain ⟨c0, e0, hs⟩ := hsub.get e
    exact hs _ _ _ (h3 k c0 u e0 (by rw [Array.getElem?_toList]; exact e'))⟩
  have hpost : ∀ u W', (∃ φ' I', RV W' I' φ' (.bool true) u ∧ RH W' I' φ' (hget hp) ∧ Step ([] : Heap).length (hget []) Phi.no I W (hget hp) φ' I' W') → s.post enc P fn false true false false W args u W' := by
    rintro u W' ⟨φ', I', g1, _, g2⟩
    cases g1
    have hb : RowKit.Below W.heap.size W W' := ⟨g2.ext.os, g2.ext.tape, g2.ext.output, g2.ext.size, fun k hk => g2.ext.keep k hk fun hm => not_mut_nil hm⟩
    have hds : ds.length = fn.params.toList.length := by
      have : ∀ {ts : List TypeId} {vs : List Value} {ds : List (DataW H)} {ps : List MemPlace}, DataW.TrodAll enc P W 0 (fun _ => true) true ts vs ds ps → ds.length = ts.length := by
        intro ts
        induction ts with
        | nil => intro vs ds ps h; cases vs <;> cases ds <;> first | rfl | exact h.elim
        | cons t ts ih => intro vs ds ps h; cases vs <;> cases ds <;> first | exact h.elim | (obtain ⟨_, _, _, h, _⟩ := h; simp [ih h])
      exact this hA
    have hsp := hspec ds hds
    have hone : (Value.bool true).resultList 1 = [.bool true] := rfl
    refine post_of_old (pa := p) (pv := []) hW' (fun b sp hd => ?_) (fun sp hs => ?_) (fun _ _ => ?_) (by simp) hb (RowKit.ok_one hrt rfl (RowKit.okWide_bool_mk hbool _))
    · rw [List.append_nil, hsp, hrt]
      exact ⟨[], [], ⟨1, by simp [DataW.trod, hbool, Value.cells]⟩, rfl, rfl⟩
    · rw [List.append_nil, hsp]
      exact trodAll_stays hlaid hb hread hA hlt hs
    · rw [List.append_nil, hsp, hvars]
      rfl
  rcases hans with ⟨_, h⟩ | ⟨u, W', h, _⟩
  · exact Calls.mono h fun e W' ⟨u, he, hu⟩ => ⟨u, he, hpost u W' hu⟩
  · simp only [callFunc, Sem.run_bind, run_program, Result.andThen_ok, hfn, hname, hbody, Bool.false_eq_true, if_false, Sem.run_pure] at h
    cases h

end
end Go.AM
end

section
/- Environments over a program: the code is let by where it is sound, one function at a time. -/
set_option linter.unusedVariables false
set_option linter.unusedSimpArgs false
namespace Go.AM

def codeGood (fn : Func) : Bool :=
  match fn.body with
  | some c => okCode c && !(fn.name == "runtime.NumGoroutine")
  | none => false

/-- the program's code, where the abstract machine may run it -/
def codeOf (P : Program) (f : Nat) : Option Func :=
  match P.funcs[f]? with
  | some fn => bif codeGood fn then some fn else none
  | none => none

theorem codeOf_ok {P : Program} {env : Env} (h : env.code = codeOf P) : CodeOk P env := by
  intro f fn hf
  rw [h] at hf
  unfold codeOf at hf
  cases e : P.funcs[f]? with
  | none => rw [e] at hf; cases hf
  | some fn' =>
    rw [e] at hf
    obtain ⟨hg, hf⟩ := cond_some hf
    cases hf
    unfold codeGood at hg
    cases hb : fn.body with
    | none => rw [hb] at hg; cases hg
    | some c =>
      rw [hb] at hg
      obtain ⟨h1, h2⟩ := and_true' hg
      refine ⟨rfl, rfl, by simpa using h2, fun c' e' => ?_⟩
      cases e'
      exact h1

theorem tt_ok {P : Program} {env : Env} (h : env.tt = tiOf P) : TTok P env.tt := fun t x e => by rw [h] at e; exact e

def nmem (x : Nat) : List Nat → Bool
  | [] => false
  | y :: r => bif Nat.beq x y then true else nmem x r

def liveOf (f b : Nat) : List (Nat × Nat × List Nat) → List Nat
  | [] => []
  | (f', b', l) :: r => bif Nat.beq f f' && Nat.beq b b' then l else liveOf f b r

/-- contracts that are known -/
structure Known where
  f : Nat
  ans : List AV → Heap → Option Answer

def orcOf : List Known → Nat → List AV → Heap → Option Answer
  | [], _, _, _ => none
  | k :: r, f, args, hp => bif Nat.beq k.f f then k.ans args hp else orcOf r f args hp

def Known.Ok (P : Program) (k : Known) : Prop := ∀ args hp A, k.ans args hp = some A → A.g = true → Contract P k.f args hp (A.r A.a).1 (A.r A.a).2 ∧ hp.length ≤ (A.r A.a).2.length

theorem orc_ok {P : Program} : ∀ {l : List Known}, (∀ k ∈ l, k.Ok P) → ∀ f args hp A, orcOf l f args hp = some A → A.g = true → Contract P f args hp (A.r A.a).1 (A.r A.a).2 ∧ hp.length ≤ (A.r A.a).2.length
  | [], _, f, args, hp, A, h => by cases h
  | k :: l, hl, f, args, hp, A, h => by
    unfold orcOf at h
    cases e : Nat.beq k.f f with
    | true =>
      rw [e] at h
      have e := Nat.eq_of_beq_eq_true e
      subst e
      exact hl k (by simp) args hp A h
    | false =>
      rw [e] at h
      exact orc_ok (fun k hk => hl k (by simp [hk])) f args hp A h

/-- a run of the abstract machine is a contract -/
theorem contract_of {P : Program} {env : Env} (henv : EnvOk P env) (hcode : CodeOk P env) (hm : P.follows .mixedOrders = true) {n f : Nat} {args : List AV} {r : AV} {hp : Heap}
    (h : evFn (R := AV × Heap) env n f args [] (fun r h => some (r, h)) = some (r, hp)) : Contract P f args [] r hp := by
  obtain ⟨res, hp', k1, _, hc⟩ := ev_ok henv hcode hm n f args [] _ _ h
  cases k1
  exact hc

/-- a value that leads nowhere: the blocks are let go -/
theorem Contract.bare {P : Program} {f : Nat} {args : List AV} {r : AV} {hp : Heap} (h : Contract P f args [] r hp) (hf : refFree r = true) (ht : hasTree r = false) : Contract P f args [] r [] := by
  intro w I φ ra hh hx
  refine (h w I φ ra hh hx).mono fun u w' ⟨φ', I', h1, h2, h3⟩ => ?_
  refine ⟨Phi.no, I, (h1.free hf).treeless I ht, RH.empty w' I fun B hB => Nat.lt_of_lt_of_le (hh.lt B hB) h3.ext.size, fun b p hb => absurd hb (Nat.not_lt_zero b), fun _ h => h, fun _ h => .inl h, fun B hB => (not_mut_nil hB).elim, h3.ext⟩

end Go.AM
end

section
/- Answers as trees; weaker contracts; points of a function's code, from which a run is told by equations. -/
set_option linter.unusedVariables false
set_option linter.unusedSimpArgs false
namespace Go.AM

/-- the answer as a tree -/
def snK (r : AV) (h : Heap) : Option AV :=
  match snapG depth (hget h) r with
  | some (r, _, g) => bif g then some r else .none
  | .none => .none

theorem Contract.snapped {P : Program} {f : Nat} {args : List AV} {res r : AV} {hp' : Heap} (hc : Contract P f args [] res hp') (h : snK res hp' = some r) : Contract P f args [] r [] := by
  unfold snK at h
  split at h
  · rename_i r1 l1 g1 hs1
    obtain ⟨hg, h⟩ := cond_some h
    subst hg
    cases h
    replace hs1 := ungard_some.2 hs1
    intro w I φ ra hh hx
    refine (hc w I φ ra hh hx).mono fun u w' ⟨φ', I', h1, h2, h3⟩ => ?_
    obtain ⟨s1, s2⟩ := (snap_ok h2 depth).1 _ _ _ hs1
    have hr := s2 (fun B => I' B ∨ InL φ' l1 B) (fun B hB => .inl hB) (fun B hB => .inr hB) u h1
    refine ⟨Phi.no, fun B => I' B ∨ InL φ' l1 B, hr, RH.empty w' _ fun B hB => hB.elim (h2.lt B) (inL_lt h2 s1), fun b p hb => absurd hb (Nat.not_lt_zero b), fun B hB => .inl (h3.Ile B hB), ?_, fun B hB => (not_mut_nil hB).elim, h3.ext⟩
    rintro B (hB | ⟨b, hb, o, sz, e⟩)
    · exact h3.Inew B hB
    · cases hm : mutable (hget hp' b) with
      | true => exact .inr ((h3.mt B ⟨b, o, sz, hm, e⟩).imp id id)
      | false => exact h3.Inew B (h2.imm b B o sz (s1 b hb) hm e)
  · cases h

/-- a call on a heap of its own, the answer a tree -/
def callT (env : Env) (n f : Nat) (args : List AV) : Option AV := evFn (R := AV) env n f args [] snK

theorem callT_ok {P : Program} {env : Env} (henv : EnvOk P env) (hcode : CodeOk P env) (hm : P.follows .mixedOrders = true) {n f : Nat} {args : List AV} {r : AV}
    (h : callT env n f args = some r) : Contract P f args [] r [] := by
  obtain ⟨res, hp', k1, _, hc⟩ := ev_ok henv hcode hm n f args [] _ _ h
  exact hc.snapped k1

theorem phi_nil {w : World} {I : Nat → Prop} {φ : Phi} (h : RH w I φ (hget [])) : φ = Phi.no := by
  funext b
  exact h.none b (hget_nil b)

theorem Contract.args {P : Program} {f : Nat} {args args' : List AV} {r : AV} {bs : Heap} (h : Contract P f args' [] r bs) (hs : SubC args args') : Contract P f args [] r bs := by
  intro w I φ ra hh hx
  have := phi_nil hh
  subst this
  refine h w I Phi.no ra hh ⟨by rw [← hs.1]; exact hx.1, fun k x u e e' => ?_⟩
  obtain ⟨c0, e0, hv⟩ := hs.get e
  exact hv _ _ _ (hx.2 k c0 u e0 e')

theorem Contract.res {P : Program} {f : Nat} {args : List AV} {r r' : AV} (h : Contract P f args [] r []) (hs : SubV r r') : Contract P f args [] r' [] := by
  intro w I φ ra hh hx
  refine (h w I φ ra hh hx).mono fun u w' ⟨φ', I', h1, h2, h3⟩ => ?_
  have := phi_nil h2
  subst this
  exact ⟨Phi.no, I', hs _ _ _ h1, h2, h3⟩

theorem SubV.trans {a b c : AV} (h : SubV a b) (h' : SubV b c) : SubV a c := fun w I u hv => h' w I u (h w I u hv)
theorem SubC.trans {a b c : List AV} (h : SubC a b) (h' : SubC b c) : SubC a c := by
  refine ⟨h.1.trans h'.1, fun k x z e e' => ?_⟩
  obtain ⟨y, e1, h1⟩ := h'.get e'
  exact (h.2 k x y e e1).trans h1

/-- no elements: whatever stands behind -/
theorem SubV.nils {sz : Nat} {f : Nat → List AV} : SubV .nils (.tr sz 0 f) := by
  intro w I u hv
  cases hv with
  | nils => exact .trn sz f none

theorem SubV.trs {sz n : Nat} {f g : Nat → List AV} (h : ∀ i, i < n → SubC (f i) (g i)) : SubV (.tr sz n f) (.tr sz n g) := by
  intro w I u hv
  cases hv with
  | tr _ _ _ B o cap uf hI hn' hlen hc h1 hr =>
    refine .tr sz n g B o cap uf hI hn' (fun i hi => ?_) (fun i k c hi e => ?_) (fun i k c hi e => ?_) (fun i k c hi e => ?_)
    · rw [← (h i hi).1]; exact hlen i hi
    · obtain ⟨c0, e0, _⟩ := (h i hi).get e
      exact hc i k c0 hi e0
    · obtain ⟨c0, e0, _⟩ := (h i hi).get e
      exact h1 i k c0 hi e0
    · obtain ⟨c0, e0, hs⟩ := (h i hi).get e
      exact hs _ _ _ (hr i k c0 hi e0)
  | trn _ _ a => exact .trn sz g a

theorem SubV.tup {cs cs' : List AV} (h : SubC cs cs') : SubV (.tup cs) (.tup cs') := by
  intro w I u hv
  cases hv with
  | tup _ vs hl hr =>
    refine .tup _ _ (h.1.symm.trans hl) fun k c u e e' => ?_
    obtain ⟨c0, e0, hs⟩ := h.get e
    exact hs _ _ _ (hr k c0 u e0 e')

/-! ### points of a function's code -/

/-- steps into a code: into the first or the second part, a body; into a loop's body, with so much fuel behind it -/
inductive PE where
  | L
  | R
  | lp (m : Nat)

def sub : Code → List PE → Code
  | c, [] => c
  | .seq a _, .L :: p => sub a p
  | .seq _ b, .R :: p => sub b p
  | .cond _ a _, .L :: p => sub a p
  | .cond _ _ b, .R :: p => sub b p
  | .block _ a, _ :: p => sub a p
  | .loop a, _ :: p => sub a p
  | .scope a, _ :: p => sub a p
  | c, _ :: _ => c

def curAt : Nat → Code → List PE → Nat
  | cur, _, [] => cur
  | cur, .seq a _, .L :: p => curAt cur a p
  | cur, .seq _ b, .R :: p => curAt cur b p
  | cur, .cond _ a _, .L :: p => curAt cur a p
  | cur, .cond _ _ b, .R :: p => curAt cur b p
  | _, .block id a, _ :: p => curAt id a p
  | cur, .loop a, _ :: p => curAt cur a p
  | cur, .scope a, _ :: p => curAt cur a p
  | cur, _, _ :: _ => cur

section
variable {R : Type} (env : Env) (run : CallK R) (fn nt n base : Nat) (jump : Code → Nat → CodeK R)

/-- what follows behind the point p of a code -/
def contOf : Nat → Code → List PE → (AX → St → Option R) → AX → St → Option R
  | _, _, [], k => k
  | cur, .seq a b, .L :: p, k => contOf cur a p fun e s' => match e with
    | .normal => evC1 env run fn nt n base jump cur b k s'
    | e => k e s'
  | cur, .seq _ b, .R :: p, k => contOf cur b p k
  | cur, .cond _ a _, .L :: p, k => contOf cur a p k
  | cur, .cond _ _ b, .R :: p, k => contOf cur b p k
  | _, .block id a, _ :: p, k => contOf id a p fun e s' => match e with
    | .exit id' => bif Nat.beq id' id then k .normal s' else k (.exit id') s'
    | e => k e s'
  | cur, .loop a, .lp m :: p, k => contOf cur a p fun e s' => match e with
    | .normal => loopK (norm base (env.live fn cur)) (evC1 env run fn nt n base jump cur a) m k (norm base (env.live fn cur) s')
    | e => k e s'
  | cur, .scope a, _ :: p, k => contOf cur a p fun e s' => match e with
    | .goto l => match findLabel a l with
      | some _ => jump a l k (norm base (env.live fn (1000 + l)) s')
      | .none => k (.goto l) s'
    | e => k e s'
  | _, _, _ :: _, k => k

end

/-- what becomes of a run at a function's end -/
def endK {R : Type} (env : Env) (fn : Func) (k : AV → Heap → Option R) (e : AX) (s : St) : Option R :=
  match e with
  | .normal | .ret => resultsK env.tt s fn.results.toList fun vs => k (tupled vs) s.hp
  | _ => .none

def bodyOf (env : Env) (f : Nat) : Code := match env.code f with
  | some fn => match fn.body with
    | some c => c
    | .none => .skip
  | .none => .skip

def ntOf (env : Env) (f : Nat) : Nat := match env.code f with
  | some fn => fn.ntmps
  | .none => 0

def finK {R : Type} (env : Env) (f : Nat) (k : AV → Heap → Option R) (e : AX) (s : St) : Option R := match env.code f with
  | some fn => endK env fn k e s
  | .none => .none

/-- a run from the point p of the function f on (n: the fuel of calls and of loops; base: the blocks that stood there at its beginning) -/
def pt {R : Type} (env : Env) (n base f : Nat) (k : AV → Heap → Option R) (p : List PE) (s : St) : Option R :=
  evC1 env (evFn env n) f (ntOf env f) n base (jumpK env (evFn env n) f (ntOf env f) n base n) (curAt 0 (bodyOf env f) p) (sub (bodyOf env f) p)
    (contOf env (evFn env n) f (ntOf env f) n base (jumpK env (evFn env n) f (ntOf env f) n base n) 0 (bodyOf env f) p (finK env f k)) s

/-- the loop at the point p, with the fuel m, at its head -/
def lpt {R : Type} (env : Env) (n base f : Nat) (k : AV → Heap → Option R) (p : List PE) (m : Nat) (s : St) : Option R :=
  match sub (bodyOf env f) p with
  | .loop a => loopK (norm base (env.live f (curAt 0 (bodyOf env f) p))) (evC1 env (evFn env n) f (ntOf env f) n base (jumpK env (evFn env n) f (ntOf env f) n base n) (curAt 0 (bodyOf env f) p) a) m
      (contOf env (evFn env n) f (ntOf env f) n base (jumpK env (evFn env n) f (ntOf env f) n base n) 0 (bodyOf env f) p (finK env f k)) s
  | _ => .none

/-- the way to the loop of the block b, through loops with the fuels fs left -/
def findL (b : Nat) : Code → Nat → List Nat → Option (List PE)
  | .loop a, cur, fs => bif Nat.beq cur b then some [] else match fs with
    | m :: fs => match findL b a cur fs with
      | some p => some (.lp m :: p)
      | .none => .none
    | [] => .none
  | .seq x y, cur, fs => match findL b x cur fs with
    | some p => some (.L :: p)
    | .none => match findL b y cur fs with
      | some p => some (.R :: p)
      | .none => .none
  | .cond _ x y, cur, fs => match findL b x cur fs with
    | some p => some (.L :: p)
    | .none => match findL b y cur fs with
      | some p => some (.R :: p)
      | .none => .none
  | .block id a, _, fs => match findL b a id fs with
    | some p => some (.L :: p)
    | .none => .none
  | .scope a, cur, fs => match findL b a cur fs with
    | some p => some (.L :: p)
    | .none => .none
  | _, _, _ => .none

/-- the loop of the block b of the function f, at its head, with the fuel m -/
def LP {R : Type} (env : Env) (n base f : Nat) (k : AV → Heap → Option R) (b : Nat) (fs : List Nat) (m : Nat) (s : St) : Option R :=
  match findL b (bodyOf env f) 0 fs with
  | some p => lpt env n base f k p m s
  | .none => .none

end Go.AM
end

section
/- Contracts that are told by a function on decoded arguments, under a guard. -/
set_option linter.unusedVariables false
set_option linter.unusedSimpArgs false
namespace Go.AM

noncomputable def cd (g : Prop) : Bool := @decide g (Classical.propDecidable g)

theorem cd_iff {g : Prop} : cd g = true ↔ g := by exact @decide_eq_true_iff g (Classical.propDecidable g)

/-- the guard of a contract -/
def gP {X : Type} (dec : List AV → X) (pre : X → Prop) (enc : X → List AV) (args : List AV) : Prop := pre (dec args) ∧ SubC args (enc (dec args))

noncomputable def Known.spec {X : Type} (f : Nat) (dec : List AV → X) (pre : X → Prop) (enc : X → List AV) (out : X → AV) : Known :=
  { f := f, ans := fun args hp => match hp with
      | [] => some { X := X, g := cd (gP dec pre enc args), a := dec args, r := fun x => (out x, []) }
      | _ => none }

theorem Known.spec_ok {P : Program} {X : Type} {f : Nat} {dec : List AV → X} {pre : X → Prop} {enc : X → List AV} {out : X → AV}
    (h : ∀ x, pre x → Contract P f (enc x) [] (out x) []) : (Known.spec f dec pre enc out).Ok P := by
  intro args hp A e hg
  cases hp with
  | nil =>
    cases e
    obtain ⟨h1, h2⟩ := cd_iff.1 hg
    exact ⟨(h _ h1).args h2, Nat.le_refl _⟩
  | cons x r => cases e

/-- at one point -/
noncomputable def Known.one (f : Nat) (args : List AV) (r : AV) : Known := Known.spec (X := Unit) f (fun _ => ()) (fun _ => True) (fun _ => args) (fun _ => r)

theorem Known.one_ok {P : Program} {f : Nat} {args : List AV} {r : AV} (h : Contract P f args [] r []) : (Known.one f args r).Ok P := Known.spec_ok fun _ _ => h

/-- a guard, and what is done of what is known behind it -/
noncomputable def gX {R : Type} {X : Type} (g : Prop) (a : X) (k : X → Option R) : Option R := bif cd g then appX k a else .none

theorem gX_of {R : Type} {X : Type} {g : Prop} {a : X} {k : X → Option R} (h : g) : gX g a k = k a := by
  unfold gX; rw [cd_iff.2 h]; rfl

theorem gX_eq {R : Type} {X : Type} {dec : List AV → X} {pre : X → Prop} {enc : X → List AV} {A : List AV} {k : X → Option R} (x : X) (h1 : dec A = x) (h2 : pre x) (h3 : SubC A (enc x)) :
    gX (gP dec pre enc A) (dec A) k = k x := by
  subst h1; exact gX_of ⟨h2, h3⟩

/-- a call that is known -/
noncomputable def gC {R : Type} {X : Type} (dec : List AV → X) (pre : X → Prop) (enc : X → List AV) (A : List AV) (k : X → Option R) : Option R := gX (gP dec pre enc A) (dec A) k

theorem gC_eq {R : Type} {X : Type} {dec : List AV → X} {pre : X → Prop} {enc : X → List AV} {A : List AV} {k : X → Option R} (x : X) (h1 : dec A = x) (h2 : pre x) (h3 : SubC A (enc x)) :
    gC dec pre enc A k = k x := gX_eq x h1 h2 h3

def unD : List AV → Unit := fun _ => ()
def unP : Unit → Prop := fun _ => True
theorem gC_one {R : Type} {B A : List AV} {k : Unit → Option R} (h : SubC A B) : gC unD unP (fun _ => B) A k = k () := gC_eq () rfl trivial h

/-! ### decoding -/

def getI (cs : List AV) (i : Nat) : Int := match cs[i]? with
  | some (.int _ n) => n
  | _ => 0
def getB (cs : List AV) (i : Nat) : Bool := match cs[i]? with
  | some (.bool b) => b
  | _ => false
def getS (cs : List AV) (i : Nat) : List UInt8 := match cs[i]? with
  | some (.str s) => s
  | _ => []
def getC (cs : List AV) (i : Nat) : Nat × Nat := match cs[i]? with
  | some (.cplx _ a b) => (a, b)
  | _ => (0, 0)
/-- the cells of an argument -/
def argC (args : List AV) (i : Nat) : List AV := match args[i]? with
  | some v => v.cells
  | .none => []
def decL {X : Type} (d : List AV → X) : AV → List X
  | .tr _ n f => (List.range n).map fun i => d (f i)
  | .trl _ es => es.map d
  | _ => []
def getL {X : Type} (d : List AV → X) (cs : List AV) (i : Nat) : List X := decL d (cs.getD i .nils)

/-- a list as a tree -/
def encL {X : Type} (sz : Nat) (e : X → List AV) (z : X) (l : List X) : AV := .tr sz l.length fun i => e (l.getD i z)

theorem decL_encL {X : Type} {sz : Nat} {e : X → List AV} {d : List AV → X} {z : X} (h : ∀ x, d (e x) = x) (l : List X) : decL d (encL sz e z l) = l := by
  simp only [decL, encL, h]
  refine List.ext_getElem (by simp) fun i h1 h2 => ?_
  simp [List.getD, List.getElem?_eq_getElem h2]

theorem SubV.toTrl {sz : Nat} {f : Nat → List AV} {es : List (List AV)} (hne : 0 < es.length) (h : ∀ i, i < es.length → SubC (f i) (es.getD i [])) : SubV (.tr sz es.length f) (.trl sz es) := by
  intro w I u hv
  refine .trl _ _ _ (SubV.trs h w I u hv) ?_
  rintro rfl
  generalize es.length = n at *
  cases hv with
  | trn => cases hne

theorem SubV.encL_trl {X : Type} {sz : Nat} {e : X → List AV} {z : X} (l : List X) (hne : l ≠ []) : SubV (encL sz e z l) (.trl sz (l.map e)) := by
  have := SubV.toTrl (sz := sz) (f := fun i => e (l.getD i z)) (es := l.map e) (by simpa [List.length_pos_iff] using hne) fun i hi => by
    have hi : i < l.length := by simpa using hi
    have : (l.map e).getD i [] = e (l.getD i z) := by simp [List.getD, List.getElem?_eq_getElem hi]
    rw [this]; exact .refl _
  rwa [List.length_map] at this

/-! ### either or -/

def OrV (c c1 c2 : AV) : Prop := ∀ (w : World) (I : Nat → Prop) (u : Value), RV w I Phi.no c u → RV w I Phi.no c1 u ∨ RV w I Phi.no c2 u
def OrC (c c1 c2 : List AV) : Prop := c1.length = c.length ∧ c2.length = c.length ∧ ∀ (w : World) (I : Nat → Prop) (ra : Array Value), RVs w I Phi.no c ra → RVs w I Phi.no c1 ra ∨ RVs w I Phi.no c2 ra

theorem OrV.nil {sz : Nat} {f : Nat → List AV} : OrV (.tr sz 0 f) .nils (.trl sz []) := by
  intro w I u hv
  cases hv with
  | tr _ _ _ B o cap uf hI hn' hlen hc h1 hr =>
    exact .inr (.trl _ _ _ (.tr sz 0 _ B o cap uf hI hn' (fun i hi => by omega) (fun i k c hi => by omega) (fun i k c hi => by omega) (fun i k c hi => by omega)) (by simp))
  | trn _ _ a => cases a with
    | none => exact .inl .nils
    | some a => exact .inr (.trl _ _ _ (.trn _ _ _) (by simp))

theorem rvs_cells {w : World} {I : Nat → Prop} {φ : Phi} {c c1 : AV} {a b : List AV} {vs : Array Value} (h : RVs w I φ (a ++ c :: b) vs) (hc : ∀ u, RV w I φ c u → RV w I φ c1 u) : RVs w I φ (a ++ c1 :: b) vs := by
  refine ⟨by rw [← h.1]; simp, fun k x u e e' => ?_⟩
  rw [List.getElem?_append] at e
  split at e
  · rename_i hk; exact h.2 k x u (by rw [List.getElem?_append_left hk]; exact e) e'
  · rename_i hk
    have hk : a.length ≤ k := Nat.le_of_not_lt hk
    cases hd : k - a.length with
    | zero =>
      rw [hd] at e; simp at e; subst e
      exact hc u (h.2 k c u (by rw [List.getElem?_append_right hk, hd]; rfl) e')
    | succ m =>
      rw [hd] at e
      exact h.2 k x u (by rw [List.getElem?_append_right hk, hd]; exact e) e'

theorem rvs_at {w : World} {I : Nat → Prop} {φ : Phi} {c : AV} {a b : List AV} {vs : Array Value} (h : RVs w I φ (a ++ c :: b) vs) : ∃ u, RV w I φ c u ∧ vs[a.length]? = some u := by
  have hl : a.length < vs.size := by rw [← h.1]; simp
  exact ⟨vs[a.length], h.2 a.length c _ (by simp) (Array.getElem?_eq_getElem hl), Array.getElem?_eq_getElem hl⟩

theorem OrC.of {c c1 c2 : AV} (a b : List AV) (h : OrV c c1 c2) : OrC (a ++ c :: b) (a ++ c1 :: b) (a ++ c2 :: b) := by
  refine ⟨by simp, by simp, fun w I ra hx => ?_⟩
  obtain ⟨u, hu, he⟩ := rvs_at hx
  have key : ∀ c', RV w I Phi.no c' u → RVs w I Phi.no (a ++ c' :: b) ra := by
    intro c' hc'
    refine ⟨by rw [← hx.1]; simp, fun k x v e e' => ?_⟩
    by_cases hk : k = a.length
    · subst hk
      rw [he] at e'; cases e'
      simp at e; subst e; exact hc'
    · refine hx.2 k x v ?_ e'
      rw [List.getElem?_append] at e ⊢
      split at e
      · rename_i h; rw [if_pos h]; exact e
      · rename_i h
        rw [if_neg h]
        obtain ⟨m, hm⟩ : ∃ m, k - a.length = m + 1 := ⟨k - a.length - 1, by omega⟩
        rw [hm] at e ⊢; exact e
  exact (h w I u hu).imp (key c1) (key c2)

theorem OrV.agg {cs c1 c2 : List AV} (h : OrC cs c1 c2) : OrV (.agg cs) (.agg c1) (.agg c2) := by
  intro w I u hv
  cases hv with
  | agg _ vs hl h1 hr =>
    refine (h.2.2 w I vs ⟨hl, hr⟩).imp (fun g => .agg _ _ (h.1.trans hl) h1 g.2) (fun g => .agg _ _ (h.2.1.trans hl) h1 g.2)

theorem Contract.split {P : Program} {f : Nat} {args args1 args2 : List AV} {r : AV} {bs : Heap} (hs : OrC args args1 args2) (h1 : Contract P f args1 [] r bs) (h2 : Contract P f args2 [] r bs) : Contract P f args [] r bs := by
  intro w I φ ra hh hx
  have := phi_nil hh
  subst this
  rcases hs.2.2 w I ra hx with hx | hx
  · exact h1 w I Phi.no ra hh hx
  · exact h2 w I Phi.no ra hh hx

theorem SubV.trl_encL {X : Type} {sz : Nat} {e : X → List AV} {z : X} (l : List X) : SubV (.trl sz (l.map e)) (encL sz e z l) := by
  have := SubV.tr (sz := sz) (es := l.map e) (f := fun i => e (l.getD i z)) fun i hi => by
    have hi : i < l.length := by simpa using hi
    have : (l.map e).getD i [] = e (l.getD i z) := by simp [List.getD, List.getElem?_eq_getElem hi]
    rw [this]; exact .refl _
  rwa [List.length_map] at this

/-- a list that is shown as cells, as it is told -/
theorem SubV.trl_of {X : Type} {sz : Nat} {e : X → List AV} {z : X} {es : List (List AV)} (l : List X) (h : es = l.map e) : SubV (.trl sz es) (encL sz e z l) := by
  subst h; exact trl_encL l

end Go.AM
end

section
/- A law's contract as the kit asks for it. -/
set_option linter.unusedVariables false
set_option linter.unusedSimpArgs false
namespace Go.AM

section
variable {H : Type} {enc : TypeId × Value → H} {P : Program} {W W' : World} {I : Nat → Prop}

/-- the contract of a law: 'true', at whatever arguments of the types -/
def LawC (P : Program) (N f : Nat) (ts : List TypeId) : Prop := ∀ avs, Args P N ts avs → Contract P f avs [] (.bool true) []

theorem law_postC {N base f tb : Nat} {fn : Func} {s : ChangeSpec} (hfn : P.funcs[f]? = some fn) (hbody : fn.body.isNone = false)
    (hname : (fn.name == "runtime.NumGoroutine") = false)
    (hvars : s.vars = []) (hrt : fn.resultTypes = #[tb]) (hbool : P.underlying tb = some .bool)
    (hspec : ∀ ds : List (DataW H), ds.length = fn.params.toList.length → s.fn H ds = { results := [.lit (.bool true)], args := ds })
    (hlaid : laidOutB P = true) (hread : ∀ t ∈ fn.params.toList, P.readableRec t = true ∧ t < P.types.size) (hgood : ∀ t ∈ fn.params.toList, goodT P N t = true)
    (hlaw : LawC P N f fn.params.toList) {args : Array Value} {ds gs : List (DataW H)} {before : List MemPlace}
    (hval : ∀ (j : Nat) t v, fn.params[j]? = some t → args[j]? = some v → Value.okWide P W .any base t v) (hW : DataW.Whole enc P fn.params.toList s.vars false W args.toList ds gs before) :
    Calls P f args W fun e W' => ∃ v, e = .returned v ∧ s.post enc P fn false true false false W args v W' := by
  have hW' := hW
  obtain ⟨p, q, hA, hV, rfl, hfz, hnd⟩ := hW
  rw [hvars] at hV
  have hgs : gs = [] ∧ q = [] := by
    cases gs with
    | nil => exact ⟨rfl, hV⟩
    | cons g gs => exact hV.elim
  obtain ⟨rfl, rfl⟩ := hgs
  have hlt := hW'.lt
  simp only [List.append_nil] at hlt hW'
  let I : Nat → Prop := fun B => B < W.heap.size
  obtain ⟨avs, h1, h2, h3⟩ := args_ok (I := I) (fun _ h => h) hgood (fun j t v e e' => hval j t v (by rwa [Array.getElem?_toList] at e) (by rwa [Array.getElem?_toList] at e')) hA
  have hans := hlaw avs h1 W I Phi.no args (RH.empty W I fun _ h => h) ⟨by simpa using h2, fun k x u e e' => h3 k x u e (by rw [Array.getElem?_toList]; exact e')⟩
  have hpost : ∀ u W', (∃ φ' I', RV W' I' φ' (.bool true) u ∧ RH W' I' φ' (hget []) ∧ Step ([] : Heap).length (hget []) Phi.no I W (hget []) φ' I' W') → s.post enc P fn false true false false W args u W' := by
    rintro u W' ⟨φ', I', g1, _, g2⟩
    cases g1
    have hb : RowKit.Below W.heap.size W W' := ⟨g2.ext.os, g2.ext.tape, g2.ext.output, g2.ext.size, fun k hk => g2.ext.keep k hk fun hm => not_mut_nil hm⟩
    have hds : ds.length = fn.params.toList.length := by
      have : ∀ {ts : List TypeId} {vs : List Value} {ds : List (DataW H)} {ps : List MemPlace}, DataW.TrodAll enc P W 0 (fun _ => true) true ts vs ds ps → ds.length = ts.length := by
        intro ts
        induction ts with
        | nil => intro vs ds ps h; cases vs <;> cases ds <;> first | rfl | exact h.elim
        | cons t ts ih => intro vs ds ps h; cases vs <;> cases ds <;> first | exact h.elim | (obtain ⟨_, _, _, h, _⟩ := h; simp [ih h])
      exact this hA
    have hsp := hspec ds hds
    have hone : (Value.bool true).resultList 1 = [.bool true] := rfl
    refine post_of_old (pa := p) (pv := []) hW' (fun b sp hd => ?_) (fun sp hs => ?_) (fun _ _ => ?_) (by simp) hb (RowKit.ok_one hrt rfl (RowKit.okWide_bool_mk hbool _))
    · rw [List.append_nil, hsp, hrt]
      exact ⟨[], [], ⟨1, by simp [DataW.trod, hbool, Value.cells]⟩, rfl, rfl⟩
    · rw [List.append_nil, hsp]
      exact trodAll_stays hlaid hb hread hA hlt hs
    · rw [List.append_nil, hsp, hvars]
      rfl
  rcases hans with ⟨_, h⟩ | ⟨u, W', h, _⟩
  · exact Calls.mono h fun e W' ⟨u, he, hu⟩ => ⟨u, he, hpost u W' hu⟩
  · simp only [callFunc, Sem.run_bind, run_program, Result.andThen_ok, hfn, hname, hbody, Bool.false_eq_true, if_false, Sem.run_pure] at h
    cases h


end
/-- an argument that is a slice, as a tree -/
theorem Shape.list {P : Program} {n : Nat} {t e : TypeId} {av : List AV} (hu : P.underlying t = some (.slice e)) (h : Shape P (n + 1) t av) :
    ∃ c m f, av = [c] ∧ SubV c (.tr (P.cellsOf e) m f) ∧ m ≤ maxLen ∧ ∀ i, i < m → Shape P n e (f i) := by
  unfold Shape at h
  rw [hu] at h
  rcases h with rfl | ⟨es, rfl, h1, h2⟩
  · exact ⟨_, 0, fun _ => [], rfl, .nils, Nat.zero_le _, fun i hi => absurd hi (Nat.not_lt_zero i)⟩
  · refine ⟨_, es.length, fun i => es.getD i [], rfl, .tr fun i _ => .refl _, h1, fun i hi => ?_⟩
    have : es.getD i [] = es[i] := by simp [List.getD, List.getElem?_eq_getElem hi]
    simp only [this]; exact h2 _ (List.getElem_mem hi)

theorem Shape.num {P : Program} {n : Nat} {t : TypeId} {k : IntKind} {av : List AV} (hu : P.underlying t = some (.int k)) (h : Shape P (n + 1) t av) : av = [.int k (getI av 0)] ∧ k.min ≤ getI av 0 ∧ getI av 0 ≤ k.max := by
  unfold Shape at h
  rw [hu] at h
  obtain ⟨i, rfl, h⟩ := h
  exact ⟨rfl, h⟩

theorem Shape.nums {P : Program} {n : Nat} {t e : TypeId} {k : IntKind} {av : List AV} (hu : P.underlying t = some (.slice e)) (hk : P.underlying e = some (.int k)) (hc : P.cellsOf e = 1) (h : Shape P (n + 2) t av) :
    ∃ (c : AV) (m : Nat) (g : Nat → Int), av = [c] ∧ SubV c (.tr 1 m fun i => [.int k (g i)]) ∧ m ≤ maxLen ∧ ∀ i, i < m → k.min ≤ g i ∧ g i ≤ k.max := by
  obtain ⟨c, m, f, rfl, h1, h2, h3⟩ := Shape.list hu h
  rw [hc] at h1
  refine ⟨c, m, fun i => getI (f i) 0, rfl, h1.trans (.trs fun i hi => ?_), h2, fun i hi => (Shape.num hk (h3 i hi)).2⟩
  simp only [← (Shape.num hk (h3 i hi)).1]; exact .refl _

theorem wrap64 {x : Int} (h : -9223372036854775808 ≤ x ∧ x ≤ 9223372036854775807) : IntKind.i64.wrap x = x := by
  simp [IntKind.wrap, IntKind.signed, IntKind.bits, Int.bmod]; omega

theorem wrapu8 {x : Int} (h : 0 ≤ x ∧ x ≤ 255) : IntKind.u8.wrap x = x := by
  simp [IntKind.wrap, IntKind.signed, IntKind.bits]; omega

end Go.AM
end

section
/- Contracts on heaps, told by functions; lists that grow. -/
set_option linter.unusedVariables false
set_option linter.unusedSimpArgs false
namespace Go.AM

/-- a call on a heap: the answer and the heap behind it, numbered anew -/
def hnK (base : Nat) (r : AV) (h : Heap) : Option (AV × Heap) :=
  let s := norm base [0] { fr := [(0, r)], hp := h }
  some (fget s.fr 0, s.hp)

def callH (env : Env) (n f : Nat) (args : List AV) (hp : Heap) : Option (AV × Heap) := evFn (R := AV × Heap) env n f args hp (hnK hp.length)

theorem callH_ok {P : Program} {env : Env} (henv : EnvOk P env) (hcode : CodeOk P env) (hm : P.follows .mixedOrders = true) {n f : Nat} {args : List AV} {hp : Heap} {r : AV} {h : Heap}
    (e : callH env n f args hp = some (r, h)) : Contract P f args hp r h ∧ hp.length ≤ h.length := by
  obtain ⟨res, hp', k1, k2, hc⟩ := ev_ok henv hcode hm n f args hp _ _ e
  cases k1
  refine ⟨fun w I φ ra hh hx => (hc w I φ ra hh hx).mono fun u w' ⟨φ', I', a1, a2, a3⟩ => ?_, norm_base (s := { fr := [(0, res)], hp := hp' }) k2⟩
  have hs : StOk w' I' φ' { fr := [(0, res)], hp := hp' } { tmps := #[u], defers := [] } := by
    refine ⟨a2, fun t => ?_⟩
    cases t with
    | zero => exact a1
    | succ t => exact .undef _
  obtain ⟨_, φ2, n2, n3⟩ := norm_ok hp.length [0] hs k2
  exact ⟨φ2, I', n2.fr 0, n2.hh, a3.trans n3⟩

def gPH {X : Type} (dec : List AV → Heap → X) (pre : X → Prop) (enc : X → List AV × Heap) (args : List AV) (hp : Heap) : Prop := pre (dec args hp) ∧ enc (dec args hp) = (args, hp)

noncomputable def Known.specH {X : Type} (f : Nat) (dec : List AV → Heap → X) (pre : X → Prop) (enc : X → List AV × Heap) (out : X → AV × Heap) : Known :=
  { f := f, ans := fun args hp => some { X := X, g := cd (gPH dec pre enc args hp), a := dec args hp, r := out } }

theorem Known.specH_ok {P : Program} {X : Type} {f : Nat} {dec : List AV → Heap → X} {pre : X → Prop} {enc : X → List AV × Heap} {out : X → AV × Heap}
    (h : ∀ x, pre x → Contract P f (enc x).1 (enc x).2 (out x).1 (out x).2 ∧ (enc x).2.length ≤ (out x).2.length) : (Known.specH f dec pre enc out).Ok P := by
  intro args hp A e hg
  cases e
  obtain ⟨h1, h2⟩ := cd_iff.1 hg
  have := h _ h1
  rw [h2] at this
  exact this

/-- a call that is known, on a heap -/
noncomputable def gCH {R : Type} {X : Type} (dec : List AV → Heap → X) (pre : X → Prop) (enc : X → List AV × Heap) (A : List AV) (H : Heap) (k : X → Option R) : Option R := gX (gPH dec pre enc A H) (dec A H) k

theorem gCH_eq {R : Type} {X : Type} {dec : List AV → Heap → X} {pre : X → Prop} {enc : X → List AV × Heap} {A : List AV} {H : Heap} {k : X → Option R} (x : X) (h1 : dec A H = x) (h2 : pre x) (h3 : enc x = (A, H)) :
    gCH dec pre enc A H k = k x := by
  subst h1; exact gX_of ⟨h2, h3⟩

/-! ### lists that grow -/

/-- the elements of two, one behind the other, as 'append' has them -/
def appF (n : Nat) (f : Nat → List AV) (m : Nat) (g : Nat → List AV) : Nat → List AV :=
  fun i => bif Nat.blt i n then f i else bif Nat.blt i (n + m) then g (i - n) else f n

theorem appF_enc {X : Type} (e : X → List AV) (z : X) (l k : List X) : appF l.length (fun i => e (l.getD i z)) k.length (fun i => e (k.getD i z)) = fun i => e ((l ++ k).getD i z) := by
  funext i
  unfold appF
  by_cases h : i < l.length
  · have : Nat.blt i l.length = true := by rw [Nat.blt_eq]; exact h
    rw [this, cond_true]
    simp [List.getD, List.getElem?_append_left h]
  · have h0 : Nat.blt i l.length = false := by
      cases hb : Nat.blt i l.length with
      | false => rfl
      | true => rw [Nat.blt_eq] at hb; exact absurd hb h
    rw [h0, cond_false]
    by_cases h1 : i < l.length + k.length
    · have : Nat.blt i (l.length + k.length) = true := by rw [Nat.blt_eq]; exact h1
      rw [this, cond_true]
      simp [List.getD, List.getElem?_append_right (Nat.le_of_not_lt h)]
    · have : Nat.blt i (l.length + k.length) = false := by
        cases hb : Nat.blt i (l.length + k.length) with
        | false => rfl
        | true => rw [Nat.blt_eq] at hb; exact absurd hb h1
      rw [this, cond_false]
      have e1 : l[l.length]? = none := List.getElem?_eq_none (Nat.le_refl _)
      have e2 : (l ++ k)[i]? = none := List.getElem?_eq_none (by simp; omega)
      simp [List.getD, e1, e2]

/-- the same where the new ones are written out -/
theorem appF_lit {X : Type} (e : X → List AV) (z : X) (l k : List X) : appF l.length (fun i => e (l.getD i z)) k.length (fun i => (k.map e).getD i []) = fun i => e ((l ++ k).getD i z) := by
  rw [← appF_enc e z l k]
  funext i
  unfold appF
  cases h0 : Nat.blt i l.length with
  | true => rfl
  | false =>
    cases h1 : Nat.blt i (l.length + k.length) with
    | false => rfl
    | true =>
      simp only [cond_false, cond_true]
      rw [Nat.blt_eq] at h1
      have hi : l.length ≤ i := by
        rcases Nat.lt_or_ge i l.length with h | h
        · rw [show Nat.blt i l.length = true by rw [Nat.blt_eq]; exact h] at h0; cases h0
        · exact h
      have : i - l.length < k.length := by omega
      simp [List.getD, List.getElem?_eq_getElem this]

theorem drop_cons {X : Type} {l : List X} {i : Nat} {z : X} (h : i < l.length) : l.drop i = l.getD i z :: l.drop (i + 1) := by
  rw [List.drop_eq_getElem_cons h]
  simp [List.getD, List.getElem?_eq_getElem h]

theorem decL_encL' {X : Type} {sz : Nat} {e : X → List AV} {d : List AV → X} {z : X} {l : List X} (h : ∀ x ∈ l, d (e x) = x) : decL d (encL sz e z l) = l := by
  simp only [decL, encL]
  refine List.ext_getElem (by simp) fun i h1 h2 => ?_
  simp [List.getD, List.getElem?_eq_getElem h2, h _ (List.getElem_mem h2)]

theorem blt_true {a b : Nat} (h : a < b) : Nat.blt a b = true := by rw [Nat.blt_eq]; exact h
theorem blt_false {a b : Nat} (h : b ≤ a) : Nat.blt a b = false := by
  cases hb : Nat.blt a b with
  | false => rfl
  | true => rw [Nat.blt_eq] at hb; omega
theorem ble_true {a b : Nat} (h : a ≤ b) : Nat.ble a b = true := by rw [Nat.ble_eq]; exact h
theorem beq_false {a b : Nat} (h : a ≠ b) : Nat.beq a b = false := by
  cases hb : Nat.beq a b with
  | false => rfl
  | true => exact absurd (Nat.eq_of_beq_eq_true hb) h
theorem beq_true {a b : Nat} (h : a = b) : Nat.beq a b = true := by subst h; exact Nat.beq_refl a

end Go.AM
end

section
/- Contracts whose answers are blocks of their own. -/
set_option linter.unusedVariables false
set_option linter.unusedSimpArgs false
namespace Go.AM

noncomputable def Known.specB {X : Type} (f : Nat) (dec : List AV → X) (pre : X → Prop) (enc : X → List AV) (out : X → AV × Heap) : Known :=
  { f := f, ans := fun args hp => match hp with
      | [] => some { X := X, g := cd (gP dec pre enc args), a := dec args, r := out }
      | _ => none }

theorem Known.specB_ok {P : Program} {X : Type} {f : Nat} {dec : List AV → X} {pre : X → Prop} {enc : X → List AV} {out : X → AV × Heap}
    (h : ∀ x, pre x → Contract P f (enc x) [] (out x).1 (out x).2) : (Known.specB f dec pre enc out).Ok P := by
  intro args hp A e hg
  cases hp with
  | nil =>
    cases e
    obtain ⟨h1, h2⟩ := cd_iff.1 hg
    exact ⟨(h _ h1).args h2, Nat.zero_le _⟩
  | cons x r => cases e

/-- a list in a block of its own -/
def outBlk {X : Type} (sz : Nat) (e : X → List AV) (z : X) (l : List X) : AV × Heap := (.sl sz 0 0 l.length 0, [.seq true sz l.length fun i => e (l.getD i z)])

theorem hget_one (x : BS) (b : Nat) : hget [x] b = if b = 0 then x else .none := by
  cases b with
  | zero => rfl
  | succ b => simp [hget]

/-- one block is told in other words -/
theorem Contract.reblk {P : Program} {f : Nat} {args : List AV} {v v' : AV} {x x' : BS} (h : Contract P f args [] v [x]) (hm : mutable x' = true) (hm' : mutable x = true)
    (hv : ∀ w I φ u, RV w I φ v u → RV w I φ v' u) (hb : ∀ w I φ B o sz, RB w I φ B o sz x → RB w I φ B o sz x') : Contract P f args [] v' [x'] := by
  intro w I φ ra hh hx
  refine (h w I φ ra hh hx).mono fun u w' ⟨φ', I', a1, a2, a3⟩ => ?_
  have hl := live_of_mutable hm
  have hl' := live_of_mutable hm'
  have at0 : ∀ b, live (hget [x'] b) = true → b = 0 := by
    intro b hb
    rw [hget_one] at hb
    split at hb
    · assumption
    · cases hb
  have key : ∀ b, mutable (hget [x'] b) = true → mutable (hget [x] b) = true := by
    intro b hb
    have := at0 b (live_of_mutable hb)
    subst this
    exact hm'
  refine ⟨φ', I', hv _ _ _ _ a1, ⟨fun b e => ?_, fun b e => ?_, fun b b' B o sz o' sz' e e' => a2.inj b b' B o sz o' sz' (key b e) (key b' e'), fun b B o sz e => a2.disj b B o sz (key b e), fun b B o sz e e2 => ?_, a2.lt⟩,
    ⟨a3.le, a3.Ile, a3.Inew, fun B ⟨b, o, sz, e, e2⟩ => a3.mt B ⟨b, o, sz, key b e, e2⟩, a3.ext⟩⟩
  · rw [hget_one] at e
    split at e
    · subst e; cases hl
    · rename_i hb0
      exact a2.none b (by rw [hget_one, if_neg hb0])
  · have := at0 b e
    subst this
    obtain ⟨B, o, sz, e1, r⟩ := a2.blk 0 hl'
    exact ⟨B, o, sz, e1, hb _ _ _ _ _ _ r⟩
  · have := at0 b e
    subst this
    have e2 : mutable x' = false := e2
    rw [hm] at e2; cases e2

theorem RV.slack {w : World} {I : Nat → Prop} {φ : Phi} {sz b off len cm : Nat} {u : Value} (h : RV w I φ (.sl sz b off len cm) u) : RV w I φ (.sl sz b off len 0) u := by
  cases h with
  | sl _ _ B o _ _ _ cap q h1 h2 h3 h4 h5 => exact .sl sz b B o off len 0 cap q h1 h2 h3 (Nat.zero_le _) h5
  | sle => exact .sle sz b off _

/-- a block that was written out -/
theorem Contract.blkArr {P : Program} {f : Nat} {args : List AV} {X : Type} {sz cm : Nat} {e : X → List AV} {z : X} (l : List X) (hf : ∀ x, (e x).all refFree = true)
    (h : Contract P f args [] (.sl sz 0 0 l.length cm) [.arr true sz (l.map e)]) : Contract P f args [] (outBlk sz e z l).1 (outBlk sz e z l).2 := by
  refine h.reblk rfl rfl (fun w I φ u h => h.slack) (fun w I φ B o s h => ?_)
  obtain ⟨h1, h2, h3, h4⟩ := h
  have at' : ∀ i, i < l.length → (l.map e)[i]? = some (e (l.getD i z)) := fun i hi => by simp [List.getD, List.getElem?_eq_getElem hi]
  refine ⟨h1, h2, fun i hi => h3 i _ (at' i hi), fun i k c hi hc => ?_⟩
  obtain ⟨u, g1, g2, g3⟩ := h4 i _ k c (at' i hi) hc
  exact ⟨u, g1, g2, g3.free (by simpa using (List.all_eq_true.1 (hf (l.getD i z))) c (List.mem_of_getElem? hc))⟩

/-- a block that was told by a function -/
theorem Contract.blkSeq {P : Program} {f : Nat} {args : List AV} {X : Type} {sz cm n : Nat} {g : Nat → List AV} {e : X → List AV} {z : X} (l : List X) (hn : n = l.length) (hg : ∀ i, i < l.length → g i = e (l.getD i z))
    (h : Contract P f args [] (.sl sz 0 0 n cm) [.seq true sz n g]) : Contract P f args [] (outBlk sz e z l).1 (outBlk sz e z l).2 := by
  subst hn
  refine h.reblk rfl rfl (fun w I φ u h => h.slack) (fun w I φ B o s h => ?_)
  obtain ⟨h1, h2, h3, h4⟩ := h
  exact ⟨h1, h2, fun i hi => by show (e (l.getD i z)).length = _; rw [← hg i hi]; exact h3 i hi, fun i k c hi hc => h4 i k c hi (by rw [hg i hi]; exact hc)⟩

end Go.AM
end

section
/- Lists that grow from nothing, as the abstract machine has them; loops that pick elements. -/
set_option linter.unusedVariables false
namespace Go.AM

section
variable {X : Type} (sz : Nat) (e : X → List AV) (z : X)
/-- the elements of a grown list; behind its end stands the first one -/
def canF (l : List X) : Nat → List AV := fun i => e (l.getD i (l.getD 0 z))
/-- a grown list in the block b -/
def gSl (b : Nat) : List X → AV
  | [] => .nils
  | [_] => .sl sz b 0 1 1
  | l => .sl sz b 0 l.length 0
def gBl : List X → Heap
  | [] => []
  | l => [.seq true sz l.length (canF e z l)]
/-- a grown list, read -/
def gTr : List X → AV
  | [] => .nils
  | l => .tr sz l.length (canF e z l)
end
section
variable {X : Type} {sz : Nat} {e : X → List AV} {z : X}
theorem canF_at {l : List X} {i : Nat} (h : i < l.length) : canF e z l i = e (l.getD i z) := by
  unfold canF; simp [List.getD, List.getElem?_eq_getElem h]
theorem canF_one (x : X) : (fun i => [e x].getD i ([e x].getD 0 [])) = canF e z [x] := by
  funext i
  unfold canF
  cases i with
  | zero => rfl
  | succ i => simp [List.getD]
theorem canF_oneS (x : X) : (fun i => [e x].getD i (e x)) = canF e z [x] := canF_one x
theorem canF_app {l : List X} (h : l ≠ []) (x : X) :
    (fun i => bif Nat.blt i l.length then canF e z l i else bif Nat.blt i (l.length + 1) then [e x].getD (i - l.length) [] else canF e z l l.length) = canF e z (l ++ [x]) := by
  funext i
  have h0 : 0 < l.length := List.length_pos_iff.2 h
  have hh : (l ++ [x]).getD 0 z = l.getD 0 z := by unfold List.getD; rw [List.getElem?_append_left h0]
  by_cases h1 : i < l.length
  · rw [blt_true h1, cond_true]
    unfold canF
    rw [hh]
    simp [List.getD, List.getElem?_append_left h1]
  · rw [blt_false (Nat.le_of_not_lt h1), cond_false]
    by_cases h2 : i < l.length + 1
    · have : i = l.length := by omega
      subst this
      rw [blt_true h2, cond_true]
      unfold canF
      simp [List.getD]
    · rw [blt_false (by omega), cond_false]
      unfold canF
      rw [hh]
      have e1 : l[l.length]? = none := List.getElem?_eq_none (Nat.le_refl _)
      have e2 : (l ++ [x])[i]? = none := List.getElem?_eq_none (by simp; omega)
      simp [List.getD, e1, e2]
/-- an append of one to a grown list of one -/
theorem canF_app1 (a x : X) : (fun i => bif Nat.blt i 1 then canF e z [a] i else bif Nat.blt i 2 then [e x].getD (i - 1) [] else canF e z [a] 1) = canF e z [a, x] := canF_app (l := [a]) (by simp) x
theorem gSl_app {b : Nat} {l : List X} (h : l ≠ []) (x : X) : gSl sz b (l ++ [x]) = .sl sz b 0 (l.length + 1) 0 := by
  match l, h with
  | [a], _ => rfl
  | a :: c :: r, _ =>
    show AV.sl sz b 0 ((a :: c :: (r ++ [x])).length) 0 = _
    simp
theorem gBl_app {l : List X} (h : l ≠ []) (x : X) : gBl sz e z (l ++ [x]) = [.seq true sz (l.length + 1) (canF e z (l ++ [x]))] := by
  match l, h with
  | a :: r, _ =>
    show [BS.seq true sz ((a :: (r ++ [x])).length) _] = _
    simp
theorem gTr_sub (l : List X) : SubV (gTr sz e z l) (encL sz e z l) := by
  match l with
  | [] => exact .nils
  | a :: r => exact SubV.trs fun i hi => by rw [canF_at hi]; exact .refl _
theorem dec_gTr {d : List AV → X} (hd : ∀ x, d (e x) = x) (l : List X) : decL d (gTr sz e z l) = l := by
  match l with
  | [] => rfl
  | a :: r =>
    show (List.range (a :: r).length).map (fun i => d (canF e z (a :: r) i)) = a :: r
    refine List.ext_getElem (by simp) fun i h1 h2 => ?_
    simp only [List.getElem_map, List.getElem_range]
    rw [canF_at h2, hd]
    simp [List.getD, List.getElem?_eq_getElem h2]
end

/-- the tests of an append of one to a list of n elements of b bytes -/
def room1 {R : Type} (n b : Nat) (k : Option R) : Option R :=
  bif Nat.beq n 0 || Nat.ble n n then bif Nat.ble ((n + 1) * b) 140737488355328 && Nat.ble (n + 1) 140737488355328 then k else none else none
theorem room1_eq {R : Type} {n b : Nat} {k : Option R} (hb : b ≤ 1000) (h : n ≤ 1000000) : room1 n b k = k := by
  unfold room1
  have h1 : (n + 1) * b ≤ 140737488355328 := by
    have : (n + 1) * b ≤ 1000001 * 1000 := Nat.mul_le_mul (by omega) hb
    omega
  rw [ble_true (Nat.le_refl n), ble_true h1, ble_true (by omega : n + 1 ≤ 140737488355328)]
  simp

theorem orU (n : Nat) : (Nat.beq n 0 || Nat.ble n n) = true := by rw [ble_true (Nat.le_refl n)]; simp
theorem roomU {n b : Nat} (hb : b ≤ 1000) (h : n ≤ 1000000) : (Nat.ble ((n + 1) * b) 140737488355328 && Nat.ble (n + 1) 140737488355328) = true := by
  have h1 : (n + 1) * b ≤ 140737488355328 := by
    have : (n + 1) * b ≤ 1000001 * 1000 := Nat.mul_le_mul (by omega) hb
    omega
  rw [ble_true h1, ble_true (by omega : n + 1 ≤ 140737488355328)]; rfl

/-- a loop that goes up, and picks elements -/
theorem pick_loop {X : Type} {R : Type} {l : List X} {z : X} {keep : X → Bool} {G : Nat → Int → List X → Option R} {fin : List X → Option R}
    (hend : ∀ m acc, acc.length ≤ l.length → G (m + 1) (l.length : Int) acc = fin acc)
    (hstep : ∀ m (i : Nat) acc, i < l.length → acc.length ≤ i → G (m + 1) (i : Int) acc = bif keep (l.getD i z) then G m ((i + 1 : Nat) : Int) (acc ++ [l.getD i z]) else G m ((i + 1 : Nat) : Int) acc) :
    ∀ (d i m : Nat) (acc : List X), i + d = l.length → d < m → acc.length ≤ i → G m (i : Int) acc = fin (acc ++ (l.drop i).filter keep) := by
  intro d
  induction d with
  | zero =>
    intro i m acc hi hm ha
    obtain ⟨m, rfl⟩ : ∃ k, m = k + 1 := ⟨m - 1, by omega⟩
    have : i = l.length := by omega
    subst this
    rw [hend m acc ha]; simp
  | succ d ih =>
    intro i m acc hi hm ha
    obtain ⟨m, rfl⟩ : ∃ k, m = k + 1 := ⟨m - 1, by omega⟩
    rw [hstep m i acc (by omega) ha, drop_cons (z := z) (by omega : i < l.length), List.filter_cons]
    cases hk : keep (l.getD i z) with
    | true =>
      rw [cond_true, if_pos rfl, ih (i + 1) m _ (by omega) (by omega) (by simp; omega), List.append_assoc]; rfl
    | false =>
      rw [cond_false, if_neg (by simp), ih (i + 1) m _ (by omega) (by omega) (by omega)]
end Go.AM
end

section
/- Points of a function's jumps, from which a run is told by equations. -/
set_option linter.unusedVariables false
namespace Go.AM
/-- the way to the scope of the label l -/
def findS (l : Nat) : Code → Option (List PE)
  | .scope a => match findLabel a l with
    | some _ => some []
    | .none => match findS l a with
      | some p => some (.L :: p)
      | .none => .none
  | .seq x y => match findS l x with
    | some p => some (.L :: p)
    | .none => match findS l y with
      | some p => some (.R :: p)
      | .none => .none
  | .cond _ x y => match findS l x with
    | some p => some (.L :: p)
    | .none => match findS l y with
      | some p => some (.R :: p)
      | .none => .none
  | .block _ a => match findS l a with
    | some p => some (.L :: p)
    | .none => .none
  | _ => .none
/-- a run of the function f from the label l on, with m jumps left -/
def JP {R : Type} (env : Env) (n base f : Nat) (k : AV → Heap → Option R) (l m : Nat) (s : St) : Option R :=
  match findS l (bodyOf env f) with
  | some p => match sub (bodyOf env f) p with
    | .scope a => jumpK env (evFn env n) f (ntOf env f) n base m a l (contOf env (evFn env n) f (ntOf env f) n base (jumpK env (evFn env n) f (ntOf env f) n base n) 0 (bodyOf env f) p (finK env f k)) s
    | _ => .none
  | .none => .none
end Go.AM
end

section
/- A value that is written out is of another's kind: decided. -/
namespace Go.AM
def subB : Nat → AV → AV → Bool
  | 0, _, _ => false
  | n + 1, a, b => match a with
    | .bool x => match b with
      | .bool y => decide (x = y)
      | _ => false
    | .int k x => match b with
      | .int j y => decide (k = j) && decide (x = y)
      | _ => false
    | .cplx k x x' => match b with
      | .cplx j y y' => decide (k = j) && (decide (x = y) && decide (x' = y'))
      | _ => false
    | .str x => match b with
      | .str y => decide (x = y)
      | _ => false
    | .nils => match b with
      | .nils => true
      | .tr _ m _ => Nat.beq m 0
      | _ => false
    | .trl s es => match b with
      | .tr t m f => decide (s = t) && (decide (es.length = m) && (List.range m).all fun i => decide ((es.getD i []).length = (f i).length) && (List.range (f i).length).all fun k => subB n ((es.getD i []).getD k .undef) ((f i).getD k .undef))
      | _ => false
    | .agg cs => match b with
      | .agg ds => decide (cs.length = ds.length) && (List.range ds.length).all fun k => subB n (cs.getD k .undef) (ds.getD k .undef)
      | _ => false
    | .tup cs => match b with
      | .tup ds => decide (cs.length = ds.length) && (List.range ds.length).all fun k => subB n (cs.getD k .undef) (ds.getD k .undef)
      | _ => false
    | _ => false
theorem subC_of {n : Nat} {cs ds : List AV} (ih : ∀ a b, subB n a b = true → SubV a b) (h : cs.length = ds.length) (h2 : ((List.range ds.length).all fun k => subB n (cs.getD k .undef) (ds.getD k .undef)) = true) : SubC cs ds := by
  refine ⟨h, fun k c c' e e' => ih _ _ ?_⟩
  have hk : k < ds.length := by
    rcases Nat.lt_or_ge k ds.length with h | h
    · exact h
    · rw [List.getElem?_eq_none h] at e'; cases e'
  have := (List.all_eq_true.1 h2) k (List.mem_range.2 hk)
  simp only [List.getD, e, e', Option.getD_some] at this
  exact this
theorem subB_ok : ∀ (n : Nat) (a b : AV), subB n a b = true → SubV a b
  | 0, a, b, h => by cases h
  | n + 1, a, b, h => by
    have ih := subB_ok n
    cases a <;> cases b
    all_goals first | (exact absurd h Bool.false_ne_true) | skip
    all_goals simp only [subB, Bool.and_eq_true, decide_eq_true_eq] at h
    case bool.bool => subst h; exact .refl _
    case int.int => obtain ⟨rfl, rfl⟩ := h; exact .refl _
    case cplx.cplx => obtain ⟨rfl, rfl, rfl⟩ := h; exact .refl _
    case str.str => subst h; exact .refl _
    case nils.nils => exact .refl _
    case nils.tr => have := Nat.eq_of_beq_eq_true h; subst this; exact .nils
    case trl.tr =>
      obtain ⟨rfl, rfl, h3⟩ := h
      refine SubV.tr fun i hi => ?_
      have := (List.all_eq_true.1 h3) i (List.mem_range.2 hi)
      simp only [Bool.and_eq_true, decide_eq_true_eq] at this
      exact subC_of ih this.1 this.2
    case agg.agg => exact .agg (subC_of ih h.1 h.2)
    case tup.tup => exact .tup (subC_of ih h.1 h.2)
end Go.AM
end

section
/- Whole numbers as floats of 64 bits: they are read as they were written, and stand in their order. -/
namespace Go.Fl
open Ieee

def fl (n : Nat) : Nat := double.nearest false n 0

theorem log2_mul_pow {n : Nat} (h : n ≠ 0) (s : Nat) : (n * 2 ^ s).log2 = n.log2 + s := by
  have h1 := (Nat.le_log2 h).1 (Nat.le_refl _)
  have h2 : n < 2 ^ (n.log2 + 1) := Nat.lt_log2_self
  have hne : n * 2 ^ s ≠ 0 := Nat.mul_ne_zero h (by simp)
  apply Nat.le_antisymm
  · refine Nat.lt_succ_iff.1 ((Nat.log2_lt hne).2 ?_)
    calc n * 2 ^ s < 2 ^ (n.log2 + 1) * 2 ^ s := Nat.mul_lt_mul_of_pos_right h2 (Nat.two_pow_pos s)
      _ = 2 ^ (n.log2 + s + 1) := by rw [← Nat.pow_add]; congr 1; omega
  · refine (Nat.le_log2 hne).2 ?_
    rw [Nat.pow_add]; exact Nat.mul_le_mul_right _ h1

theorem cut_even (n d : Nat) : Toward.even.cut false (n * 2 ^ d) d = n := by
  unfold Toward.cut
  by_cases h : n = 0
  · subst h; simp
  · have hm : min d ((n * 2 ^ d).log2 + 2) = d := by rw [log2_mul_pow h]; omega
    simp only [hm, Nat.one_shiftLeft]
    have h1 : n * 2 ^ d / 2 ^ d = n := Nat.mul_div_cancel _ (Nat.two_pow_pos d)
    have h2 : n * 2 ^ d % 2 ^ d = 0 := Nat.mul_mod_left n (2 ^ d)
    rw [h1, h2]
    have : (2 ^ d == 0) = false := by simp
    simp [this]

theorem cut_zero (n d : Nat) : Toward.zero.cut false (n * 2 ^ d) d = n := by
  unfold Toward.cut
  by_cases h : n = 0
  · subst h; simp
  · have hm : min d ((n * 2 ^ d).log2 + 2) = d := by rw [log2_mul_pow h]; omega
    simp only [hm, Nat.one_shiftLeft]
    rw [Nat.mul_div_cancel _ (Nat.two_pow_pos d)]
    simp

theorem log2_lt53 {n : Nat} (h : n ≠ 0) (hn : n < 2 ^ 53) : n.log2 ≤ 52 := by
  have := (Nat.log2_lt h).2 hn
  omega

/-- the word of a number that is written with u digits more -/
theorem nearest_up {n : Nat} (h : n ≠ 0) (hn : n < 2 ^ 53) {u : Nat} (hu : u ≤ 1074) :
    double.nearest false (n * 2 ^ u) (-(u : Int)) = (n.log2 + 1022) * 2 ^ 52 + n * 2 ^ (52 - n.log2) := by
  have hl := log2_lt53 h hn
  unfold Format.nearest
  have hne : n * 2 ^ u ≠ 0 := Nat.mul_ne_zero h (by simp)
  have hlp : double.leastPlace = -1074 := by decide
  have hfb : double.fractionBits = 52 := rfl
  have hbi : double.binade = 2 ^ 52 := rfl
  rw [if_neg hne, log2_mul_pow h, hlp, hfb, hbi]
  have hlast : max (-(u : Int) + ((n.log2 + u : Nat) : Int) - (52 : Nat)) (-1074) = (n.log2 : Int) - 52 := by omega
  simp only [hlast]
  have hk : Toward.even.cut false ((n * 2 ^ u) <<< (-(u : Int) - ((n.log2 : Int) - 52)).toNat) ((n.log2 : Int) - 52 - -(u : Int)).toNat = n * 2 ^ (52 - n.log2) := by
    rcases Nat.le_total u (52 - n.log2) with hc | hc
    · have e1 : (-(u : Int) - ((n.log2 : Int) - 52)).toNat = 52 - n.log2 - u := by omega
      have e2 : ((n.log2 : Int) - 52 - -(u : Int)).toNat = 0 := by omega
      rw [e1, e2, Nat.shiftLeft_eq, Nat.mul_assoc, ← Nat.pow_add, show u + (52 - n.log2 - u) = 52 - n.log2 by omega]
      have := cut_even (n * 2 ^ (52 - n.log2)) 0
      simpa using this
    · have e1 : (-(u : Int) - ((n.log2 : Int) - 52)).toNat = 0 := by omega
      have e2 : ((n.log2 : Int) - 52 - -(u : Int)).toNat = u - (52 - n.log2) := by omega
      rw [e1, e2]
      have e3 : (n * 2 ^ u) <<< 0 = n * 2 ^ (52 - n.log2) * 2 ^ (u - (52 - n.log2)) := by
        rw [Nat.shiftLeft_zero, Nat.mul_assoc, ← Nat.pow_add, show 52 - n.log2 + (u - (52 - n.log2)) = u by omega]
      rw [e3, cut_even]
  rw [hk]
  have e4 : ((n.log2 : Int) - 52 - -1074).toNat = n.log2 + 1022 := by omega
  rw [e4]
  have hinf : double.infRung = 2047 * 2 ^ 52 := by decide
  rw [hinf]
  have hlt : n * 2 ^ (52 - n.log2) < 2 ^ 53 := by
    calc n * 2 ^ (52 - n.log2) < 2 ^ (n.log2 + 1) * 2 ^ (52 - n.log2) := Nat.mul_lt_mul_of_pos_right Nat.lt_log2_self (Nat.two_pow_pos _)
      _ = 2 ^ 53 := by rw [← Nat.pow_add]; congr 1; omega
  have : (n.log2 + 1022) * 2 ^ 52 + n * 2 ^ (52 - n.log2) ≤ 2047 * 2 ^ 52 := by omega
  rw [Nat.min_eq_left this]
  rfl

theorem nearest_zero (u : Int) : double.nearest false 0 u = 0 := by simp [Format.nearest, Format.word]

theorem nearest_fl {n : Nat} (hn : n < 2 ^ 53) {u : Nat} (hu : u ≤ 1074) : double.nearest false (n * 2 ^ u) (-(u : Int)) = fl n := by
  by_cases h : n = 0
  · subst h; simp [fl, nearest_zero]
  · rw [nearest_up h hn hu]
    have := nearest_up h hn (u := 0) (by omega)
    simp at this
    exact this.symm

set_option maxRecDepth 100000 in
/-- a number is read as it was written -/
theorem read_fl {n : Nat} (hn : n < 2 ^ 53) : ∃ s : Nat, s ≤ 1074 ∧ double.read (fl n) = .number false (n * 2 ^ s) (-(s : Int)) := by
  have hlp : double.leastPlace = -1074 := by decide
  have hbi : double.binade = 2 ^ 52 := rfl
  have hsw : double.signWeight = 2 ^ 63 := rfl
  have hinf : double.infRung = 2047 * 2 ^ 52 := by decide
  by_cases h : n = 0
  · subst h
    have h0 : ∀ s : Nat, s = 1074 → double.read (fl 0) = .number false (0 * 2 ^ s) (-(s : Int)) := by
      intro s hs
      rw [Nat.zero_mul]
      simp [fl, nearest_zero, Format.read, hlp, hbi, hsw, hs]
    obtain ⟨s, hs⟩ : ∃ s : Nat, s = 1074 := ⟨_, rfl⟩
    exact ⟨s, by rw [hs]; exact Nat.le_refl _, h0 s hs⟩
  · have hl := log2_lt53 h hn
    refine ⟨52 - n.log2, by omega, ?_⟩
    have hw : fl n = (n.log2 + 1022) * 2 ^ 52 + n * 2 ^ (52 - n.log2) := by
      have := nearest_up h hn (u := 0) (by omega)
      simp at this
      exact this
    rw [hw]
    have hlt : n * 2 ^ (52 - n.log2) < 2 ^ 53 := by
      calc n * 2 ^ (52 - n.log2) < 2 ^ (n.log2 + 1) * 2 ^ (52 - n.log2) := Nat.mul_lt_mul_of_pos_right Nat.lt_log2_self (Nat.two_pow_pos _)
        _ = 2 ^ 53 := by rw [← Nat.pow_add]; congr 1; omega
    have hge : 2 ^ 52 ≤ n * 2 ^ (52 - n.log2) := by
      calc 2 ^ 52 = 2 ^ n.log2 * 2 ^ (52 - n.log2) := by rw [← Nat.pow_add]; congr 1; omega
        _ ≤ n * 2 ^ (52 - n.log2) := Nat.mul_le_mul_right _ ((Nat.le_log2 h).1 (Nat.le_refl _))
    generalize n * 2 ^ (52 - n.log2) = M at hlt hge ⊢
    generalize n.log2 = L at hl ⊢
    have p52 : (2 : Nat) ^ 52 = 4503599627370496 := by decide
    have p53 : (2 : Nat) ^ 53 = 9007199254740992 := by decide
    have p63 : (2 : Nat) ^ 63 = 9223372036854775808 := by decide
    rw [p53] at hlt
    rw [p52] at hge
    obtain ⟨r, rfl⟩ : ∃ r, M = 4503599627370496 + r := ⟨M - 4503599627370496, by omega⟩
    have hr : r < 4503599627370496 := by omega
    unfold Format.read
    simp only [hsw, hbi, hinf, hlp, p52, p63]
    have e1 : ((L + 1022) * 4503599627370496 + (4503599627370496 + r)) / 9223372036854775808 % 2 = 0 := by
      rw [Nat.div_eq_of_lt (by omega)]
    have e2 : ((L + 1022) * 4503599627370496 + (4503599627370496 + r)) % 9223372036854775808 = (L + 1022) * 4503599627370496 + (4503599627370496 + r) := Nat.mod_eq_of_lt (by omega)
    rw [e1, e2, if_neg (by omega), if_pos (by omega)]
    have e3 : ((L + 1022) * 4503599627370496 + (4503599627370496 + r)) % 4503599627370496 = r := by omega
    have e4 : ((L + 1022) * 4503599627370496 + (4503599627370496 + r)) / 4503599627370496 = L + 1023 := by omega
    rw [e3, e4]
    congr 1
    omega

theorem signed_up {n s t : Nat} : signed false (n * 2 ^ s) (-(s : Int) - min (-(s : Int)) (-(t : Int))).toNat = (n * 2 ^ max s t : Nat) := by
  unfold signed
  simp only [Bool.false_eq_true, if_false, Nat.shiftLeft_eq]
  congr 1
  rw [Nat.mul_assoc, ← Nat.pow_add]
  congr 2
  omega

theorem signed_up' {n s t : Nat} : signed false (n * 2 ^ t) (-(t : Int) - min (-(s : Int)) (-(t : Int))).toNat = (n * 2 ^ max s t : Nat) := by
  unfold signed
  simp only [Bool.false_eq_true, if_false, Nat.shiftLeft_eq]
  congr 1
  rw [Nat.mul_assoc, ← Nat.pow_add]
  congr 2
  omega

theorem order_fl {n m : Nat} (hn : n < 2 ^ 53) (hm : m < 2 ^ 53) : double.order (fl n) (fl m) = some (compare n m) := by
  obtain ⟨s, _, e1⟩ := read_fl hn
  obtain ⟨t, _, e2⟩ := read_fl hm
  unfold Format.order
  rw [e1, e2]
  unfold Datum.order
  simp only [signed_up, signed_up']
  have hp : 0 < 2 ^ max s t := Nat.two_pow_pos _
  congr 1
  rcases Nat.lt_trichotomy n m with h | h | h
  · have : n * 2 ^ max s t < m * 2 ^ max s t := Nat.mul_lt_mul_of_pos_right h hp
    rw [Nat.compare_eq_lt.2 h, Int.compare_eq_lt.2 (by exact_mod_cast this)]
  · subst h; rw [Nat.compare_eq_eq.2 rfl, Int.compare_eq_eq.2 rfl]
  · have : m * 2 ^ max s t < n * 2 ^ max s t := Nat.mul_lt_mul_of_pos_right h hp
    rw [Nat.compare_eq_gt.2 h, Int.compare_eq_gt.2 (by exact_mod_cast this)]

theorem toInt_fl {n : Nat} (hn : n < 2 ^ 53) : (double.read (fl n)).toInt .zero = some n := by
  obtain ⟨s, _, e1⟩ := read_fl hn
  rw [e1]
  unfold Datum.toInt Datum.integral
  simp only
  have e2 : (-(s : Int)).toNat = 0 := by omega
  have e3 : (- -(s : Int)).toNat = s := by omega
  rw [e2, e3, Nat.shiftLeft_zero, cut_zero]
  simp [signed]

theorem add_fl {n m : Nat} (h : n + m < 2 ^ 53) : double.add (fl n) (fl m) = some (fl (n + m)) := by
  obtain ⟨s, hs, e1⟩ := read_fl (n := n) (by omega)
  obtain ⟨t, ht, e2⟩ := read_fl (n := m) (by omega)
  unfold Format.add
  rw [e1, e2]
  unfold Datum.sum
  simp only [signed_up, signed_up', Option.map_some]
  unfold Format.write
  have hsum : ((n * 2 ^ max s t : Nat) : Int) + ((m * 2 ^ max s t : Nat) : Int) = (((n + m) * 2 ^ max s t : Nat) : Int) := by rw [Nat.add_mul]; simp
  have hb : min (-(s : Int)) (-(t : Int)) = -((max s t : Nat) : Int) := by omega
  rw [hsum, hb]
  have hneg : (if (((n + m) * 2 ^ max s t : Nat) : Int) = 0 then false && false else decide ((((n + m) * 2 ^ max s t : Nat) : Int) < 0)) = false := by
    split
    · rfl
    · rw [decide_eq_false (by omega)]
  rw [hneg, Int.natAbs_natCast]
  show some (double.nearest false ((n + m) * 2 ^ max s t) (-((max s t : Nat) : Int))) = _
  rw [nearest_fl h (by omega)]

theorem fl_inj {n m : Nat} (hn : n < 2 ^ 53) (hm : m < 2 ^ 53) (h : fl n = fl m) : n = m := by
  have h1 := toInt_fl hn
  rw [h, toInt_fl hm] at h1
  have : (m : Int) = n := by simpa using h1
  omega

end Go.Fl
end

section
/- The program's types as plain structures, with their cells: as they are written, and read back. By program (gen_md.py). -/
namespace Go.Md
open Go.AM

structure Ver where
  re : Nat
  im : Nat
deriving DecidableEq, Inhabited
def encBool (b : Bool) : List AV := [.bool b]
def decBool (cs : List AV) : Bool := getB cs 0
def encBools (l : List Bool) : AV := encL 1 encBool default l
theorem decBools (l : List Bool) : decL decBool (encBools l) = l := decL_encL (fun _ => rfl) l

structure Member where
  node : Int
  boot : Int
deriving DecidableEq, Inhabited
def encMember (x : Member) : List AV := [.int .i64 x.node, .int .i64 x.boot]
def decMember (cs : List AV) : Member := ⟨getI cs 0, getI cs 1⟩
theorem dec_encMember (x : Member) : decMember (encMember x) = x := rfl
def encMembers (l : List Member) : AV := encL 2 encMember default l
theorem decMembers (l : List Member) : decL decMember (encMembers l) = l := decL_encL dec_encMember l

structure Entry where
  ver : Ver
  kind : Int
  key : List UInt8
  val : List UInt8
  write : Bool
  del : Bool
  sess : Int
  num : Int
  code : Int
  res : List UInt8
  hasRes : Bool
deriving DecidableEq, Inhabited
def encEntry (x : Entry) : List AV := [.cplx .f64 x.ver.re x.ver.im, .int .i64 x.kind, .str x.key, .str x.val, .bool x.write, .bool x.del, .int .i64 x.sess, .int .i64 x.num, .int .i64 x.code, .str x.res, .bool x.hasRes]
def decEntry (cs : List AV) : Entry := ⟨⟨(getC cs 0).1, (getC cs 0).2⟩, getI cs 1, getS cs 2, getS cs 3, getB cs 4, getB cs 5, getI cs 6, getI cs 7, getI cs 8, getS cs 9, getB cs 10⟩
theorem dec_encEntry (x : Entry) : decEntry (encEntry x) = x := rfl
def encEntrys (l : List Entry) : AV := encL 11 encEntry default l
theorem decEntrys (l : List Entry) : decL decEntry (encEntrys l) = l := decL_encL dec_encEntry l

structure Seen where
  sess : Int
  num : Int
  ver : Ver
  kind : Int
  code : Int
  res : List UInt8
  hasRes : Bool
deriving DecidableEq, Inhabited
def encSeen (x : Seen) : List AV := [.int .i64 x.sess, .int .i64 x.num, .cplx .f64 x.ver.re x.ver.im, .int .i64 x.kind, .int .i64 x.code, .str x.res, .bool x.hasRes]
def decSeen (cs : List AV) : Seen := ⟨getI cs 0, getI cs 1, ⟨(getC cs 2).1, (getC cs 2).2⟩, getI cs 3, getI cs 4, getS cs 5, getB cs 6⟩
theorem dec_encSeen (x : Seen) : decSeen (encSeen x) = x := rfl
def encSeens (l : List Seen) : AV := encL 7 encSeen default l
theorem decSeens (l : List Seen) : decL decSeen (encSeens l) = l := decL_encL dec_encSeen l

structure View where
  shard : Int
  epoch : Int
  gen : Int
  phase : Int
  chain : List Member
deriving DecidableEq, Inhabited
def encView (x : View) : List AV := [.int .i64 x.shard, .int .i64 x.epoch, .int .i64 x.gen, .int .i64 x.phase, encMembers x.chain]
def decView (cs : List AV) : View := ⟨getI cs 0, getI cs 1, getI cs 2, getI cs 3, getL decMember cs 4⟩
theorem dec_encView (x : View) : decView (encView x) = x := by
  show (⟨x.shard, x.epoch, x.gen, x.phase, decL decMember (encMembers x.chain)⟩ : View) = x
  rw [decMembers]
def encViews (l : List View) : AV := encL 5 encView default l
theorem decViews (l : List View) : decL decView (encViews l) = l := decL_encL dec_encView l

structure Tail where
  floor : Ver
  last : Ver
  log : List Entry
deriving DecidableEq, Inhabited
def encTail (x : Tail) : List AV := [.cplx .f64 x.floor.re x.floor.im, .cplx .f64 x.last.re x.last.im, encEntrys x.log]
def decTail (cs : List AV) : Tail := ⟨⟨(getC cs 0).1, (getC cs 0).2⟩, ⟨(getC cs 1).1, (getC cs 1).2⟩, getL decEntry cs 2⟩
theorem dec_encTail (x : Tail) : decTail (encTail x) = x := by
  show (⟨⟨x.floor.re, x.floor.im⟩, ⟨x.last.re, x.last.im⟩, decL decEntry (encEntrys x.log)⟩ : Tail) = x
  rw [decEntrys]
def encTails (l : List Tail) : AV := encL 3 encTail default l
theorem decTails (l : List Tail) : decL decTail (encTails l) = l := decL_encL dec_encTail l

structure Op where
  kind : Int
  key : List UInt8
  val : List UInt8
  old : List UInt8
  hasOld : Bool
deriving DecidableEq, Inhabited
def encOp (x : Op) : List AV := [.int .i64 x.kind, .str x.key, .str x.val, .str x.old, .bool x.hasOld]
def decOp (cs : List AV) : Op := ⟨getI cs 0, getS cs 1, getS cs 2, getS cs 3, getB cs 4⟩
theorem dec_encOp (x : Op) : decOp (encOp x) = x := rfl
def encOps (l : List Op) : AV := encL 5 encOp default l
theorem decOps (l : List Op) : decL decOp (encOps l) = l := decL_encL dec_encOp l

structure Image where
  floor : Ver
  last : Ver
  gen : Int
  log : List Entry
  seen : List Seen
deriving DecidableEq, Inhabited
def encImage (x : Image) : List AV := [.cplx .f64 x.floor.re x.floor.im, .cplx .f64 x.last.re x.last.im, .int .i64 x.gen, encEntrys x.log, encSeens x.seen]
def decImage (cs : List AV) : Image := ⟨⟨(getC cs 0).1, (getC cs 0).2⟩, ⟨(getC cs 1).1, (getC cs 1).2⟩, getI cs 2, getL decEntry cs 3, getL decSeen cs 4⟩
theorem dec_encImage (x : Image) : decImage (encImage x) = x := by
  show (⟨⟨x.floor.re, x.floor.im⟩, ⟨x.last.re, x.last.im⟩, x.gen, decL decEntry (encEntrys x.log), decL decSeen (encSeens x.seen)⟩ : Image) = x
  rw [decEntrys, decSeens]
def encImages (l : List Image) : AV := encL 5 encImage default l
theorem decImages (l : List Image) : decL decImage (encImages l) = l := decL_encL dec_encImage l

structure Msg where
  kind : Int
  src : Int
  dst : Int
  boot : Int
  sboot : Int
  shard : Int
  epoch : Int
  gen : Int
  sess : Int
  num : Int
  a : Int
  code : Int
  has : Bool
  fresh : Bool
  key : List UInt8
  val : List UInt8
  ver : Ver
  floor : Ver
  op : Op
  entries : List Entry
  chain : List Member
  views : List View
  image : Image
deriving DecidableEq, Inhabited
def encMsg (x : Msg) : List AV := [.int .i64 x.kind, .int .i64 x.src, .int .i64 x.dst, .int .i64 x.boot, .int .i64 x.sboot, .int .i64 x.shard, .int .i64 x.epoch, .int .i64 x.gen, .int .i64 x.sess, .int .i64 x.num, .int .i64 x.a, .int .i64 x.code, .bool x.has, .bool x.fresh, .str x.key, .str x.val, .cplx .f64 x.ver.re x.ver.im, .cplx .f64 x.floor.re x.floor.im, .int .i64 x.op.kind, .str x.op.key, .str x.op.val, .str x.op.old, .bool x.op.hasOld, encEntrys x.entries, encMembers x.chain, encViews x.views, .cplx .f64 x.image.floor.re x.image.floor.im, .cplx .f64 x.image.last.re x.image.last.im, .int .i64 x.image.gen, encEntrys x.image.log, encSeens x.image.seen]
def decMsg (cs : List AV) : Msg := ⟨getI cs 0, getI cs 1, getI cs 2, getI cs 3, getI cs 4, getI cs 5, getI cs 6, getI cs 7, getI cs 8, getI cs 9, getI cs 10, getI cs 11, getB cs 12, getB cs 13, getS cs 14, getS cs 15, ⟨(getC cs 16).1, (getC cs 16).2⟩, ⟨(getC cs 17).1, (getC cs 17).2⟩, ⟨getI cs 18, getS cs 19, getS cs 20, getS cs 21, getB cs 22⟩, getL decEntry cs 23, getL decMember cs 24, getL decView cs 25, ⟨⟨(getC cs 26).1, (getC cs 26).2⟩, ⟨(getC cs 27).1, (getC cs 27).2⟩, getI cs 28, getL decEntry cs 29, getL decSeen cs 30⟩⟩
theorem dec_encMsg (x : Msg) : decMsg (encMsg x) = x := by
  show (⟨x.kind, x.src, x.dst, x.boot, x.sboot, x.shard, x.epoch, x.gen, x.sess, x.num, x.a, x.code, x.has, x.fresh, x.key, x.val, ⟨x.ver.re, x.ver.im⟩, ⟨x.floor.re, x.floor.im⟩, ⟨x.op.kind, x.op.key, x.op.val, x.op.old, x.op.hasOld⟩, decL decEntry (encEntrys x.entries), decL decMember (encMembers x.chain), decL decView (encViews x.views), ⟨⟨x.image.floor.re, x.image.floor.im⟩, ⟨x.image.last.re, x.image.last.im⟩, x.image.gen, decL decEntry (encEntrys x.image.log), decL decSeen (encSeens x.image.seen)⟩⟩ : Msg) = x
  simp only [decEntrys, decMembers, decViews, decSeens]
def encMsgs (l : List Msg) : AV := encL 31 encMsg default l
theorem decMsgs (l : List Msg) : decL decMsg (encMsgs l) = l := decL_encL dec_encMsg l

structure Rep where
  shard : Int
  self : Member
  view : View
  frozen : Int
  tail : Tail
  seen : List Seen
  got : Ver
  synced : List Bool
deriving DecidableEq, Inhabited
def encRep (x : Rep) : List AV := [.int .i64 x.shard, .int .i64 x.self.node, .int .i64 x.self.boot, .int .i64 x.view.shard, .int .i64 x.view.epoch, .int .i64 x.view.gen, .int .i64 x.view.phase, encMembers x.view.chain, .int .i64 x.frozen, .cplx .f64 x.tail.floor.re x.tail.floor.im, .cplx .f64 x.tail.last.re x.tail.last.im, encEntrys x.tail.log, encSeens x.seen, .cplx .f64 x.got.re x.got.im, encBools x.synced]
def decRep (cs : List AV) : Rep := ⟨getI cs 0, ⟨getI cs 1, getI cs 2⟩, ⟨getI cs 3, getI cs 4, getI cs 5, getI cs 6, getL decMember cs 7⟩, getI cs 8, ⟨⟨(getC cs 9).1, (getC cs 9).2⟩, ⟨(getC cs 10).1, (getC cs 10).2⟩, getL decEntry cs 11⟩, getL decSeen cs 12, ⟨(getC cs 13).1, (getC cs 13).2⟩, getL decBool cs 14⟩
theorem dec_encRep (x : Rep) : decRep (encRep x) = x := by
  show (⟨x.shard, ⟨x.self.node, x.self.boot⟩, ⟨x.view.shard, x.view.epoch, x.view.gen, x.view.phase, decL decMember (encMembers x.view.chain)⟩, x.frozen, ⟨⟨x.tail.floor.re, x.tail.floor.im⟩, ⟨x.tail.last.re, x.tail.last.im⟩, decL decEntry (encEntrys x.tail.log)⟩, decL decSeen (encSeens x.seen), ⟨x.got.re, x.got.im⟩, decL decBool (encBools x.synced)⟩ : Rep) = x
  rw [decMembers, decEntrys, decSeens, decBools]
def encReps (l : List Rep) : AV := encL 15 encRep default l
theorem decReps (l : List Rep) : decL decRep (encReps l) = l := decL_encL dec_encRep l

structure Plan where
  epoch : Int
  gen : Int
  phase : Int
  fresh : Bool
  base : Int
  reset : Int
  chain : List Member
  valid : List Member
deriving DecidableEq, Inhabited
def encPlan (x : Plan) : List AV := [.int .i64 x.epoch, .int .i64 x.gen, .int .i64 x.phase, .bool x.fresh, .int .i64 x.base, .int .i64 x.reset, encMembers x.chain, encMembers x.valid]
def decPlan (cs : List AV) : Plan := ⟨getI cs 0, getI cs 1, getI cs 2, getB cs 3, getI cs 4, getI cs 5, getL decMember cs 6, getL decMember cs 7⟩
theorem dec_encPlan (x : Plan) : decPlan (encPlan x) = x := by
  show (⟨x.epoch, x.gen, x.phase, x.fresh, x.base, x.reset, decL decMember (encMembers x.chain), decL decMember (encMembers x.valid)⟩ : Plan) = x
  simp only [decMembers]
def encPlans (l : List Plan) : AV := encL 8 encPlan default l
theorem decPlans (l : List Plan) : decL decPlan (encPlans l) = l := decL_encL dec_encPlan l

structure Book where
  sess : Int
  gen : Int
  shards : List Plan
deriving DecidableEq, Inhabited
def encBook (x : Book) : List AV := [.int .i64 x.sess, .int .i64 x.gen, encPlans x.shards]
def decBook (cs : List AV) : Book := ⟨getI cs 0, getI cs 1, getL decPlan cs 2⟩
theorem dec_encBook (x : Book) : decBook (encBook x) = x := by
  show (⟨x.sess, x.gen, decL decPlan (encPlans x.shards)⟩ : Book) = x
  rw [decPlans]
def encBooks (l : List Book) : AV := encL 3 encBook default l
theorem decBooks (l : List Book) : decL decBook (encBooks l) = l := decL_encL dec_encBook l

structure Alive where
  member : Member
  missed : Int
deriving DecidableEq, Inhabited
def encAlive (x : Alive) : List AV := [.int .i64 x.member.node, .int .i64 x.member.boot, .int .i64 x.missed]
def decAlive (cs : List AV) : Alive := ⟨⟨getI cs 0, getI cs 1⟩, getI cs 2⟩
theorem dec_encAlive (x : Alive) : decAlive (encAlive x) = x := rfl
def encAlives (l : List Alive) : AV := encL 3 encAlive default l
theorem decAlives (l : List Alive) : decL decAlive (encAlives l) = l := decL_encL dec_encAlive l

structure Work where
  fenced : Bool
  keep : List Member
  froze : List Msg
  heard : Bool
deriving DecidableEq, Inhabited
def encWork (x : Work) : List AV := [.bool x.fenced, encMembers x.keep, encMsgs x.froze, .bool x.heard]
def decWork (cs : List AV) : Work := ⟨getB cs 0, getL decMember cs 1, getL decMsg cs 2, getB cs 3⟩
theorem dec_encWork (x : Work) : decWork (encWork x) = x := by
  show (⟨x.fenced, decL decMember (encMembers x.keep), decL decMsg (encMsgs x.froze), x.heard⟩ : Work) = x
  rw [decMembers, decMsgs]
def encWorks (l : List Work) : AV := encL 4 encWork default l
theorem decWorks (l : List Work) : decL decWork (encWorks l) = l := decL_encL dec_encWork l

structure Bureau where
  book : Book
  nodes : List Alive
  work : List Work
  opens : List Msg
  asks : List Msg
deriving DecidableEq, Inhabited
def encBureau (x : Bureau) : List AV := [.int .i64 x.book.sess, .int .i64 x.book.gen, encPlans x.book.shards, encAlives x.nodes, encWorks x.work, encMsgs x.opens, encMsgs x.asks]
def decBureau (cs : List AV) : Bureau := ⟨⟨getI cs 0, getI cs 1, getL decPlan cs 2⟩, getL decAlive cs 3, getL decWork cs 4, getL decMsg cs 5, getL decMsg cs 6⟩
theorem dec_encBureau (x : Bureau) : decBureau (encBureau x) = x := by
  show (⟨⟨x.book.sess, x.book.gen, decL decPlan (encPlans x.book.shards)⟩, decL decAlive (encAlives x.nodes), decL decWork (encWorks x.work), decL decMsg (encMsgs x.opens), decL decMsg (encMsgs x.asks)⟩ : Bureau) = x
  simp only [decPlans, decAlives, decWorks, decMsgs]
def encBureaus (l : List Bureau) : AV := encL 7 encBureau default l
theorem decBureaus (l : List Bureau) : decL decBureau (encBureaus l) = l := decL_encL dec_encBureau l

end Go.Md
end

section
/- Versions as pairs of whole numbers, told plainly. -/
open Go Go.AM Go.Md Go.Fl
open Ieee (double)
namespace Go.Wk
set_option maxRecDepth 100000
set_option maxHeartbeats 1000000
/-- how long a list may be -/
def LB : Nat := 1000000

/-- a version that equals itself -/
def VOk (v : Ver) : Prop := fEq .f64 v.re v.re = true ∧ fEq .f64 v.im v.im = true

def I64 (n : Int) : Prop := -9223372036854775808 ≤ n ∧ n ≤ 9223372036854775807
/-- the whole numbers of a version -/
def fI (b : Nat) : Option Int := (FloatKind.f64.decode b).toInt .zero
def vE (v : Ver) : Int := (fI v.re).getD 0
def vN (v : Ver) : Int := (fI v.im).getD 0
def okI (b : Nat) : Prop := (fI b).isSome = true ∧ IntKind.i64.min ≤ (fI b).getD 0 ∧ (fI b).getD 0 ≤ IntKind.i64.max
def VInt (v : Ver) : Prop := okI v.re ∧ okI v.im
theorem okI64 {b : Nat} (h : okI b) : I64 ((fI b).getD 0) := by
  obtain ⟨_, h1, h2⟩ := h
  have e1 : IntKind.i64.min = -9223372036854775808 := by decide
  have e2 : IntKind.i64.max = 9223372036854775807 := by decide
  rw [e1] at h1; rw [e2] at h2
  exact ⟨h1, h2⟩

def eV (v : Ver) : AV := .cplx .f64 v.re v.im
def vr (e n : Nat) : Ver := ⟨fl e, fl n⟩
theorem fEq_fl {n m : Nat} (hn : n < 2 ^ 53) (hm : m < 2 ^ 53) : fEq .f64 (fl n) (fl m) = decide (n = m) := by
  have : FloatKind.f64.format.order (fl n) (fl m) = some (compare n m) := order_fl hn hm
  unfold fEq; rw [this]
  rcases Nat.lt_trichotomy n m with h | h | h
  · rw [Nat.compare_eq_lt.2 h, decide_eq_false (by omega)]; rfl
  · rw [Nat.compare_eq_eq.2 h, decide_eq_true h]; rfl
  · rw [Nat.compare_eq_gt.2 h, decide_eq_false (by omega)]; rfl
theorem fLt_fl {n m : Nat} (hn : n < 2 ^ 53) (hm : m < 2 ^ 53) : fLt .f64 (fl n) (fl m) = decide (n < m) := by
  have : FloatKind.f64.format.order (fl n) (fl m) = some (compare n m) := order_fl hn hm
  unfold fLt; rw [this]
  rcases Nat.lt_trichotomy n m with h | h | h
  · rw [Nat.compare_eq_lt.2 h, decide_eq_true h]; rfl
  · rw [Nat.compare_eq_eq.2 h, decide_eq_false (by omega)]; rfl
  · rw [Nat.compare_eq_gt.2 h, decide_eq_false (by omega)]; rfl
theorem fI_fl {n : Nat} (hn : n < 2 ^ 53) : fI (fl n) = some (n : Int) := toInt_fl hn
theorem okI_fl {n : Nat} (hn : n < 2 ^ 53) : okI (fl n) := by
  unfold okI; rw [fI_fl hn]
  have e1 : IntKind.i64.min = -9223372036854775808 := by decide
  have e2 : IntKind.i64.max = 9223372036854775807 := by decide
  rw [e1, e2]
  refine ⟨rfl, ?_, ?_⟩ <;> simp only [Option.getD_some] <;> omega
theorem near_fl (n : Nat) : FloatKind.f64.nearest (n : Int) = fl n := by
  show double.nearest (decide ((n : Int) < 0)) (n : Int).natAbs 0 = fl n
  rw [decide_eq_false (by omega), Int.natAbs_natCast]; rfl
theorem one_fl : fl 1 = 4607182418800017408 := by decide
theorem next_fl {n : Nat} (h : n + 1 < 2 ^ 53) : FloatKind.f64.format.add (fl n) 4607182418800017408 = some (fl (n + 1)) := by
  rw [← one_fl]; exact add_fl h
/-- a version of two small numbers -/
def VNum (v : Ver) : Prop := ∃ e n : Nat, e < 2 ^ 40 ∧ n < 2 ^ 40 ∧ v = vr e n
theorem VNum.int {v : Ver} (h : VNum v) : VInt v := by
  obtain ⟨e, n, he, hn, rfl⟩ := h
  exact ⟨okI_fl (by omega), okI_fl (by omega)⟩
theorem VNum.ok {v : Ver} (h : VNum v) : VOk v := by
  obtain ⟨e, n, he, hn, rfl⟩ := h
  exact ⟨by rw [vr, fEq_fl (by omega) (by omega)]; simp, by rw [vr, fEq_fl (by omega) (by omega)]; simp⟩
/-- the numbers of a version -/
def ep (v : Ver) : Nat := (vE v).toNat
def nu (v : Ver) : Nat := (vN v).toNat
theorem ep_vr {e n : Nat} (h : e < 2 ^ 40) : ep (vr e n) = e := by
  show ((fI (fl e)).getD 0).toNat = e; rw [fI_fl (by omega)]; rfl
theorem nu_vr {e n : Nat} (h : n < 2 ^ 40) : nu (vr e n) = n := by
  show ((fI (fl n)).getD 0).toNat = n; rw [fI_fl (by omega)]; rfl
theorem VNum.eta {v : Ver} (h : VNum v) : v = vr (ep v) (nu v) := by
  obtain ⟨e, n, he, hn, rfl⟩ := h
  rw [ep_vr he, nu_vr hn]
theorem VNum.lt {v : Ver} (h : VNum v) : ep v < 2 ^ 40 ∧ nu v < 2 ^ 40 := by
  obtain ⟨e, n, he, hn, rfl⟩ := h
  rw [ep_vr he, nu_vr hn]; exact ⟨he, hn⟩
/-- is b ahead of a? -/
def vlt (a b : Ver) : Bool := bif decide (ep a = ep b) then decide (nu a < nu b) else decide (ep a < ep b)
def vmax (a b : Ver) : Ver := bif vlt a b then b else a
theorem vmax_comm_of {a b : Ver} (ha : VNum a) (hb : VNum b) (h : vlt a b = false) (h' : vlt b a = false) : a = b := by
  rw [ha.eta, hb.eta]
  unfold vlt at h h'
  by_cases e : ep a = ep b
  · rw [decide_eq_true e, cond_true] at h
    rw [decide_eq_true e.symm, cond_true] at h'
    have h1 := of_decide_eq_false h
    have h2 := of_decide_eq_false h'
    have : nu a = nu b := by omega
    rw [e, this]
  · rw [decide_eq_false e, cond_false] at h
    rw [decide_eq_false fun x => e x.symm, cond_false] at h'
    have h1 := of_decide_eq_false h
    have h2 := of_decide_eq_false h'
    omega
theorem vlt_vr {e n f m : Nat} (he : e < 2 ^ 40) (hn : n < 2 ^ 40) (hf : f < 2 ^ 40) (hm : m < 2 ^ 40) : vlt (vr e n) (vr f m) = bif decide (e = f) then decide (n < m) else decide (e < f) := by
  unfold vlt; rw [ep_vr he, ep_vr hf, nu_vr hn, nu_vr hm]
theorem bif_some {X : Type} (c : Bool) (a b : X) : (bif c then some a else some b) = some (bif c then a else b) := by cases c <;> rfl
theorem bif_not {X : Type} (c : Bool) (a b : X) : (bif !c then a else b) = bif c then b else a := by cases c <;> rfl
theorem fvlt {a b : Ver} (ha : VNum a) (hb : VNum b) : (bif fEq .f64 a.re b.re then fLt .f64 a.im b.im else fLt .f64 a.re b.re) = vlt a b := by
  obtain ⟨e, n, he, hn, rfl⟩ := ha
  obtain ⟨f, m, hf, hm, rfl⟩ := hb
  rw [vlt_vr he hn hf hm]
  show (bif fEq .f64 (fl e) (fl f) then fLt .f64 (fl n) (fl m) else fLt .f64 (fl e) (fl f)) = _
  rw [fEq_fl (by omega) (by omega), fLt_fl (by omega) (by omega), fLt_fl (by omega) (by omega)]
theorem vmax_swap {a b : Ver} (ha : VNum a) (hb : VNum b) : (bif vlt b a then a else b) = vmax a b := by
  unfold vmax
  by_cases h : vlt b a = true
  · have : vlt a b = false := by
      unfold vlt at h ⊢
      by_cases e : ep a = ep b
      · rw [decide_eq_true e.symm, cond_true] at h
        rw [decide_eq_true e, cond_true]
        have := of_decide_eq_true h
        exact decide_eq_false (by omega)
      · rw [decide_eq_false fun x => e x.symm, cond_false] at h
        rw [decide_eq_false e, cond_false]
        have := of_decide_eq_true h
        exact decide_eq_false (by omega)
    rw [h, this]; rfl
  · have h := Bool.eq_false_iff.2 h
    rw [h, cond_false]
    by_cases h' : vlt a b = true
    · rw [h']; rfl
    · have h' := Bool.eq_false_iff.2 h'
      rw [h', cond_false]; exact (vmax_comm_of ha hb h' h).symm
theorem vE_ep {v : Ver} (h : VNum v) : vE v = (ep v : Int) := by
  obtain ⟨e, n, he, hn, rfl⟩ := h
  rw [ep_vr he]; show (fI (fl e)).getD 0 = _; rw [fI_fl (by omega)]; rfl
theorem vN_nu {v : Ver} (h : VNum v) : vN v = (nu v : Int) := by
  obtain ⟨e, n, he, hn, rfl⟩ := h
  rw [nu_vr hn]; show (fI (fl n)).getD 0 = _; rw [fI_fl (by omega)]; rfl
theorem dec_int (a b : Nat) : decide ((a : Int) = (b : Int)) = decide (a = b) := by
  by_cases h : a = b
  · rw [h]; simp
  · rw [decide_eq_false h, decide_eq_false (by omega)]
theorem dec_ilt (a b : Nat) : decide ((a : Int) < (b : Int)) = decide (a < b) := by simp

end Go.Wk
end

section
/- A chain's member, told plainly. -/
open Go Go.AM Go.Md Go.Fl
namespace Go.Wk
def idxFrom (m : Member) : List Member → Nat → Int
  | [], _ => -1
  | x :: r, i => if x = m then i else idxFrom m r (i + 1)
def idx (l : List Member) (m : Member) : Int := idxFrom m l 0

def liveP (r : Rep) : Bool := !decide (r.view.phase = 0) && decide (r.frozen ≤ r.view.epoch)
def worksP (r : Rep) : Bool := liveP r && decide (r.view.phase = 3)
def syncsP (r : Rep) : Bool := liveP r && decide (r.view.phase = 2)
def isFirst : List Member → Member → Bool
  | [], _ => false
  | x :: _, m => decide (x = m)
def headP (r : Rep) : Bool := worksP r && isFirst r.view.chain r.self
def commitP (r : Rep) : Ver := bif headP r then bif decide (r.view.chain.length = 1) then r.tail.last else r.got else ⟨0, 0⟩
theorem idxFrom_pos (m : Member) : ∀ (l : List Member) (i : Nat), idxFrom m l (i + 1) ≠ 0
  | [], i => by simp [idxFrom]
  | x :: r, i => by
    unfold idxFrom
    split
    · omega
    · exact idxFrom_pos m r (i + 1)
theorem idx_first (l : List Member) (m : Member) : decide (idx l m = 0) = isFirst l m := by
  cases l with
  | nil => rfl
  | cons x r =>
    unfold idx idxFrom isFirst
    by_cases h : x = m
    · simp [h]
    · simp only [if_neg h, decide_eq_false h]; exact decide_eq_false (idxFrom_pos m r 0)
def toM (r : Rep) (x : Member) (k : Int) : Msg := ⟨k, r.self.node, x.node, x.boot, r.self.boot, r.shard, r.view.epoch, 0, 0, 0, 0, 0, false, false, [], [], ⟨0, 0⟩, ⟨0, 0⟩, ⟨0, [], [], [], false⟩, [], [], [], ⟨⟨0, 0⟩, ⟨0, 0⟩, 0, [], []⟩⟩
/-- what is noted of an entry -/
def ofP (e : Entry) : Seen := ⟨e.sess, e.num, e.ver, e.kind, e.code, e.res, e.hasRes⟩
/-- the entry of a version -/
def entP (v : Ver) : Entry := ⟨v, 2, [107], [118], true, false, 1, nu v, 0, [], false⟩
theorem idxFrom_le (m : Member) : ∀ (l : List Member) (i : Nat), -1 ≤ idxFrom m l i ∧ idxFrom m l i < (i + l.length : Nat)
  | [], i => by simp only [idxFrom, List.length_nil]; omega
  | x :: r, i => by
    have h := idxFrom_le m r (i + 1)
    simp only [idxFrom, List.length_cons]
    split <;> omega
theorem idx_le (l : List Member) (m : Member) : -1 ≤ idx l m ∧ idx l m < l.length := by
  have h := idxFrom_le m l 0
  unfold idx; omega
def sideP (l : List Member) (m : Member) (d : Int) : Option Member :=
  if idx l m < 0 ∨ idx l m + d < 0 ∨ (l.length : Int) ≤ idx l m + d then none else some (l.getD (idx l m + d).toNat default)
/-- up to where a member, and all behind it, have the log -/
def haveP (r : Rep) : Ver := bif (sideP r.view.chain r.self 1).isSome then r.got else r.tail.last
/-- the words to the member ahead, if there is one -/
def acksP (r : Rep) : List Msg := match sideP r.view.chain r.self (-1) with
  | none => []
  | some m => [{ toM r m 14 with ver := haveP r }]
end Go.Wk
end

section
/- A chain's member and a play of a chain, told plainly. -/
open Go Go.AM Go.Md Go.Fl
namespace Go.Wk

/-! ### a member -/
def instM (r : Rep) (m : Member) : Msg := { toM r m 11 with gen := r.view.gen, chain := r.view.chain, image := ⟨r.tail.floor, r.tail.last, r.view.gen, r.tail.log, r.seen⟩ }
def forwM (r : Rep) (m : Member) : Msg := { toM r m 13 with floor := r.tail.floor, entries := r.tail.log.filter fun e => vlt r.got e.ver }
def instsP (r : Rep) : List Member → List Bool → List Msg
  | m :: ms, s :: ss => bif s then instsP r ms ss else instM r m :: instsP r ms ss
  | _, _ => []
def forwsP (r : Rep) : List Msg := match sideP r.view.chain r.self 1 with
  | none => []
  | some m => [forwM r m]
def againP (r : Rep) : List Msg := bif syncsP r then instsP r r.view.chain r.synced else bif worksP r then forwsP r ++ acksP r else []
/-- what is seen, behind another call of the one session -/
def putP : List Seen → Seen → List Seen
  | [], s => [s]
  | a :: l, s => bif decide (a.num < s.num) then s :: l else a :: l
def pushR (r : Rep) (e : Entry) : Rep := { r with tail := ⟨r.tail.floor, e.ver, r.tail.log ++ [e]⟩, seen := putP r.seen (ofP e) }
def pushP (r : Rep) (e : Entry) : Rep × Bool := bif vlt r.tail.last e.ver then (pushR r e, true) else (r, false)
def liftP (t : Tail) (v : Ver) : Tail := ⟨vmax t.floor v, vmax t.last v, t.log.filter fun e => vlt v e.ver⟩
def liftR (r : Rep) (v : Ver) : Rep := { r with tail := liftP r.tail v }
def takeP (r : Rep) : List Entry → Rep
  | [] => r
  | e :: l => takeP (bif decide (nu e.ver = nu r.tail.last + 1) then (pushP r e).1 else r) l
def aboveP (r : Rep) (m : Msg) : Bool := decide (r.view.epoch < m.epoch) && decide (r.frozen ≤ m.epoch)
def frozeM (r : Rep) (m : Msg) : Msg := ⟨9, r.self.node, m.src, 0, r.self.boot, r.shard, m.epoch, 0, 0, 0, r.view.epoch, 0, !decide (r.view.phase = 0), false, [], [], r.tail.last, ⟨0, 0⟩, ⟨0, [], [], [], false⟩, [], [], [], ⟨⟨0, 0⟩, ⟨0, 0⟩, 0, [], []⟩⟩
def freezeP (r : Rep) (m : Msg) : Rep × List Msg := bif aboveP r m then ({ r with frozen := m.epoch }, [frozeM r m]) else (r, [])
def tail0 (e : Int) : Tail := ⟨vr e.toNat 0, vr e.toNat 0, []⟩
def actT (r : Rep) (m : Msg) : Tail := bif m.fresh then tail0 m.epoch else r.tail
def actR (r : Rep) (m : Msg) : Rep :=
  { r with view := ⟨m.shard, m.epoch, m.gen, bif decide (m.chain.length = 1) then 3 else 2, m.chain⟩, synced := true :: List.replicate (m.chain.length - 1) false, tail := actT r m, seen := bif m.fresh then [] else r.seen, got := (actT r m).last }
def actG (r : Rep) (m : Msg) : Bool := aboveP r m && (isFirst m.chain r.self && (m.fresh || (!decide (r.view.phase = 0) && decide (m.epoch = r.frozen))))
def actP (r : Rep) (m : Msg) : Rep × List Msg := bif actG r m then (actR r m, againP (actR r m)) else (r, [])
def insR (r : Rep) (m : Msg) : Rep := bif aboveP r m then { r with view := ⟨m.shard, m.epoch, m.gen, 3, m.chain⟩, tail := ⟨m.image.floor, m.image.last, m.image.log⟩, seen := m.image.seen, got := m.image.last, synced := [] } else r
def insP (r : Rep) (m : Msg) : Rep × List Msg :=
  bif decide (0 < idx m.chain r.self) then (insR r m, bif liveP (insR r m) && decide (m.epoch = (insR r m).view.epoch) then [toM (insR r m) ⟨m.src, m.sboot⟩ 12] else []) else (r, [])
def who (m : Msg) : Member := ⟨m.src, m.sboot⟩
def indS (r : Rep) (m : Msg) : List Bool := r.synced.set (idx r.view.chain (who m)).toNat true
def indR (r : Rep) (m : Msg) : Rep := bif (indS r m).all id then { r with synced := indS r m, view := { r.view with phase := 3 }, got := r.tail.last } else { r with synced := indS r m }
def indP (r : Rep) (m : Msg) : Rep × List Msg :=
  bif syncsP r && (decide (m.epoch = r.view.epoch) && decide (0 ≤ idx r.view.chain (who m))) then (indR r m, []) else (r, [])
def fwdR (r : Rep) (m : Msg) : Rep := bif vlt (takeP r m.entries).tail.last m.floor then takeP r m.entries else liftR (takeP r m.entries) m.floor
def nextG (r : Rep) (m : Msg) (d : Int) : Bool := worksP r && (decide (m.epoch = r.view.epoch) && decide (sideP r.view.chain r.self d = some (who m)))
def fwdP (r : Rep) (m : Msg) : Rep × List Msg := bif nextG r m (-1) then (fwdR r m, againP (fwdR r m)) else (r, [])
def ackR (r : Rep) (m : Msg) : Rep := bif vlt r.tail.last m.ver then r else { r with got := vmax r.got m.ver }
def ackP (r : Rep) (m : Msg) : Rep × List Msg := bif nextG r m 1 then (ackR r m, acksP (ackR r m)) else (r, [])
def toMe (r : Rep) (m : Msg) : Bool := decide (m.dst = r.self.node) && (decide (m.boot = r.self.boot) && decide (m.shard = r.shard))
def handK (r : Rep) (m : Msg) : Rep × List Msg :=
  bif decide (m.kind = 8) then freezeP r m else bif decide (m.kind = 10) then actP r m else bif decide (m.kind = 11) then insP r m else
  bif decide (m.kind = 12) then indP r m else bif decide (m.kind = 13) then fwdP r m else bif decide (m.kind = 14) then ackP r m else (r, [])
def handP (r : Rep) (m : Msg) : Rep × List Msg := bif toMe r m then handK r m else (r, [])

/-! ### a play -/
structure Play where
  reps : List Rep
  way : List Msg
  epoch : Int
  valid : List Member
  safe : Ver
deriving DecidableEq, Inhabited
def mem0 (i : Nat) : Member := ⟨2 + i, 1⟩
def rep0 (m : Member) : Rep := ⟨0, m, ⟨0, 0, 0, 0, []⟩, 0, ⟨⟨0, 0⟩, ⟨0, 0⟩, []⟩, [], ⟨0, 0⟩, []⟩
def actMsg (h : Member) (e : Int) (fresh : Bool) (l : List Member) : Msg := ⟨10, 0, h.node, h.boot, 0, 0, e, 0, 0, 0, 0, 0, false, fresh, [], [], ⟨0, 0⟩, ⟨0, 0⟩, ⟨0, [], [], [], false⟩, [], l, [], ⟨⟨0, 0⟩, ⟨0, 0⟩, 0, [], []⟩⟩
def frzMsg (h : Member) (e : Int) : Msg := ⟨8, 1, h.node, h.boot, 0, 0, e, 0, 0, 0, 0, 0, false, false, [], [], ⟨0, 0⟩, ⟨0, 0⟩, ⟨0, [], [], [], false⟩, [], [], [], ⟨⟨0, 0⟩, ⟨0, 0⟩, 0, [], []⟩⟩
def beginP (n : Nat) : Play := ⟨(List.range n).map fun i => rep0 (mem0 i), [actMsg ⟨2, 1⟩ 1 true ((List.range n).map mem0)], 1, ((List.range n).map mem0).take 1, ⟨0, 0⟩⟩
def repAt (p : Play) (j : Nat) : Rep := p.reps.getD j default
def putR (p : Play) (j : Nat) (r : Rep) : Play := { p with reps := p.reps.set j r }
def layW (p : Play) (l : List Msg) : Play := { p with way := p.way ++ l }
def giveAt (p : Play) (m : Msg) (j : Nat) : Play := bif decide ((repAt p j).self.node = m.dst) then layW (putR p j (handP (repAt p j) m).1) (handP (repAt p j) m).2 else p
/-- a message is given to the members from j on, so many -/
def giveF (m : Msg) : Nat → Nat → Play → Play
  | 0, _, p => p
  | d + 1, j, p => giveF m d (j + 1) (giveAt p m j)
def giveP (p : Play) (m : Msg) : Play := giveF m p.reps.length 0 p
/-- is b newer than a? -/
def newer (a b : Rep) : Bool := decide (a.view.epoch < b.view.epoch) || (decide (b.view.epoch = a.view.epoch) && vlt a.tail.last b.tail.last)
structure TS where
  p : Play
  best : Option Nat
  keep : List Member
def frzAt (p : Play) (j : Nat) : Play := let q := giveP p (frzMsg (repAt p j).self p.epoch); { q with way := q.way.dropLast }
def turnAt (up : Nat → Bool) (t : TS) (j : Nat) : TS :=
  bif up j && decide ((repAt t.p j).self ∈ t.p.valid) then
    let q := frzAt t.p j
    ⟨q, some (match t.best with
      | none => j
      | some b => bif newer (repAt q b) (repAt q j) then j else b), t.keep ++ [(repAt q j).self]⟩
  else t
def turnF (up : Nat → Bool) : Nat → Nat → TS → TS
  | 0, _, t => t
  | d + 1, j, t => turnF up d (j + 1) (turnAt up t j)
/-- who else is up -/
def restF (up : Nat → Bool) (b : Nat) (p : Play) : Nat → Nat → List Member
  | 0, _ => []
  | d + 1, j => bif up j && !decide (j = b) then (repAt p j).self :: restF up b p d (j + 1) else restF up b p d (j + 1)
def turnE (up : Nat → Bool) (t : TS) : Play := match t.best with
  | none => t.p
  | some b => { t.p with valid := t.keep, way := t.p.way ++ [actMsg (repAt t.p b).self t.p.epoch false ((repAt t.p b).self :: restF up b t.p t.p.reps.length 0)] }
def turnP (up : Nat → Bool) (p : Play) : Play := turnE up (turnF up p.reps.length 0 ⟨{ p with epoch := p.epoch + 1 }, none, []⟩)
def noteAt (p : Play) (j : Nat) : Play :=
  { p with valid := bif decide ((repAt p j).view.epoch = p.epoch) && headP (repAt p j) then (repAt p j).view.chain else p.valid, safe := vmax p.safe (commitP (repAt p j)) }
def noteF : Nat → Nat → Play → Play
  | 0, _, p => p
  | d + 1, j, p => noteF d (j + 1) (noteAt p j)
def noteP (p : Play) : Play := noteF p.reps.length 0 p
def lead (p : Play) (j : Nat) : Bool := decide ((repAt p j).view.epoch = p.epoch) && headP (repAt p j)
def nextV (r : Rep) : Ver := vr r.view.epoch.toNat (nu r.tail.last + 1)
/-- what the head of the newest epoch does -/
def leadF (f : Rep → Rep) (p : Play) : Nat → Nat → Play
  | 0, _ => p
  | d + 1, j => bif lead p j then putR p j (f (repAt p j)) else leadF f p d (j + 1)
def doP (up : Nat → Bool) (k i : Nat) (p : Play) : Play :=
  bif decide (k ≤ 2) then
    bif decide (p.way.length = 0) then p else
    bif decide (k = 2) then layW p [p.way.getD (i % p.way.length) default] else
    bif decide (k = 1) then { p with way := p.way.eraseIdx (i % p.way.length) } else
    giveP { p with way := p.way.eraseIdx (i % p.way.length) } (p.way.getD (i % p.way.length) default)
  else bif decide (k = 4) then layW p (againP (repAt p (i % p.reps.length)))
  else bif decide (k = 5) then turnP up p
  else bif decide (k = 6) then leadF (fun r => liftR r (commitP r)) p p.reps.length 0
  else leadF (fun r => (pushP r (entP (nextV r))).1) p p.reps.length 0
end Go.Wk
end

section
/- What holds of members, messages and plays of a chain: kinds of values, small numbers. -/
open Go Go.AM Go.Md Go.Fl
namespace Go.Wk

/-! ### order of versions -/
def vle (a b : Ver) : Prop := vlt b a = false
theorem vle_iff {a b : Ver} : vle a b ↔ ep a < ep b ∨ (ep a = ep b ∧ nu a ≤ nu b) := by
  unfold vle vlt
  by_cases h : ep b = ep a
  · rw [decide_eq_true h, cond_true]
    constructor
    · intro h2; have := of_decide_eq_false h2; omega
    · intro h2; exact decide_eq_false (by omega)
  · rw [decide_eq_false h, cond_false]
    constructor
    · intro h2; have := of_decide_eq_false h2; omega
    · intro h2; exact decide_eq_false (by omega)
theorem vlt_iff {a b : Ver} : vlt a b = true ↔ ep a < ep b ∨ (ep a = ep b ∧ nu a < nu b) := by
  unfold vlt
  by_cases h : ep a = ep b
  · rw [decide_eq_true h, cond_true, decide_eq_true_iff]; omega
  · rw [decide_eq_false h, cond_false, decide_eq_true_iff]; omega
theorem vle.refl (a : Ver) : vle a a := vle_iff.2 (by omega)
theorem vle.trans {a b c : Ver} (h : vle a b) (h' : vle b c) : vle a c := by
  rw [vle_iff] at *; omega
theorem vle_of_lt {a b : Ver} (h : vlt a b = true) : vle a b := by
  rw [vlt_iff] at h; rw [vle_iff]; omega
theorem vle_total (a b : Ver) : vle a b ∨ vle b a := by
  rw [vle_iff, vle_iff]; omega
theorem not_vlt {a b : Ver} (h : vlt a b = false) : vle b a := h
theorem vmax_l (a b : Ver) : vle a (vmax a b) := by
  unfold vmax
  cases h : vlt a b with
  | true => exact vle_of_lt h
  | false => exact vle.refl a
theorem vmax_r (a b : Ver) : vle b (vmax a b) := by
  unfold vmax
  cases h : vlt a b with
  | true => exact vle.refl b
  | false => exact h
theorem vmax_or (a b : Ver) : vmax a b = a ∨ vmax a b = b := by
  unfold vmax; cases vlt a b <;> simp
theorem vmax_le {a b c : Ver} (h : vle a c) (h' : vle b c) : vle (vmax a b) c := by
  rcases vmax_or a b with e | e <;> rw [e] <;> assumption
theorem vmax_left {a b : Ver} (h : vle b a) : vmax a b = a := by
  unfold vmax; rw [show vlt a b = false from h]; rfl

/-- a version of numbers up to N -/
def VB (N : Nat) (v : Ver) : Prop := ∃ e n : Nat, e ≤ N ∧ n ≤ N ∧ v = vr e n
theorem VB.num {N : Nat} {v : Ver} (h : VB N v) (hN : N ≤ 1000) : VNum v := by
  obtain ⟨e, n, he, hn, rfl⟩ := h
  exact ⟨e, n, by omega, by omega, rfl⟩
theorem VB.le {N : Nat} {v : Ver} (h : VB N v) (hN : N ≤ 1000) : ep v ≤ N ∧ nu v ≤ N := by
  obtain ⟨e, n, he, hn, rfl⟩ := h
  rw [ep_vr (by omega), nu_vr (by omega)]; exact ⟨he, hn⟩
theorem VB.mono {N M : Nat} {v : Ver} (h : VB N v) (hNM : N ≤ M) : VB M v := by
  obtain ⟨e, n, he, hn, rfl⟩ := h
  exact ⟨e, n, by omega, by omega, rfl⟩
theorem vr00 : (⟨0, 0⟩ : Ver) = vr 0 0 := by decide
theorem VB.zero (N : Nat) : VB N ⟨0, 0⟩ := ⟨0, 0, by omega, by omega, vr00⟩
theorem vle_zero (v : Ver) : vle ⟨0, 0⟩ v := by
  rw [vr00, vle_iff, ep_vr (by omega), nu_vr (by omega)]; omega
theorem VB.max {N : Nat} {a b : Ver} (h : VB N a) (h' : VB N b) : VB N (vmax a b) := by
  rcases vmax_or a b with e | e <;> rw [e] <;> assumption

/-! ### kinds -/
def MemIs (m : Member) : Prop := 2 ≤ m.node ∧ m.node ≤ 5 ∧ m.boot = 1
def ChainIs (l : List Member) : Prop := l.length ≤ 4 ∧ l.Nodup ∧ ∀ m ∈ l, MemIs m
def EntIs (N : Nat) (e : Entry) : Prop := VB N e.ver ∧ e = entP e.ver
structure TailIs (N : Nat) (t : Tail) : Prop where
  fl : VB N t.floor
  la : VB N t.last
  le : vle t.floor t.last
  len : t.log.length ≤ nu t.last
  ent : ∀ e ∈ t.log, EntIs N e
def SeenIs (N : Nat) (l : List Seen) : Prop := l.length ≤ 1 ∧ ∀ s ∈ l, ∃ v, VB N v ∧ s = ofP (entP v)
structure RepIs (E : Int) (N : Nat) (r : Rep) : Prop where
  shard : r.shard = 0
  self : MemIs r.self
  vsh : r.view.shard = 0
  gen : r.view.gen = 0
  ep0 : 0 ≤ r.view.epoch
  ep : r.view.epoch ≤ E
  fr0 : 0 ≤ r.frozen
  fr : r.frozen ≤ E
  ph : r.view.phase = 0 ∨ r.view.phase = 2 ∨ r.view.phase = 3
  chain : ChainIs r.view.chain
  sync : r.view.phase = 2 → isFirst r.view.chain r.self = true ∧ r.synced.length = r.view.chain.length
  synl : r.synced.length ≤ 4
  tail : TailIs N r.tail
  seen : SeenIs N r.seen
  got : VB N r.got
  gle : vle r.got r.tail.last
def Sm (n : Int) : Prop := 0 ≤ n ∧ n ≤ 1000
structure MsgIs (E : Int) (N : Nat) (m : Msg) : Prop where
  kind : Sm m.kind
  src : Sm m.src
  dst : Sm m.dst
  boot : Sm m.boot
  sboot : Sm m.sboot
  shard : m.shard = 0
  ep0 : 0 ≤ m.epoch
  ep : m.epoch ≤ E
  gen : m.gen = 0
  sess : m.sess = 0
  num : m.num = 0
  a : Sm m.a
  code : m.code = 0
  key : m.key = []
  val : m.val = []
  ver : VB N m.ver
  floor : VB N m.floor
  op : m.op = ⟨0, [], [], [], false⟩
  elen : m.entries.length ≤ N
  ent : ∀ e ∈ m.entries, EntIs N e
  chain : ChainIs m.chain
  views : m.views = []
  img : TailIs N ⟨m.image.floor, m.image.last, m.image.log⟩
  igen : m.image.gen = 0
  iseen : SeenIs N m.image.seen

theorem EntIs.mono {N M : Nat} {e : Entry} (h : EntIs N e) (hm : N ≤ M) : EntIs M e := ⟨h.1.mono hm, h.2⟩
theorem TailIs.mono {N M : Nat} {t : Tail} (h : TailIs N t) (hm : N ≤ M) : TailIs M t := ⟨h.fl.mono hm, h.la.mono hm, h.le, h.len, fun e he => (h.ent e he).mono hm⟩
theorem SeenIs.mono {N M : Nat} {l : List Seen} (h : SeenIs N l) (hm : N ≤ M) : SeenIs M l := ⟨h.1, fun s hs => by obtain ⟨v, h1, h2⟩ := h.2 s hs; exact ⟨v, h1.mono hm, h2⟩⟩
theorem RepIs.mono {E E' : Int} {N M : Nat} {r : Rep} (h : RepIs E N r) (hE : E ≤ E') (hm : N ≤ M) : RepIs E' M r :=
  { h with ep := Int.le_trans h.ep hE, fr := Int.le_trans h.fr hE, tail := h.tail.mono hm, seen := h.seen.mono hm, got := h.got.mono hm }
theorem MsgIs.mono {E E' : Int} {N M : Nat} {m : Msg} (h : MsgIs E N m) (hE : E ≤ E') (hm : N ≤ M) : MsgIs E' M m :=
  { h with ep := Int.le_trans h.ep hE, ver := h.ver.mono hm, floor := h.floor.mono hm, elen := Nat.le_trans h.elen hm, ent := fun e he => (h.ent e he).mono hm, img := h.img.mono hm, iseen := h.iseen.mono hm }

theorem tailNil (N : Nat) : TailIs N ⟨⟨0, 0⟩, ⟨0, 0⟩, []⟩ := ⟨.zero N, .zero N, .refl _, Nat.zero_le _, fun e he => by cases he⟩
theorem seenNil (N : Nat) : SeenIs N [] := ⟨Nat.zero_le _, fun e he => by cases he⟩
theorem chainNil : ChainIs [] := ⟨Nat.zero_le _, List.nodup_nil, fun e he => by cases he⟩
theorem MemIs.sm {m : Member} (h : MemIs m) : Sm m.node ∧ Sm m.boot := by
  obtain ⟨h1, h2, h3⟩ := h
  unfold Sm; omega

theorem sideP_mem {l : List Member} {m x : Member} {d : Int} (h : sideP l m d = some x) : x ∈ l := by
  unfold sideP at h
  split at h
  · cases h
  · rename_i hn
    injection h with h
    subst h
    have : (idx l m + d).toNat < l.length := by omega
    simp [List.getD, List.getElem?_eq_getElem this]

/-! ### messages that a member sends -/
section
variable {E : Int} {N : Nat} {r : Rep} (h : RepIs E N r)
include h
theorem toM_is {m : Member} (hm : MemIs m) {k : Int} (hk : Sm k) : MsgIs E N (toM r m k) where
  kind := hk
  src := h.self.sm.1
  dst := hm.sm.1
  boot := hm.sm.2
  sboot := h.self.sm.2
  shard := h.shard
  ep0 := h.ep0
  ep := h.ep
  gen := rfl
  sess := rfl
  num := rfl
  a := by unfold Sm toM; simp
  code := rfl
  key := rfl
  val := rfl
  ver := .zero N
  floor := .zero N
  op := rfl
  elen := Nat.zero_le _
  ent := fun e he => by cases he
  chain := chainNil
  views := rfl
  img := tailNil N
  igen := rfl
  iseen := seenNil N
theorem haveP_is : VB N (haveP r) := by
  unfold haveP
  cases (sideP r.view.chain r.self 1).isSome
  · exact h.tail.la
  · exact h.got
theorem acksP_is : ∀ m ∈ acksP r, MsgIs E N m := by
  intro m hm
  unfold acksP at hm
  split at hm
  · cases hm
  · rename_i x hx
    simp only [List.mem_singleton] at hm
    subst hm
    exact { toM_is h (h.chain.2.2 _ (sideP_mem hx)) (k := 14) (by unfold Sm; omega) with ver := haveP_is h }
theorem forwsP_is (hN : N ≤ 1000) : ∀ m ∈ forwsP r, MsgIs E N m := by
  intro m hm
  unfold forwsP at hm
  split at hm
  · cases hm
  · rename_i x hx
    simp only [List.mem_singleton] at hm
    subst hm
    exact { toM_is h (h.chain.2.2 _ (sideP_mem hx)) (k := 13) (by unfold Sm; omega) with
      floor := h.tail.fl
      elen := Nat.le_trans (List.length_filter_le _ _) (Nat.le_trans h.tail.len (h.tail.la.le hN).2)
      ent := fun e he => h.tail.ent e (List.mem_filter.1 he).1 }
theorem instsP_is : ∀ (l : List Member) (s : List Bool), (∀ m ∈ l, MemIs m) → ∀ m ∈ instsP r l s, MsgIs E N m
  | [], _, _, m, hm => by simp [instsP] at hm
  | _ :: _, [], _, m, hm => by simp [instsP] at hm
  | a :: l, s :: ss, hl, m, hm => by
    have ih := instsP_is l ss fun x hx => hl x (List.mem_cons_of_mem _ hx)
    unfold instsP at hm
    cases s with
    | true => exact ih m hm
    | false =>
      rcases List.mem_cons.1 hm with rfl | hm
      · exact { toM_is h (hl a (by simp)) (k := 11) (by unfold Sm; omega) with gen := h.gen, chain := h.chain, img := h.tail, igen := h.gen, iseen := h.seen }
      · exact ih m hm
theorem againP_is (hN : N ≤ 1000) : ∀ m ∈ againP r, MsgIs E N m := by
  intro m hm
  unfold againP at hm
  cases hs : syncsP r with
  | true => rw [hs] at hm; exact instsP_is h _ _ h.chain.2.2 m hm
  | false =>
    rw [hs] at hm
    cases hw : worksP r with
    | false => rw [hw] at hm; cases hm
    | true =>
      rw [hw] at hm
      rcases List.mem_append.1 hm with hm | hm
      · exact forwsP_is h hN m hm
      · exact acksP_is h m hm
end
theorem instsP_len (r : Rep) : ∀ (l : List Member) (s : List Bool), (instsP r l s).length ≤ l.length
  | [], _ => by simp [instsP]
  | _ :: _, [] => by simp [instsP]
  | a :: l, s :: ss => by
    have := instsP_len r l ss
    cases s <;> simp only [instsP, cond_true, cond_false, List.length_cons] <;> omega
theorem acksP_len (r : Rep) : (acksP r).length ≤ 1 := by
  unfold acksP; split <;> simp
theorem forwsP_len (r : Rep) : (forwsP r).length ≤ 1 := by
  unfold forwsP; split <;> simp
theorem againP_len {E : Int} {N : Nat} {r : Rep} (h : RepIs E N r) : (againP r).length ≤ 4 := by
  have h1 := instsP_len r r.view.chain r.synced
  have h2 := h.chain.1
  have h3 := acksP_len r
  have h4 := forwsP_len r
  unfold againP
  cases syncsP r <;> cases worksP r <;> simp only [cond_true, cond_false, List.length_append, List.length_nil] <;> omega

/-! ### a member's steps -/
theorem putP_is {N : Nat} {l : List Seen} {v : Ver} (h : SeenIs N l) (hv : VB N v) : SeenIs N (putP l (ofP (entP v))) := by
  match l, h with
  | [], _ => exact ⟨by simp [putP], fun s hs => by simp [putP] at hs; exact ⟨v, hv, hs⟩⟩
  | [a], h =>
    show SeenIs N (bif decide (a.num < (ofP (entP v)).num) then [ofP (entP v)] else [a])
    cases decide (a.num < (ofP (entP v)).num)
    · exact h
    · simp only [cond_true]; exact ⟨by simp, fun s hs => by simp at hs; exact ⟨v, hv, hs⟩⟩
  | _ :: _ :: _, h => exact absurd h.1 (by simp)
theorem pushR_is {E : Int} {N : Nat} {r : Rep} {e : Entry} (h : RepIs E N r) (he : EntIs N e) (hl : vlt r.tail.last e.ver = true) (hn : nu e.ver = nu r.tail.last + 1) : RepIs E N (pushR r e) :=
  { h with
    tail := ⟨h.tail.fl, he.1, h.tail.le.trans (vle_of_lt hl), by
      have := h.tail.len
      simp only [pushR, List.length_append, List.length_cons, List.length_nil]; omega, fun x hx => by
      rcases List.mem_append.1 hx with hx | hx
      · exact h.tail.ent x hx
      · simp at hx; subst hx; exact he⟩
    seen := by
      show SeenIs N (putP r.seen (ofP e))
      rw [he.2]; exact putP_is h.seen he.1
    gle := h.gle.trans (vle_of_lt hl) }
theorem takeP_is {E : Int} {N : Nat} : ∀ {l : List Entry} {r : Rep}, RepIs E N r → (∀ e ∈ l, EntIs N e) → RepIs E N (takeP r l)
  | [], r, h, _ => h
  | e :: l, r, h, he => by
    unfold takeP
    refine takeP_is ?_ fun x hx => he x (by simp [hx])
    cases hn : decide (nu e.ver = nu r.tail.last + 1) with
    | false => exact h
    | true =>
      have hn := of_decide_eq_true hn
      unfold pushP
      cases hl : vlt r.tail.last e.ver with
      | false => exact h
      | true => exact pushR_is h (he e (by simp)) hl hn
theorem liftR_is {E : Int} {N : Nat} {r : Rep} {v : Ver} (h : RepIs E N r) (hv : VB N v) (hl : vle v r.tail.last) : RepIs E N (liftR r v) :=
  { h with
    tail := ⟨h.tail.fl.max hv, h.tail.la.max hv, by
      show vle (vmax r.tail.floor v) (vmax r.tail.last v)
      rw [vmax_left hl]; exact vmax_le h.tail.le hl, by
      show (r.tail.log.filter _).length ≤ nu (vmax r.tail.last v)
      rw [vmax_left hl]; exact Nat.le_trans (List.length_filter_le _ _) h.tail.len, fun e he => h.tail.ent e (List.mem_filter.1 he).1⟩
    gle := by
      show vle r.got (vmax r.tail.last v)
      rw [vmax_left hl]; exact h.gle }
theorem commitP_is {E : Int} {N : Nat} {r : Rep} (h : RepIs E N r) : VB N (commitP r) ∧ vle (commitP r) r.tail.last := by
  unfold commitP
  cases headP r with
  | false => exact ⟨.zero N, vle_zero _⟩
  | true =>
    cases decide (r.view.chain.length = 1) with
    | false => exact ⟨h.got, h.gle⟩
    | true => exact ⟨h.tail.la, .refl _⟩

theorem isFirst_cons {l : List Member} {m : Member} (h : isFirst l m = true) : ∃ r, l = m :: r := by
  cases l with
  | nil => cases h
  | cons x r => exact ⟨r, by rw [of_decide_eq_true (show decide (x = m) = true from h)]⟩
theorem above_iff {r : Rep} {m : Msg} : aboveP r m = true ↔ r.view.epoch < m.epoch ∧ r.frozen ≤ m.epoch := by
  unfold aboveP; rw [Bool.and_eq_true, decide_eq_true_iff, decide_eq_true_iff]
theorem frozeM_is {E : Int} {N : Nat} {r : Rep} {m : Msg} (h : RepIs E N r) (hm : MsgIs E N m) (hE : E ≤ 1000) : MsgIs E N (frozeM r m) where
  kind := by unfold Sm frozeM; simp
  src := h.self.sm.1
  dst := hm.src
  boot := by unfold Sm frozeM; simp
  sboot := h.self.sm.2
  shard := h.shard
  ep0 := hm.ep0
  ep := hm.ep
  gen := rfl
  sess := rfl
  num := rfl
  a := ⟨h.ep0, Int.le_trans h.ep hE⟩
  code := rfl
  key := rfl
  val := rfl
  ver := h.tail.la
  floor := .zero N
  op := rfl
  elen := Nat.zero_le _
  ent := fun e he => by cases he
  chain := chainNil
  views := rfl
  img := tailNil N
  igen := rfl
  iseen := seenNil N
theorem tail0_is {N : Nat} {e : Int} (h : e.toNat ≤ N) : TailIs N (tail0 e) := ⟨⟨_, _, h, Nat.zero_le _, rfl⟩, ⟨_, _, h, Nat.zero_le _, rfl⟩, .refl _, Nat.zero_le _, fun e he => by cases he⟩
theorem actR_is {E : Int} {N : Nat} {r : Rep} {m : Msg} (h : RepIs E N r) (hm : MsgIs E N m) (hEN : E ≤ N) (hf : isFirst m.chain r.self = true) : RepIs E N (actR r m) := by
  have hep := hm.ep
  have ht : TailIs N (actT r m) := by
    unfold actT
    cases m.fresh
    · exact h.tail
    · exact tail0_is (by omega)
  obtain ⟨rest, hr⟩ := isFirst_cons hf
  have hl := hm.chain.1
  rw [hr] at hl
  have hsl : (actR r m).synced.length = m.chain.length := by
    simp only [actR, List.length_cons, List.length_replicate]; rw [hr, List.length_cons]; omega
  refine { h with vsh := hm.shard, gen := hm.gen, ep0 := hm.ep0, ep := hm.ep, ph := ?_, chain := hm.chain, sync := fun _ => ⟨hf, hsl⟩, synl := by rw [hsl]; exact hm.chain.1, tail := ht, seen := ?_, got := ht.la, gle := .refl _ }
  · show (bif decide (m.chain.length = 1) then (3 : Int) else 2) = 0 ∨ (bif decide (m.chain.length = 1) then (3 : Int) else 2) = 2 ∨ (bif decide (m.chain.length = 1) then (3 : Int) else 2) = 3
    cases decide (m.chain.length = 1) <;> simp
  · show SeenIs N (bif m.fresh then [] else r.seen)
    cases m.fresh
    · exact h.seen
    · exact seenNil N
theorem insR_is {E : Int} {N : Nat} {r : Rep} {m : Msg} (h : RepIs E N r) (hm : MsgIs E N m) : RepIs E N (insR r m) := by
  unfold insR
  cases aboveP r m with
  | false => exact h
  | true => exact { h with vsh := hm.shard, gen := hm.gen, ep0 := hm.ep0, ep := hm.ep, ph := by simp, chain := hm.chain, sync := fun h3 => by simp at h3, synl := Nat.zero_le _, tail := hm.img, seen := hm.iseen, got := hm.img.la, gle := .refl _ }
theorem indR_is {E : Int} {N : Nat} {r : Rep} {m : Msg} (h : RepIs E N r) (hs : syncsP r = true) : RepIs E N (indR r m) := by
  have h2 : r.view.phase = 2 := by unfold syncsP at hs; exact of_decide_eq_true (and_true' hs).2
  have hl : (indS r m).length = r.synced.length := by unfold indS; simp
  unfold indR
  cases (indS r m).all id with
  | false => exact { h with sync := fun h3 => ⟨(h.sync h3).1, hl.trans (h.sync h3).2⟩, synl := by simp only [cond_false]; rw [hl]; exact h.synl }
  | true => exact { h with ph := by simp, sync := fun h3 => by simp at h3, synl := by simp only [cond_true]; rw [hl]; exact h.synl, got := h.tail.la, gle := .refl _ }
theorem fwdR_is {E : Int} {N : Nat} {r : Rep} {m : Msg} (h : RepIs E N r) (hm : MsgIs E N m) : RepIs E N (fwdR r m) := by
  have ht := takeP_is h hm.ent
  unfold fwdR
  cases hv : vlt (takeP r m.entries).tail.last m.floor with
  | true => exact ht
  | false => exact liftR_is ht hm.floor hv
theorem ackR_is {E : Int} {N : Nat} {r : Rep} {m : Msg} (h : RepIs E N r) (hm : MsgIs E N m) : RepIs E N (ackR r m) := by
  unfold ackR
  cases hv : vlt r.tail.last m.ver with
  | true => exact h
  | false => exact { h with got := h.got.max hm.ver, gle := vmax_le h.gle hv }

/-- a member behind a message, and what it sends -/
structure OutIs (E : Int) (N : Nat) (r : Rep) (o : Rep × List Msg) : Prop where
  rep : RepIs E N o.1
  self : o.1.self = r.self
  msgs : ∀ m ∈ o.2, MsgIs E N m
  len : o.2.length ≤ 4
theorem OutIs.same {E : Int} {N : Nat} {r : Rep} (h : RepIs E N r) : OutIs E N r (r, []) := ⟨h, rfl, (fun m hm => by cases hm), Nat.zero_le _⟩
/-- all but the tail and what is seen -/
structure Kept (r r' : Rep) : Prop where
  self : r'.self = r.self
  view : r'.view = r.view
  frozen : r'.frozen = r.frozen
  got : r'.got = r.got
  synced : r'.synced = r.synced
theorem takeP_self : ∀ (l : List Entry) (r : Rep), Kept r (takeP r l)
  | [], r => ⟨rfl, rfl, rfl, rfl, rfl⟩
  | e :: l, r => by
    unfold takeP
    cases decide (nu e.ver = nu r.tail.last + 1)
    · exact takeP_self l r
    · simp only [cond_true]
      unfold pushP
      cases vlt r.tail.last e.ver
      · exact takeP_self l r
      · have h := takeP_self l (pushR r e); exact ⟨h.self, h.view, h.frozen, h.got, h.synced⟩
theorem fwdR_self (r : Rep) (m : Msg) : Kept r (fwdR r m) := by
  unfold fwdR
  cases vlt (takeP r m.entries).tail.last m.floor
  · have h := takeP_self m.entries r; exact ⟨h.self, h.view, h.frozen, h.got, h.synced⟩
  · exact takeP_self m.entries r
theorem handK_is {E : Int} {N : Nat} {r : Rep} {m : Msg} (h : RepIs E N r) (hm : MsgIs E N m) (hN : N ≤ 1000) (hEN : E ≤ N) : OutIs E N r (handK r m) := by
  unfold handK
  cases decide (m.kind = 8) with
  | true =>
    simp only [cond_true]; unfold freezeP
    cases aboveP r m with
    | false => exact .same h
    | true => exact ⟨{ h with fr0 := hm.ep0, fr := hm.ep }, rfl, fun x hx => by simp at hx; subst hx; exact frozeM_is h hm (by omega), by simp⟩
  | false =>
  cases decide (m.kind = 10) with
  | true =>
    simp only [cond_true, cond_false]; unfold actP
    cases hg : actG r m with
    | false => exact .same h
    | true =>
      have hf : isFirst m.chain r.self = true := by unfold actG at hg; exact (and_true' (and_true' hg).2).1
      have hr := actR_is h hm hEN hf
      exact ⟨hr, rfl, againP_is hr hN, againP_len hr⟩
  | false =>
  cases decide (m.kind = 11) with
  | true =>
    simp only [cond_true, cond_false]; unfold insP
    cases decide (0 < idx m.chain r.self) with
    | false => exact .same h
    | true =>
      have hr := insR_is h hm
      have hself : (insR r m).self = r.self := by unfold insR; cases aboveP r m <;> rfl
      refine ⟨hr, hself, fun x hx => ?_, ?_⟩
      · simp only [cond_true] at hx
        cases hc : liveP (insR r m) && decide (m.epoch = (insR r m).view.epoch) with
        | false => rw [hc] at hx; cases hx
        | true =>
          rw [hc] at hx
          simp only [cond_true, List.mem_singleton] at hx
          subst hx
          exact { toM_is hr (m := r.self) h.self (k := 12) (by unfold Sm; omega) with dst := hm.src, boot := hm.sboot }
      · simp only [cond_true]
        cases liveP (insR r m) && decide (m.epoch = (insR r m).view.epoch) <;> simp
  | false =>
  cases decide (m.kind = 12) with
  | true =>
    simp only [cond_true, cond_false]; unfold indP
    cases hc : syncsP r && (decide (m.epoch = r.view.epoch) && decide (0 ≤ idx r.view.chain (who m))) with
    | false => exact .same h
    | true => exact ⟨indR_is h (and_true' hc).1, by simp only [cond_true]; unfold indR; cases (indS r m).all id <;> rfl, fun x hx => by simp at hx, by simp⟩
  | false =>
  cases decide (m.kind = 13) with
  | true =>
    simp only [cond_true, cond_false]; unfold fwdP
    cases nextG r m (-1) with
    | false => exact .same h
    | true =>
      have hr := fwdR_is h hm
      exact ⟨hr, (fwdR_self r m).self, againP_is hr hN, againP_len hr⟩
  | false =>
  cases decide (m.kind = 14) with
  | true =>
    simp only [cond_true, cond_false]; unfold ackP
    cases nextG r m 1 with
    | false => exact .same h
    | true =>
      have hr := ackR_is h hm
      exact ⟨hr, by simp only [cond_true]; unfold ackR; cases vlt r.tail.last m.ver <;> rfl, acksP_is hr, by have := acksP_len (ackR r m); simp only [cond_true]; omega⟩
  | false => exact .same h
theorem handP_is {E : Int} {N : Nat} {r : Rep} {m : Msg} (h : RepIs E N r) (hm : MsgIs E N m) (hN : N ≤ 1000) (hEN : E ≤ N) : OutIs E N r (handP r m) := by
  unfold handP
  cases toMe r m with
  | false => exact .same h
  | true => exact handK_is h hm hN hEN
end Go.Wk
end

section
/- What holds of every play of a chain: kinds of values, small numbers. -/
open Go Go.AM Go.Md Go.Fl
namespace Go.Wk

/-! ### members of a play -/
theorem repAt_put {p : Play} {j : Nat} {r : Rep} (hj : j < p.reps.length) (i : Nat) : repAt (putR p j r) i = if i = j then r else repAt p i := by
  unfold repAt putR
  simp only [List.getD, List.getElem?_set]
  by_cases h : j = i
  · subst h; simp [hj]
  · rw [if_neg h, if_neg (fun e => h e.symm)]
theorem putR_len (p : Play) (j : Nat) (r : Rep) : (putR p j r).reps.length = p.reps.length := by simp [putR]
theorem handP_self (r : Rep) (m : Msg) : (handP r m).1.self = r.self := by
  unfold handP
  cases toMe r m with
  | false => rfl
  | true =>
    simp only [cond_true]
    unfold handK
    cases decide (m.kind = 8) with
    | true => simp only [cond_true]; unfold freezeP; cases aboveP r m <;> rfl
    | false =>
    cases decide (m.kind = 10) with
    | true => simp only [cond_true, cond_false]; unfold actP; cases actG r m <;> rfl
    | false =>
    cases decide (m.kind = 11) with
    | true => simp only [cond_true, cond_false]; unfold insP; cases decide (0 < idx m.chain r.self) <;> simp only [cond_true, cond_false]; unfold insR; cases aboveP r m <;> rfl
    | false =>
    cases decide (m.kind = 12) with
    | true =>
      simp only [cond_true, cond_false]; unfold indP
      cases syncsP r && (decide (m.epoch = r.view.epoch) && decide (0 ≤ idx r.view.chain (who m))) <;> simp only [cond_true, cond_false]
      unfold indR; cases (indS r m).all id <;> rfl
    | false =>
    cases decide (m.kind = 13) with
    | true => simp only [cond_true, cond_false]; unfold fwdP; cases nextG r m (-1) <;> simp only [cond_true, cond_false]; exact (fwdR_self r m).self
    | false =>
    cases decide (m.kind = 14) with
    | true => simp only [cond_true, cond_false]; unfold ackP; cases nextG r m 1 <;> simp only [cond_true, cond_false]; unfold ackR; cases vlt r.tail.last m.ver <;> rfl
    | false => rfl
/-- each member stands at its place -/
def Selfs (p : Play) : Prop := ∀ j, j < p.reps.length → (repAt p j).self = mem0 j
theorem mem0_inj {i j : Nat} (h : mem0 i = mem0 j) : i = j := by
  have := congrArg Member.node h
  simp only [mem0] at this; omega
theorem giveF_none {m : Msg} : ∀ (d j : Nat) (p : Play), (∀ i, j ≤ i → i < j + d → (repAt p i).self.node ≠ m.dst) → giveF m d j p = p
  | 0, _, _, _ => rfl
  | d + 1, j, p, h => by
    unfold giveF
    have : giveAt p m j = p := by unfold giveAt; rw [decide_eq_false (h j (Nat.le_refl _) (by omega))]; rfl
    rw [this]
    exact giveF_none d (j + 1) p fun i h1 h2 => h i (by omega) (by omega)
theorem giveF_one {m : Msg} {j0 : Nat} : ∀ (d j : Nat) (p : Play), j ≤ j0 → j0 < j + d → j0 < p.reps.length → (repAt p j0).self.node = m.dst → (∀ i, j ≤ i → i < j + d → i ≠ j0 → (repAt p i).self.node ≠ m.dst) →
    giveF m d j p = layW (putR p j0 (handP (repAt p j0) m).1) (handP (repAt p j0) m).2
  | 0, j, p, h1, h2, _, _, _ => by omega
  | d + 1, j, p, h1, h2, hl, hn, h => by
    unfold giveF
    by_cases e : j = j0
    · subst e
      have : giveAt p m j = layW (putR p j (handP (repAt p j) m).1) (handP (repAt p j) m).2 := by unfold giveAt; rw [decide_eq_true hn]; rfl
      rw [this]
      refine giveF_none d (j + 1) _ fun i h3 h4 => ?_
      have : repAt (layW (putR p j (handP (repAt p j) m).1) (handP (repAt p j) m).2) i = repAt p i := by
        show repAt (putR p j (handP (repAt p j) m).1) i = _
        rw [repAt_put hl, if_neg (by omega)]
      rw [this]
      exact h i (by omega) (by omega) (by omega)
    · have : giveAt p m j = p := by unfold giveAt; rw [decide_eq_false (h j (Nat.le_refl _) (by omega) e)]; rfl
      rw [this]
      exact giveF_one d (j + 1) p (by omega) (by omega) hl hn fun i h3 h4 => h i (by omega) (by omega)
/-- a message is done by whom it is for -/
theorem giveP_cases {p : Play} {m : Msg} (hs : Selfs p) : (∃ j, j < p.reps.length ∧ m.dst = 2 + j ∧ giveP p m = layW (putR p j (handP (repAt p j) m).1) (handP (repAt p j) m).2) ∨
    ((∀ j : Nat, j < p.reps.length → m.dst ≠ 2 + j) ∧ giveP p m = p) := by
  by_cases h : ∃ j : Nat, j < p.reps.length ∧ m.dst = 2 + j
  · obtain ⟨j, hj, hd⟩ := h
    refine .inl ⟨j, hj, hd, giveF_one _ _ _ (Nat.zero_le _) (by omega) hj (by rw [hs j hj, hd]; rfl) fun i h1 h2 h3 => ?_⟩
    rw [hs i (by omega), hd]
    simp only [mem0]; omega
  · have h' : ∀ j : Nat, j < p.reps.length → m.dst ≠ 2 + j := fun j hj e => h ⟨j, hj, e⟩
    refine .inr ⟨h', giveF_none _ _ _ fun i h1 h2 e => ?_⟩
    rw [hs i (by omega)] at e
    exact h' i (by omega) (by rw [← e]; rfl)
theorem giveP_at {p : Play} {m : Msg} (hs : Selfs p) {j : Nat} (hj : j < p.reps.length) (hd : m.dst = 2 + j) : giveP p m = layW (putR p j (handP (repAt p j) m).1) (handP (repAt p j) m).2 := by
  rcases giveP_cases hs (m := m) with ⟨i, hi, hd', e⟩ | ⟨h, _⟩
  · have : i = j := by omega
    subst this; exact e
  · exact absurd hd (h j hj)

structure PlayIs (N : Nat) (p : Play) : Prop where
  lo : 1 ≤ p.reps.length
  hi : p.reps.length ≤ 4
  rep : ∀ j, j < p.reps.length → RepIs p.epoch N (repAt p j)
  self : Selfs p
  way : ∀ m ∈ p.way, MsgIs p.epoch N m
  ep : 1 ≤ p.epoch
  epN : p.epoch ≤ N
  valid : ∀ m ∈ p.valid, MemIs m
  vlen : p.valid.length ≤ 4
  safe : VB N p.safe

theorem PlayIs.mono {N M : Nat} {p : Play} (h : PlayIs N p) (hm : N ≤ M) : PlayIs M p :=
  { h with rep := fun j hj => (h.rep j hj).mono (Int.le_refl _) hm, way := fun m hm' => (h.way m hm').mono (Int.le_refl _) hm, epN := by have := h.epN; omega, safe := h.safe.mono hm }
theorem Selfs.put {p : Play} (hs : Selfs p) {j : Nat} {r : Rep} (hj : j < p.reps.length) (hr : r.self = (repAt p j).self) : Selfs (putR p j r) := by
  intro i hi
  rw [putR_len] at hi
  rw [repAt_put hj]
  split
  · rename_i e; subst e; rw [hr]; exact hs i hj
  · exact hs i hi
theorem PlayIs.put {N : Nat} {p : Play} (h : PlayIs N p) {j : Nat} {r : Rep} (hj : j < p.reps.length) (hr : RepIs p.epoch N r) (hs : r.self = (repAt p j).self) : PlayIs N (putR p j r) :=
  { h with
    lo := by rw [putR_len]; exact h.lo
    hi := by rw [putR_len]; exact h.hi
    rep := fun i hi => by
      rw [putR_len] at hi
      rw [repAt_put hj]
      split
      · exact hr
      · exact h.rep i hi
    self := h.self.put hj hs }
theorem PlayIs.lay {N : Nat} {p : Play} (h : PlayIs N p) {l : List Msg} (hl : ∀ m ∈ l, MsgIs p.epoch N m) : PlayIs N (layW p l) :=
  { h with
    way := fun m hm => by
      rcases List.mem_append.1 hm with hm | hm
      · exact h.way m hm
      · exact hl m hm }
theorem PlayIs.less {N : Nat} {p : Play} (h : PlayIs N p) {l : List Msg} (hl : ∀ m ∈ l, m ∈ p.way) : PlayIs N { p with way := l } :=
  { h with way := fun m hm => h.way m (hl m hm) }

theorem give_is {N : Nat} {p : Play} {m : Msg} (h : PlayIs N p) (hm : MsgIs p.epoch N m) (hN : N ≤ 1000) : PlayIs N (giveP p m) ∧ (giveP p m).way.length ≤ p.way.length + 4 := by
  rcases giveP_cases h.self (m := m) with ⟨j, hj, hd, e⟩ | ⟨_, e⟩
  · have ho := handP_is (h.rep j hj) hm hN h.epN
    rw [e]
    refine ⟨(h.put hj ho.rep ho.self).lay ho.msgs, ?_⟩
    have := ho.len
    simp only [layW, putR, List.length_append]; omega
  · rw [e]; exact ⟨h, by omega⟩

/-! ### a new epoch -/
theorem frzMsg_is {E : Int} {N : Nat} {h : Member} (hh : MemIs h) (h0 : 0 ≤ E) : MsgIs E N (frzMsg h E) where
  kind := by unfold Sm frzMsg; simp
  src := by unfold Sm frzMsg; simp
  dst := hh.sm.1
  boot := hh.sm.2
  sboot := by unfold Sm frzMsg; simp
  shard := rfl
  ep0 := h0
  ep := Int.le_refl _
  gen := rfl
  sess := rfl
  num := rfl
  a := by unfold Sm frzMsg; simp
  code := rfl
  key := rfl
  val := rfl
  ver := .zero N
  floor := .zero N
  op := rfl
  elen := Nat.zero_le _
  ent := fun e he => by cases he
  chain := chainNil
  views := rfl
  img := tailNil N
  igen := rfl
  iseen := seenNil N
theorem actMsg_is {E : Int} {N : Nat} {h : Member} {b : Bool} {l : List Member} (hh : MemIs h) (hl : ChainIs l) (h0 : 0 ≤ E) : MsgIs E N (actMsg h E b l) where
  kind := by unfold Sm actMsg; simp
  src := by unfold Sm actMsg; simp
  dst := hh.sm.1
  boot := hh.sm.2
  sboot := by unfold Sm actMsg; simp
  shard := rfl
  ep0 := h0
  ep := Int.le_refl _
  gen := rfl
  sess := rfl
  num := rfl
  a := by unfold Sm actMsg; simp
  code := rfl
  key := rfl
  val := rfl
  ver := .zero N
  floor := .zero N
  op := rfl
  elen := Nat.zero_le _
  ent := fun e he => by cases he
  chain := hl
  views := rfl
  img := tailNil N
  igen := rfl
  iseen := seenNil N
/-- the frozen member -/
def frzR (p : Play) (j : Nat) : Rep := { repAt p j with frozen := p.epoch }
theorem frzAt_eq {N : Nat} {p : Play} (h : PlayIs N p) (hv : ∀ i, i < p.reps.length → (repAt p i).view.epoch < p.epoch) {j : Nat} (hj : j < p.reps.length) : frzAt p j = putR p j (frzR p j) := by
  have hd : (frzMsg (repAt p j).self p.epoch).dst = 2 + j := by
    show (repAt p j).self.node = 2 + j
    rw [h.self j hj]; rfl
  have hr := h.rep j hj
  have hh : handP (repAt p j) (frzMsg (repAt p j).self p.epoch) = (frzR p j, [frozeM (repAt p j) (frzMsg (repAt p j).self p.epoch)]) := by
    have h1 : toMe (repAt p j) (frzMsg (repAt p j).self p.epoch) = true := by
      unfold toMe frzMsg; simp [hr.shard]
    have h2 : aboveP (repAt p j) (frzMsg (repAt p j).self p.epoch) = true := above_iff.2 ⟨hv j hj, hr.fr⟩
    unfold handP; rw [h1, cond_true]
    unfold handK
    rw [show decide ((frzMsg (repAt p j).self p.epoch).kind = 8) = true from rfl, cond_true]
    unfold freezeP; rw [h2]; rfl
  unfold frzAt
  rw [giveP_at h.self hj hd, hh]
  simp [layW, putR]
structure TSIs (N : Nat) (t : TS) : Prop where
  p : PlayIs N t.p
  view : ∀ i, i < t.p.reps.length → (repAt t.p i).view.epoch < t.p.epoch
  best : ∀ b, t.best = some b → b < t.p.reps.length
  keep : ∀ m ∈ t.keep, MemIs m
theorem turnAt_is {N : Nat} {up : Nat → Bool} {t : TS} (h : TSIs N t) {j : Nat} (hj : j < t.p.reps.length) : TSIs N (turnAt up t j) ∧ (turnAt up t j).p.reps.length = t.p.reps.length ∧ (turnAt up t j).p.epoch = t.p.epoch ∧ (turnAt up t j).p.way = t.p.way ∧ (turnAt up t j).keep.length ≤ t.keep.length + 1 := by
  unfold turnAt
  cases up j && decide ((repAt t.p j).self ∈ t.p.valid) with
  | false => exact ⟨h, rfl, rfl, rfl, by simp only [cond_false]; omega⟩
  | true =>
    have e := frzAt_eq h.p h.view hj
    simp only [cond_true, e]
    have hr : RepIs t.p.epoch N (frzR t.p j) := { h.p.rep j hj with fr0 := by have := h.p.ep; show 0 ≤ t.p.epoch; omega, fr := Int.le_refl _ }
    have hp := h.p.put hj hr rfl
    refine ⟨⟨hp, fun i hi => ?_, fun b hb => ?_, fun m hm => ?_⟩, putR_len _ _ _, rfl, rfl, by simp⟩
    · rw [putR_len] at hi
      rw [repAt_put hj]
      split
      · rename_i e; subst e; exact h.view i hj
      · exact h.view i hi
    · rw [putR_len]
      injection hb with hb
      cases hbe : t.best with
      | none => rw [hbe] at hb; subst hb; exact hj
      | some b0 =>
        rw [hbe] at hb
        simp only at hb
        cases hn : newer (repAt (putR t.p j (frzR t.p j)) b0) (repAt (putR t.p j (frzR t.p j)) j) with
        | true => rw [hn] at hb; simp at hb; omega
        | false => rw [hn] at hb; simp at hb; have := h.best b0 hbe; omega
    · rcases List.mem_append.1 hm with hm | hm
      · exact h.keep m hm
      · simp at hm; subst hm
        exact (hp.rep j (by rw [putR_len]; exact hj)).self
theorem turnF_is {N : Nat} {up : Nat → Bool} : ∀ (d j : Nat) {t : TS}, TSIs N t → j + d ≤ t.p.reps.length → TSIs N (turnF up d j t) ∧ (turnF up d j t).p.reps.length = t.p.reps.length ∧ (turnF up d j t).p.epoch = t.p.epoch ∧ (turnF up d j t).p.way = t.p.way ∧ (turnF up d j t).keep.length ≤ t.keep.length + d
  | 0, _, t, h, _ => ⟨h, rfl, rfl, rfl, by simp [turnF]⟩
  | d + 1, j, t, h, hd => by
    obtain ⟨h1, h2, h3, h4, h5⟩ := turnAt_is (up := up) h (j := j) (by omega)
    obtain ⟨g1, g2, g3, g4, g5⟩ := turnF_is d (j + 1) (up := up) h1 (by omega)
    unfold turnF
    exact ⟨g1, g2.trans h2, g3.trans h3, g4.trans h4, by omega⟩
theorem restF_mem {up : Nat → Bool} {b : Nat} {p : Play} (hs : Selfs p) : ∀ (d j : Nat), j + d ≤ p.reps.length → ∀ m, m ∈ restF up b p d j ↔ ∃ i, j ≤ i ∧ i < j + d ∧ up i = true ∧ i ≠ b ∧ m = mem0 i
  | 0, j, _, m => by simp only [restF, List.not_mem_nil, false_iff]; rintro ⟨i, h1, h2, _⟩; omega
  | d + 1, j, hd, m => by
    have ih := restF_mem (up := up) (b := b) hs d (j + 1) (by omega) m
    unfold restF
    cases hc : up j && !decide (j = b) with
    | true =>
      obtain ⟨hc1, hc2⟩ := and_true' hc
      have hc2 : j ≠ b := by simpa using hc2
      simp only [cond_true, List.mem_cons, ih, hs j (by omega)]
      constructor
      · rintro (rfl | ⟨i, h1, h2, h3⟩)
        · exact ⟨j, Nat.le_refl _, by omega, hc1, hc2, rfl⟩
        · exact ⟨i, by omega, by omega, h3⟩
      · rintro ⟨i, h1, h2, h3, h4, rfl⟩
        by_cases e : i = j
        · subst e; exact .inl rfl
        · exact .inr ⟨i, by omega, by omega, h3, h4, rfl⟩
    | false =>
      simp only [cond_false, ih]
      constructor
      · rintro ⟨i, h1, h2, h3⟩; exact ⟨i, by omega, by omega, h3⟩
      · rintro ⟨i, h1, h2, h3, h4, rfl⟩
        by_cases e : i = j
        · subst e; rw [h3] at hc; simp at hc; exact absurd hc h4
        · exact ⟨i, by omega, by omega, h3, h4, rfl⟩
theorem restF_nodup {up : Nat → Bool} {b : Nat} {p : Play} (hs : Selfs p) : ∀ (d j : Nat), j + d ≤ p.reps.length → (restF up b p d j).Nodup ∧ (restF up b p d j).length + (if j ≤ b ∧ b < j + d then 1 else 0) ≤ d
  | 0, j, _ => by simp only [restF]; refine ⟨List.nodup_nil, ?_⟩; rw [if_neg (by omega)]; simp
  | d + 1, j, hd => by
    obtain ⟨h1, h2⟩ := restF_nodup (up := up) (b := b) hs d (j + 1) (by omega)
    have hm := restF_mem (up := up) (b := b) hs d (j + 1) (by omega)
    unfold restF
    cases hc : up j && !decide (j = b) with
    | true =>
      have hc2 : j ≠ b := by simpa using (and_true' hc).2
      simp only [cond_true, List.length_cons]
      refine ⟨List.nodup_cons.2 ⟨fun hx => ?_, h1⟩, ?_⟩
      · obtain ⟨i, g1, _, _, _, g⟩ := (hm _).1 hx
        rw [hs j (by omega)] at g
        have := mem0_inj g; omega
      · split <;> (split at h2 <;> omega)
    | false =>
      simp only [cond_false]
      refine ⟨h1, ?_⟩
      split <;> (split at h2 <;> omega)
theorem MemIs.mem0 {i : Nat} (h : i < 4) : MemIs (Wk.mem0 i) := ⟨by simp only [Wk.mem0]; omega, by simp only [Wk.mem0]; omega, rfl⟩
theorem newChain {up : Nat → Bool} {b : Nat} {p : Play} (hs : Selfs p) (hl : p.reps.length ≤ 4) (hb : b < p.reps.length) : ChainIs ((repAt p b).self :: restF up b p p.reps.length 0) := by
  obtain ⟨h1, h2⟩ := restF_nodup (up := up) (b := b) hs p.reps.length 0 (by omega)
  have hm := restF_mem (up := up) (b := b) hs p.reps.length 0 (by omega)
  rw [if_pos (by omega)] at h2
  refine ⟨by simp only [List.length_cons]; omega, List.nodup_cons.2 ⟨fun hx => ?_, h1⟩, fun m hx => ?_⟩
  · obtain ⟨i, _, _, _, g1, g⟩ := (hm _).1 hx
    rw [hs b hb] at g
    exact g1 (mem0_inj g).symm
  · rcases List.mem_cons.1 hx with rfl | hx
    · rw [hs b hb]; exact .mem0 (by omega)
    · obtain ⟨i, _, hi, _, _, rfl⟩ := (hm _).1 hx
      exact .mem0 (by omega)
theorem turn0_is {N : Nat} {p : Play} (h : PlayIs N p) : TSIs (N + 1) ⟨{ p with epoch := p.epoch + 1 }, none, []⟩ where
  p := { h.mono (Nat.le_succ N) with
    rep := fun j hj => (h.rep j hj).mono (by show p.epoch ≤ p.epoch + 1; omega) (Nat.le_succ N)
    way := fun m hm => (h.way m hm).mono (by show p.epoch ≤ p.epoch + 1; omega) (Nat.le_succ N)
    ep := by have := h.ep; show 1 ≤ p.epoch + 1; omega
    epN := by have := h.epN; show p.epoch + 1 ≤ ((N + 1 : Nat) : Int); omega }
  view := fun i hi => by have := (h.rep i hi).ep; show (repAt p i).view.epoch < p.epoch + 1; omega
  best := fun b hb => by cases hb
  keep := fun m hm => by cases hm
theorem turn_is {N : Nat} {up : Nat → Bool} {p : Play} (h : PlayIs N p) : PlayIs (N + 1) (turnP up p) ∧ (turnP up p).way.length ≤ p.way.length + 1 := by
  obtain ⟨h1, h2, h3, h4, h5⟩ := turnF_is (up := up) p.reps.length 0 (turn0_is h) (by simp)
  unfold turnP
  generalize turnF up p.reps.length 0 ⟨{ p with epoch := p.epoch + 1 }, none, []⟩ = t at h1 h2 h3 h4 h5
  unfold turnE
  cases hb : t.best with
  | none => exact ⟨h1.p, by simp only [h4]; omega⟩
  | some b =>
    have hbl := h1.best b hb
    have hlen : t.p.reps.length ≤ 4 := h1.p.hi
    refine ⟨{ h1.p with valid := h1.keep, vlen := ?_, way := fun m hm => ?_ }, by simp [h4]⟩
    · rcases List.mem_append.1 hm with hm | hm
      · exact h1.p.way m hm
      · simp only [List.mem_singleton] at hm; subst hm
        exact actMsg_is (h1.p.rep b hbl).self (newChain h1.p.self hlen hbl) (by have := h1.p.ep; show 0 ≤ t.p.epoch; omega)
    · have := h.hi
      simp only [List.length_nil] at h5
      show t.keep.length ≤ 4; omega

/-! ### steps -/
theorem note_is {N : Nat} : ∀ (d j : Nat) {p : Play}, PlayIs N p → j + d ≤ p.reps.length → PlayIs N (noteF d j p) ∧ (noteF d j p).way = p.way ∧ (noteF d j p).reps = p.reps ∧ (noteF d j p).epoch = p.epoch
  | 0, _, p, h, _ => ⟨h, rfl, rfl, rfl⟩
  | d + 1, j, p, h, hd => by
    have hr := h.rep j (by omega)
    have h1 : PlayIs N (noteAt p j) := { h with
      valid := by
        show ∀ m ∈ (bif decide ((repAt p j).view.epoch = p.epoch) && headP (repAt p j) then (repAt p j).view.chain else p.valid), MemIs m
        cases decide ((repAt p j).view.epoch = p.epoch) && headP (repAt p j)
        · exact h.valid
        · exact hr.chain.2.2
      vlen := by
        show (bif decide ((repAt p j).view.epoch = p.epoch) && headP (repAt p j) then (repAt p j).view.chain else p.valid).length ≤ 4
        cases decide ((repAt p j).view.epoch = p.epoch) && headP (repAt p j)
        · exact h.vlen
        · exact hr.chain.1
      safe := h.safe.max (commitP_is hr).1 }
    obtain ⟨g1, g2, g3, g4⟩ := note_is d (j + 1) h1 (by show j + 1 + d ≤ p.reps.length; omega)
    unfold noteF
    exact ⟨g1, g2, g3, g4⟩
theorem noteP_is {N : Nat} {p : Play} (h : PlayIs N p) : PlayIs N (noteP p) ∧ (noteP p).way = p.way ∧ (noteP p).reps = p.reps ∧ (noteP p).epoch = p.epoch := note_is _ _ h (by omega)
theorem leadF_is {N : Nat} {f : Rep → Rep} {p : Play} (h : PlayIs N p) (hf : ∀ j, j < p.reps.length → lead p j = true → RepIs p.epoch N (f (repAt p j)) ∧ (f (repAt p j)).self = (repAt p j).self) :
    ∀ (d j : Nat), j + d ≤ p.reps.length → PlayIs N (leadF f p d j) ∧ (leadF f p d j).way = p.way
  | 0, _, _ => ⟨h, rfl⟩
  | d + 1, j, hd => by
    unfold leadF
    cases hl : lead p j with
    | true =>
      obtain ⟨h1, h2⟩ := hf j (by omega) hl
      exact ⟨h.put (by omega) h1 h2, rfl⟩
    | false => exact leadF_is h hf d (j + 1) (by omega)
theorem nextV_is {E : Int} {N : Nat} {r : Rep} (h : RepIs E N r) (hEN : E ≤ N) (hN : N ≤ 999) : VB (N + 1) (nextV r) ∧ nu (nextV r) = nu r.tail.last + 1 := by
  have h1 := (h.tail.la.le (by omega)).2
  have h2 := h.ep
  have h3 := h.ep0
  exact ⟨⟨_, _, by omega, by omega, rfl⟩, by unfold nextV; rw [nu_vr (by omega)]⟩
theorem pushP_is {E : Int} {N : Nat} {r : Rep} (h : RepIs E N r) (hEN : E ≤ N) (hN : N ≤ 999) : RepIs E (N + 1) (pushP r (entP (nextV r))).1 ∧ (pushP r (entP (nextV r))).1.self = r.self := by
  obtain ⟨h1, h2⟩ := nextV_is h hEN hN
  unfold pushP
  cases hl : vlt r.tail.last (entP (nextV r)).ver with
  | false => exact ⟨h.mono (Int.le_refl _) (Nat.le_succ N), rfl⟩
  | true => exact ⟨pushR_is (h.mono (Int.le_refl _) (Nat.le_succ N)) ⟨h1, rfl⟩ hl h2, rfl⟩
theorem mem_getD {X : Type} {l : List X} {i : Nat} {z : X} (h : i < l.length) : l.getD i z ∈ l := by
  simp [List.getD, List.getElem?_eq_getElem h]
theorem do_is {N : Nat} {up : Nat → Bool} {k i : Nat} {p : Play} (h : PlayIs N p) (hN : N ≤ 999) : PlayIs (N + 1) (doP up k i p) ∧ (doP up k i p).way.length ≤ p.way.length + 4 := by
  have h' := h.mono (Nat.le_succ N)
  unfold doP
  cases decide (k ≤ 2) with
  | true =>
    simp only [cond_true]
    cases hn : decide (p.way.length = 0) with
    | true => exact ⟨h', by simp⟩
    | false =>
      have hn := of_decide_eq_false hn
      have hi : i % p.way.length < p.way.length := Nat.mod_lt _ (by omega)
      have hm := mem_getD hi (z := (default : Msg))
      have he : PlayIs (N + 1) { p with way := p.way.eraseIdx (i % p.way.length) } := h'.less fun m hm => List.mem_of_mem_eraseIdx hm
      have hel : (p.way.eraseIdx (i % p.way.length)).length ≤ p.way.length := by rw [List.length_eraseIdx]; split <;> omega
      simp only [cond_false]
      cases decide (k = 2) with
      | true => exact ⟨h'.lay fun m hx => by simp only [List.mem_singleton] at hx; subst hx; exact h'.way _ hm, by simp [layW]⟩
      | false =>
        simp only [cond_false]
        cases decide (k = 1) with
        | true => exact ⟨he, by simp only [cond_true]; omega⟩
        | false =>
          obtain ⟨h1, h2⟩ := give_is he (h'.way _ hm) (by omega)
          exact ⟨h1, by simp only [cond_false] at h2 ⊢; omega⟩
  | false =>
    simp only [cond_false]
    have hi : i % p.reps.length < p.reps.length := Nat.mod_lt _ h.lo
    cases decide (k = 4) with
    | true =>
      have hr := h'.rep _ hi
      have := againP_len hr
      exact ⟨h'.lay (againP_is hr (by omega)), by simp only [cond_true, layW, List.length_append]; omega⟩
    | false =>
      simp only [cond_false]
      cases decide (k = 5) with
      | true =>
        obtain ⟨h1, h2⟩ := turn_is (up := up) h
        exact ⟨h1, by simp only [cond_true]; omega⟩
      | false =>
        simp only [cond_false]
        cases decide (k = 6) with
        | true =>
          obtain ⟨h1, h2⟩ := leadF_is h' (f := fun r => liftR r (commitP r)) (fun j hj _ => ⟨liftR_is (h'.rep j hj) (commitP_is (h'.rep j hj)).1 (commitP_is (h'.rep j hj)).2, rfl⟩) p.reps.length 0 (by omega)
          exact ⟨h1, by simp only [cond_true]; rw [h2]; omega⟩
        | false =>
          have := leadF_is (N := N + 1) (f := fun r => (pushP r (entP (nextV r))).1) h' (fun j hj _ => pushP_is (h.rep j hj) h.epN hN) p.reps.length 0 (by omega)
          exact ⟨this.1, by simp only [cond_false]; rw [this.2]; omega⟩
theorem rep0_is {E : Int} {N : Nat} {m : Member} (hm : MemIs m) (hE : 0 ≤ E) : RepIs E N (rep0 m) where
  shard := rfl
  self := hm
  vsh := rfl
  gen := rfl
  ep0 := Int.le_refl _
  ep := hE
  fr0 := Int.le_refl _
  fr := hE
  ph := .inl rfl
  chain := chainNil
  sync := fun h => by simp [rep0] at h
  synl := Nat.zero_le _
  tail := tailNil N
  seen := seenNil N
  got := .zero N
  gle := .refl _
theorem all_is {n : Nat} (h : n ≤ 4) : ChainIs ((List.range n).map mem0) := by
  refine ⟨by simpa using h, ?_, fun m hm => ?_⟩
  · refine List.Pairwise.map _ (R := (· ≠ ·)) (fun a b hab e => hab (mem0_inj e)) ?_
    exact List.nodup_range
  · obtain ⟨i, hi, rfl⟩ := List.mem_map.1 hm
    exact .mem0 (by have := List.mem_range.1 hi; omega)
theorem begin_is {n : Nat} (h1 : 1 ≤ n) (h4 : n ≤ 4) : PlayIs 1 (beginP n) := by
  have hrep : ∀ j, j < n → repAt (beginP n) j = rep0 (mem0 j) := fun j hj => by
    unfold repAt beginP
    simp [List.getD, List.getElem?_map, List.getElem?_range hj]
  have hlen : (beginP n).reps.length = n := by simp [beginP]
  refine { lo := by rw [hlen]; exact h1, hi := by rw [hlen]; exact h4, rep := fun j hj => ?_, self := fun j hj => ?_, way := fun m hm => ?_, ep := Int.le_refl _, epN := Int.le_refl _, valid := fun m hm => ?_, vlen := ?_, safe := .zero 1 }
  · rw [hlen] at hj; rw [hrep j hj]; exact rep0_is (.mem0 (by omega)) (show (0 : Int) ≤ 1 by decide)
  · rw [hlen] at hj; rw [hrep j hj]; rfl
  · simp only [beginP, List.mem_singleton] at hm
    subst hm
    exact actMsg_is (by unfold MemIs; decide) (all_is h4) (show (0 : Int) ≤ 1 by decide)
  · exact (all_is h4).2.2 m (List.mem_of_mem_take hm)
  · exact Nat.le_trans (List.length_take_le _ _) (by omega)
end Go.Wk
end

section
/- What a play of a chain keeps: who has what was committed. -/
open Go Go.AM Go.Md Go.Fl
namespace Go.Wk

/-! ### places in a chain -/
theorem idxFrom_mem (m : Member) : ∀ (l : List Member) (i : Nat), 0 ≤ idxFrom m l i ↔ m ∈ l
  | [], i => by simp [idxFrom]
  | x :: r, i => by
    unfold idxFrom
    by_cases h : x = m
    · rw [if_pos h]; subst h; simp
    · rw [if_neg h, idxFrom_mem m r (i + 1)]
      simp only [List.mem_cons]
      constructor
      · exact .inr
      · rintro (e | e)
        · exact absurd e.symm h
        · exact e
theorem idx_mem {l : List Member} {m : Member} : 0 ≤ idx l m ↔ m ∈ l := idxFrom_mem m l 0
theorem idxFrom_at {m : Member} : ∀ {l : List Member} {i : Nat}, m ∈ l → ∃ k : Nat, idxFrom m l i = ((i + k : Nat) : Int) ∧ l[k]? = some m
  | [], _, h => by cases h
  | x :: r, i, h => by
    unfold idxFrom
    by_cases e : x = m
    · rw [if_pos e]; exact ⟨0, by simp, by simp [e]⟩
    · rw [if_neg e]
      have h' : m ∈ r := by
        rcases List.mem_cons.1 h with h | h
        · exact absurd h.symm e
        · exact h
      obtain ⟨k, h1, h2⟩ := idxFrom_at (i := i + 1) h'
      exact ⟨k + 1, by rw [h1]; congr 1; omega, by simpa using h2⟩
theorem idx_at {l : List Member} {m : Member} (h : m ∈ l) : ∃ k : Nat, idx l m = (k : Int) ∧ l[k]? = some m := by
  obtain ⟨k, h1, h2⟩ := idxFrom_at (i := 0) h
  exact ⟨k, by unfold idx; rw [h1]; simp, h2⟩
theorem idx_inj {l : List Member} {a b : Member} (ha : a ∈ l) (hb : b ∈ l) (h : idx l a = idx l b) : a = b := by
  obtain ⟨i, h1, h2⟩ := idx_at ha
  obtain ⟨j, h3, h4⟩ := idx_at hb
  have : i = j := by omega
  subst this
  rw [h2] at h4; exact Option.some.inj h4
theorem idxFrom_nodup {m : Member} : ∀ {l : List Member} {i k : Nat}, l.Nodup → l[k]? = some m → idxFrom m l i = ((i + k : Nat) : Int)
  | [], _, _, _, h => by simp at h
  | x :: r, i, k, hn, h => by
    obtain ⟨h1, h2⟩ := List.nodup_cons.1 hn
    unfold idxFrom
    cases k with
    | zero => simp at h; rw [if_pos h]; simp
    | succ k =>
      have h : r[k]? = some m := by simpa using h
      have : x ≠ m := fun e => h1 (e ▸ List.mem_of_getElem? h)
      rw [if_neg this, idxFrom_nodup h2 h]; congr 1; omega
theorem idx_nodup {l : List Member} {m : Member} {k : Nat} (hn : l.Nodup) (h : l[k]? = some m) : idx l m = (k : Int) := by
  unfold idx; rw [idxFrom_nodup hn h]; simp
theorem sideP_some {l : List Member} {m x : Member} {d : Int} (hn : l.Nodup) (h : sideP l m d = some x) : m ∈ l ∧ x ∈ l ∧ idx l x = idx l m + d := by
  unfold sideP at h
  split at h
  · cases h
  · rename_i hc
    injection h with h
    have hk : (idx l m + d).toNat < l.length := by omega
    have hx : l[(idx l m + d).toNat]? = some x := by rw [← h]; simp [List.getD, List.getElem?_eq_getElem hk]
    refine ⟨idx_mem.1 (by omega), List.mem_of_getElem? hx, ?_⟩
    rw [idx_nodup hn hx]; omega
theorem sideP_last {l : List Member} {m y : Member} (hm : m ∈ l) (hy : y ∈ l) (h : (sideP l m 1).isSome = false) (hle : idx l m ≤ idx l y) : y = m := by
  have h1 := idx_mem.2 hm
  have h2 := (idx_le l y).2
  unfold sideP at h
  split at h
  · rename_i hc
    exact idx_inj hy hm (by omega)
  · cases h
theorem isFirst_idx {l : List Member} {m : Member} (h : isFirst l m = true) : idx l m = 0 := by
  rw [← idx_first] at h; exact of_decide_eq_true h
theorem isFirst_mem {l : List Member} {m : Member} (h : isFirst l m = true) : m ∈ l := by
  obtain ⟨r, rfl⟩ := isFirst_cons h; simp

/-! ### what was: the chains of the epochs, and what each member ever had in each -/
structure Ghost where
  cfg : Int → Option (List Member × Ver)
  H : Member → Int → Option Ver
  e0 : Int
def Ghost.HL (g : Ghost) (x : Member) (e : Int) (L : Ver) : Ver := (g.H x e).getD L

structure InEp (g : Ghost) (r : Rep) (C : List Member) (L : Ver) : Prop where
  cfg : g.cfg r.view.epoch = some (C, L)
  chain : r.view.chain = C
  mem : r.self ∈ C
  base : vle L r.tail.last
  hist : g.H r.self r.view.epoch = some r.tail.last
  got : ∀ y ∈ C, idx C r.self ≤ idx C y → vle r.got (g.HL y r.view.epoch L)
  sync : r.view.phase = 2 → r.tail.last = L ∧ ∀ (i : Nat) y, C[i]? = some y → r.synced[i]? = some true → g.H y r.view.epoch ≠ none
  act : r.view.phase = 3 → isFirst C r.self = true → ∀ y ∈ C, g.H y r.view.epoch ≠ none
def RepG (g : Ghost) (r : Rep) : Prop := (r.view.phase = 0 → r.view.epoch = 0) ∧ (r.view.phase ≠ 0 → ∃ C L, InEp g r C L)
structure MsgG (g : Ghost) (m : Msg) : Prop where
  no8 : m.kind ≠ 8
  inst : m.kind = 11 → g.cfg m.epoch = some (m.chain, m.image.last)
  insd : m.kind = 12 → g.H (who m) m.epoch ≠ none
  ackd : m.kind = 14 → ∃ C L, g.cfg m.epoch = some (C, L) ∧ ∀ y ∈ C, idx C (who m) ≤ idx C y → vle m.ver (g.HL y m.epoch L)
structure ActMG (g : Ghost) (p : Play) (m : Msg) (L : Ver) : Prop where
  cfg : g.cfg m.epoch = some (m.chain, L)
  fresh : m.fresh = true → L = (tail0 m.epoch).last
  old : m.fresh = false → ∀ j, j < p.reps.length → isFirst m.chain (mem0 j) = true → (repAt p j).view.phase ≠ 0 → (repAt p j).view.epoch < m.epoch → (repAt p j).frozen = m.epoch → (repAt p j).tail.last = L
structure Inv (g : Ghost) (p : Play) : Prop where
  ep : ∀ e c, g.cfg e = some c → 1 ≤ e ∧ e ≤ p.epoch
  mem : ∀ e C L, g.cfg e = some (C, L) → C ≠ [] ∧ ∀ m ∈ C, ∃ j, j < p.reps.length ∧ m = mem0 j
  rep : ∀ j, j < p.reps.length → RepG g (repAt p j)
  hist : ∀ x e v, g.H x e = some v → (∃ j, j < p.reps.length ∧ x = mem0 j ∧ e ≤ (repAt p j).view.epoch) ∧ ∃ C L, g.cfg e = some (C, L) ∧ x ∈ C ∧ vle L v
  msg : ∀ m ∈ p.way, MsgG g m
  act : ∀ m ∈ p.way, m.kind = 10 → ∃ L, ActMG g p m L
  bar : ∀ e C L e' C' L', g.cfg e = some (C, L) → g.cfg e' = some (C', L') → e < e' → ∃ j, j < p.reps.length ∧ mem0 j ∈ C ∧ (e < (repAt p j).frozen ∨ e < (repAt p j).view.epoch) ∧ ∀ v, g.H (mem0 j) e = some v → vle v L'
  valM : ∀ m ∈ p.valid, ∃ j, j < p.reps.length ∧ m = mem0 j
  valC : ∀ e C L, g.e0 ≤ e → g.cfg e = some (C, L) → ∀ m ∈ p.valid, m ∈ C
  valH : 0 < g.e0 → ∀ m ∈ p.valid, g.H m g.e0 ≠ none
  safe : p.safe = ⟨0, 0⟩ ∨ ∃ e C L, g.cfg e = some (C, L) ∧ ∀ y ∈ C, ∃ v, g.H y e = some v ∧ vle p.safe v

/-! ### what the invariant says of the committed -/
section
variable {g : Ghost} {p : Play} (h : Inv g p)
include h
theorem Inv.phase {j : Nat} (hj : j < p.reps.length) {e : Int} {v : Ver} (hv : g.H (mem0 j) e = some v) : (repAt p j).view.phase ≠ 0 ∧ e ≤ (repAt p j).view.epoch := by
  obtain ⟨⟨i, hi, e1, e2⟩, C, L, hc, _⟩ := h.hist _ _ _ hv
  have := mem0_inj e1
  subst this
  refine ⟨fun h0 => ?_, e2⟩
  have h1 := (h.rep j hj).1 h0
  have := (h.ep _ _ hc).1
  omega
/-- what all of a chain ever had in its epoch each of them has -/
theorem Inv.has {e : Int} {C : List Member} {L c : Ver} (hc : g.cfg e = some (C, L)) (hall : ∀ y ∈ C, ∃ v, g.H y e = some v ∧ vle c v) {k : Nat} (hk : k < p.reps.length) (hp : (repAt p k).view.phase ≠ 0)
    (hs : (repAt p k).self = mem0 k) (he : e < (repAt p k).view.epoch ∨ (e = (repAt p k).view.epoch ∧ mem0 k ∈ C)) : vle c (repAt p k).tail.last := by
  obtain ⟨C', L', hi⟩ := (h.rep k hk).2 hp
  rcases he with he | ⟨he, hm⟩
  · obtain ⟨x, hx, hxm, _, hxv⟩ := h.bar _ _ _ _ _ _ hc hi.cfg he
    obtain ⟨v, hv, hcv⟩ := hall _ hxm
    exact (hcv.trans (hxv v hv)).trans hi.base
  · obtain ⟨v, hv, hcv⟩ := hall _ hm
    have h1 := hi.hist
    rw [← he, hs, hv] at h1
    injection h1 with h1
    rw [h1] at hcv; exact hcv
theorem Inv.com {j : Nat} (hj : j < p.reps.length) (hh : headP (repAt p j) = true) : ∃ C L, InEp g (repAt p j) C L ∧ ∀ y ∈ C, ∃ v, g.H y (repAt p j).view.epoch = some v ∧ vle (commitP (repAt p j)) v := by
  have hh' := hh
  unfold headP worksP liveP at hh'
  obtain ⟨h1, h2⟩ := and_true' hh'
  obtain ⟨h3, h4⟩ := and_true' h1
  have hp : (repAt p j).view.phase = 3 := of_decide_eq_true h4
  obtain ⟨C, L, hi⟩ := (h.rep j hj).2 (by rw [hp]; decide)
  refine ⟨C, L, hi, fun y hy => ?_⟩
  rw [hi.chain] at h2
  have hn := hi.act hp h2 y hy
  cases hv : g.H y (repAt p j).view.epoch with
  | none => exact absurd hv hn
  | some v =>
    refine ⟨v, rfl, ?_⟩
    unfold commitP
    rw [hh, cond_true]
    cases hl : decide ((repAt p j).view.chain.length = 1) with
    | true =>
      have hl := of_decide_eq_true hl
      rw [hi.chain] at hl
      obtain ⟨r, hr⟩ := isFirst_cons h2
      rw [hr] at hl hy
      have : r = [] := by cases r with
        | nil => rfl
        | cons a b => simp at hl
      subst this
      simp only [List.mem_singleton] at hy
      subst hy
      rw [hi.hist] at hv
      injection hv with hv
      rw [hv]; exact .refl _
    | false =>
      have hg := hi.got y hy (by rw [isFirst_idx h2]; exact idx_mem.2 hy)
      unfold Ghost.HL at hg
      rw [hv] at hg; exact hg
theorem Inv.commits {j k : Nat} (hs : Selfs p) (hj : j < p.reps.length) (hk : k < p.reps.length) (hh : headP (repAt p j) = true) (hm : (repAt p k).self ∈ (repAt p j).view.chain) :
    (repAt p k).view.phase ≠ 0 ∧ vle (commitP (repAt p j)) (repAt p k).tail.last := by
  obtain ⟨C, L, hi, hall⟩ := h.com hj hh
  rw [hi.chain, hs k hk] at hm
  obtain ⟨v, hv, _⟩ := hall _ hm
  obtain ⟨h1, h2⟩ := h.phase hk hv
  exact ⟨h1, h.has hi.cfg hall hk h1 (hs k hk) (by rcases Int.lt_or_eq_of_le h2 with e | e
                                                   · exact .inl e
                                                   · exact .inr ⟨e, hm⟩)⟩
theorem Inv.safes {k : Nat} (hs : Selfs p) (hk : k < p.reps.length) (hm : (repAt p k).self ∈ p.valid) (hp : (repAt p k).view.phase ≠ 0) : vle p.safe (repAt p k).tail.last := by
  rcases h.safe with e | ⟨e, C, L, hc, hall⟩
  · rw [e]; exact vle_zero _
  · rw [hs k hk] at hm
    by_cases he0 : g.e0 ≤ e
    · have hmC := h.valC e C L he0 hc _ hm
      obtain ⟨v, hv, _⟩ := hall _ hmC
      obtain ⟨_, h2⟩ := h.phase hk hv
      exact h.has hc hall hk hp (hs k hk) (by rcases Int.lt_or_eq_of_le h2 with e | e
                                              · exact .inl e
                                              · exact .inr ⟨e, hmC⟩)
    · have h1 := (h.ep _ _ hc).1
      have hn := h.valH (by omega) _ hm
      cases hv : g.H (mem0 k) g.e0 with
      | none => exact absurd hv hn
      | some v =>
        obtain ⟨_, h2⟩ := h.phase hk hv
        exact h.has hc hall hk hp (hs k hk) (.inl (by omega))
end
end Go.Wk
end

section
/- A play's invariant is kept: a member's step. -/
open Go Go.AM Go.Md Go.Fl
namespace Go.Wk

/-- what was, with what a member has now -/
def Ghost.up (g : Ghost) (r : Rep) : Ghost := { g with H := fun x e => if x = r.self ∧ e = r.view.epoch ∧ r.view.phase ≠ 0 then some r.tail.last else g.H x e }

/-- what a step of a member may change -/
structure Moves (g : Ghost) (r r' : Rep) : Prop where
  self : r'.self = r.self
  ep : r.view.epoch ≤ r'.view.epoch
  fr : r.frozen ≤ r'.frozen
  grow : r'.view.phase ≠ 0 → ∃ C L, g.cfg r'.view.epoch = some (C, L) ∧ r'.self ∈ C ∧ vle L r'.tail.last ∧ ∀ v, g.H r'.self r'.view.epoch = some v → vle v r'.tail.last
  /-- nothing is changed in what there was, or it is open -/
  quiet : (r'.view.phase ≠ 0 → g.H r'.self r'.view.epoch = some r'.tail.last) ∨ r'.frozen ≤ r'.view.epoch
  act : (r'.frozen = r.frozen ∧ r'.tail.last = r.tail.last ∧ r'.view.epoch = r.view.epoch ∧ (r'.view.phase ≠ 0 → r.view.phase ≠ 0)) ∨ r'.frozen ≤ r'.view.epoch ∨ ∀ c, g.cfg r'.frozen ≠ some c
theorem Ghost.up_mono {g : Ghost} {r r' : Rep} (hm : Moves g r r') {x : Member} {e : Int} {v : Ver} (h : g.H x e = some v) : ∃ v', (g.up r').H x e = some v' ∧ vle v v' := by
  unfold Ghost.up
  simp only
  split
  · rename_i hc
    obtain ⟨rfl, rfl, h3⟩ := hc
    obtain ⟨C, L, _, _, _, hg⟩ := hm.grow h3
    exact ⟨_, rfl, hg v h⟩
  · exact ⟨v, h, .refl _⟩
theorem Ghost.up_ne {g : Ghost} {r r' : Rep} (hm : Moves g r r') {x : Member} {e : Int} (h : g.H x e ≠ none) : (g.up r').H x e ≠ none := by
  cases hv : g.H x e with
  | none => exact absurd hv h
  | some v =>
    obtain ⟨v', h1, _⟩ := Ghost.up_mono hm hv
    rw [h1]; exact fun e => by cases e
theorem Ghost.up_HL {g : Ghost} {r r' : Rep} (hm : Moves g r r') {x : Member} {e : Int} {C : List Member} {L : Ver} (hc : g.cfg e = some (C, L)) : vle (g.HL x e L) ((g.up r').HL x e L) := by
  unfold Ghost.HL
  cases hv : g.H x e with
  | some v =>
    obtain ⟨v', h1, h2⟩ := Ghost.up_mono hm hv
    rw [h1]; exact h2
  | none =>
    show vle L _
    unfold Ghost.up
    simp only
    split
    · rename_i hc'
      obtain ⟨rfl, rfl, h3⟩ := hc'
      obtain ⟨C', L', h4, _, h5, _⟩ := hm.grow h3
      rw [hc] at h4
      injection h4 with h4
      injection h4 with _ h4
      rw [h4]; exact h5
    · rw [hv]; exact .refl _
theorem RepG.mono {g : Ghost} {r r' : Rep} (hm : Moves g r r') {x : Rep} (hx : x.self ≠ r'.self) (h : RepG g x) : RepG (g.up r') x := by
  refine ⟨h.1, fun hp => ?_⟩
  obtain ⟨C, L, hi⟩ := h.2 hp
  refine ⟨C, L, hi.cfg, hi.chain, hi.mem, hi.base, ?_, fun y hy hyx => (hi.got y hy hyx).trans (Ghost.up_HL hm hi.cfg), fun h2 => ⟨(hi.sync h2).1, fun i y h3 h4 => Ghost.up_ne hm ((hi.sync h2).2 i y h3 h4)⟩, fun h3 hf y hy => Ghost.up_ne hm (hi.act h3 hf y hy)⟩
  unfold Ghost.up
  simp only
  rw [if_neg (fun hc => hx hc.1)]
  exact hi.hist
theorem MsgG.mono {g : Ghost} {r r' : Rep} (hm : Moves g r r') {m : Msg} (h : MsgG g m) : MsgG (g.up r') m :=
  ⟨h.no8, h.inst, fun e => Ghost.up_ne hm (h.insd e), fun e => by
    obtain ⟨C, L, h1, h2⟩ := h.ackd e
    exact ⟨C, L, h1, fun y hy hyx => (h2 y hy hyx).trans (Ghost.up_HL hm h1)⟩⟩

theorem Inv.step {g : Ghost} {p : Play} (h : Inv g p) (hs : Selfs p) {j : Nat} (hj : j < p.reps.length) {r' : Rep} {out : List Msg} (hm : Moves g (repAt p j) r') (hr : RepG (g.up r') r') (ho : ∀ m ∈ out, MsgG (g.up r') m ∧ m.kind ≠ 10) :
    Inv (g.up r') (layW (putR p j r') out) := by
  have hself : r'.self = mem0 j := hm.self.trans (hs j hj)
  have hlen : (layW (putR p j r') out).reps.length = p.reps.length := putR_len p j r'
  have hat : ∀ i, repAt (layW (putR p j r') out) i = if i = j then r' else repAt p i := fun i => repAt_put hj i
  refine ⟨h.ep, fun e C L hc => ?_, fun i hi => ?_, fun x e v hv => ?_, fun m hmw => ?_, fun m hmw hk => ?_, fun e C L e' C' L' hc hc' hlt => ?_, fun m hv => ?_, h.valC, fun h0 m hv => Ghost.up_ne hm (h.valH h0 m hv), ?_⟩
  · rw [hlen]; exact h.mem e C L hc
  · rw [hlen] at hi
    rw [hat]
    split
    · exact hr
    · rename_i hne
      exact (h.rep i hi).mono hm (by rw [hs i hi, hself]; exact fun e => hne (mem0_inj e))
  · rw [hlen]
    have hold : ∀ v, g.H x e = some v → (∃ i, i < p.reps.length ∧ x = mem0 i ∧ e ≤ (repAt (layW (putR p j r') out) i).view.epoch) := fun v hv => by
      obtain ⟨⟨i, h1, h2, h3⟩, _⟩ := h.hist x e v hv
      refine ⟨i, h1, h2, ?_⟩
      rw [hat]
      split
      · rename_i e; subst e; have := hm.ep; omega
      · exact h3
    unfold Ghost.up at hv
    simp only at hv
    split at hv
    · rename_i hc
      obtain ⟨h1, h2, h3⟩ := hc
      injection hv with hv
      subst hv
      obtain ⟨C, L, h4, h5, h6, _⟩ := hm.grow h3
      exact ⟨⟨j, hj, h1.trans hself, by rw [hat, if_pos rfl, h2]; omega⟩, C, L, by rw [h2]; exact h4, by rw [h1]; exact h5, h6⟩
    · exact ⟨hold v hv, (h.hist x e v hv).2⟩
  · rcases List.mem_append.1 hmw with hmw | hmw
    · exact (h.msg m hmw).mono hm
    · exact (ho m hmw).1
  · rcases List.mem_append.1 hmw with hmw | hmw
    · obtain ⟨L, ha⟩ := h.act m hmw hk
      refine ⟨L, ha.cfg, ha.fresh, fun hf i hi hfi => ?_⟩
      rw [hlen] at hi
      rw [hat]
      split
      · rename_i e; subst e
        intro hp he hfr
        rcases hm.act with ⟨a1, a2, a3, a4⟩ | a | a
        · rw [a2]; exact ha.old hf i hj hfi (a4 hp) (by omega) (by omega)
        · omega
        · rw [hfr] at a; exact absurd ha.cfg (a _)
      · exact ha.old hf i hi hfi
    · exact absurd hk (ho m hmw).2
  · obtain ⟨i, h1, h2, h3, h4⟩ := h.bar e C L e' C' L' hc hc' hlt
    refine ⟨i, by rw [hlen]; exact h1, h2, ?_, fun v hv => ?_⟩
    · rw [hat]
      split
      · rename_i e; subst e; have := hm.ep; have := hm.fr; omega
      · exact h3
    · unfold Ghost.up at hv
      simp only at hv
      split at hv
      · rename_i hc
        obtain ⟨g1, g2, g3⟩ := hc
        rw [hself] at g1
        have := mem0_inj g1
        subst this
        injection hv with hv
        subst hv
        rcases hm.quiet with q | q
        · have := q g3
          rw [hself, ← g2] at this
          exact h4 _ this
        · have := hm.ep; have := hm.fr; omega
      · exact h4 v hv
  · rw [hlen]; exact h.valM m hv
  · rcases h.safe with e | ⟨e, C, L, h1, h2⟩
    · exact .inl e
    · refine .inr ⟨e, C, L, h1, fun y hy => ?_⟩
      obtain ⟨v, h3, h4⟩ := h2 y hy
      obtain ⟨v', h5, h6⟩ := Ghost.up_mono hm h3
      exact ⟨v', h5, h4.trans h6⟩
end Go.Wk
end

section
/- A play's invariant is kept: what a message brings about. -/
open Go Go.AM Go.Md Go.Fl
set_option linter.unusedSectionVars false
namespace Go.Wk
theorem live_phase {r : Rep} (h : liveP r = true) : r.view.phase ≠ 0 ∧ r.frozen ≤ r.view.epoch := by
  unfold liveP at h
  obtain ⟨h1, h2⟩ := and_true' h
  exact ⟨by simpa using h1, of_decide_eq_true h2⟩
theorem works_phase {r : Rep} (h : worksP r = true) : r.view.phase = 3 ∧ r.frozen ≤ r.view.epoch := by
  unfold worksP at h
  obtain ⟨h1, h2⟩ := and_true' h
  exact ⟨of_decide_eq_true h2, (live_phase h1).2⟩
theorem syncs_phase {r : Rep} (h : syncsP r = true) : r.view.phase = 2 ∧ r.frozen ≤ r.view.epoch := by
  unfold syncsP at h
  obtain ⟨h1, h2⟩ := and_true' h
  exact ⟨of_decide_eq_true h2, (live_phase h1).2⟩
section
variable {g : Ghost} {r : Rep} (h : RepG g r) (hc : ChainIs r.view.chain)
include h hc
theorem acks_msg (hp : r.view.phase ≠ 0) (hgl : vle r.got r.tail.last) : ∀ m ∈ acksP r, MsgG g m ∧ m.kind ≠ 10 := by
  intro m hm
  unfold acksP at hm
  split at hm
  · cases hm
  · rename_i x hx
    simp only [List.mem_singleton] at hm
    subst hm
    obtain ⟨C, L, hi⟩ := h.2 hp
    refine ⟨⟨by simp [toM], fun e => by simp [toM] at e, fun e => by simp [toM] at e, fun _ => ⟨C, L, hi.cfg, fun y hy hyx => ?_⟩⟩, by simp [toM]⟩
    have hw : who { toM r x 14 with ver := haveP r } = r.self := rfl
    rw [hw] at hyx
    show vle (haveP r) (g.HL y r.view.epoch L)
    unfold haveP
    cases hs : (sideP r.view.chain r.self 1).isSome with
    | true => exact hi.got y hy hyx
    | false =>
      rw [hi.chain] at hs
      have := sideP_last hi.mem hy hs hyx
      subst this
      unfold Ghost.HL
      rw [hi.hist]; exact .refl _
theorem insts_msg (hp : r.view.phase = 2) : ∀ (l : List Member) (s : List Bool), ∀ m ∈ instsP r l s, MsgG g m ∧ m.kind ≠ 10
  | [], _, m, hm => by simp [instsP] at hm
  | _ :: _, [], m, hm => by simp [instsP] at hm
  | a :: l, s :: ss, m, hm => by
    have ih := insts_msg hp l ss
    unfold instsP at hm
    cases s with
    | true => exact ih m hm
    | false =>
      rcases List.mem_cons.1 hm with rfl | hm
      · obtain ⟨C, L, hi⟩ := h.2 (by rw [hp]; decide)
        refine ⟨⟨by simp [instM, toM], fun _ => ?_, fun e => by simp [instM, toM] at e, fun e => by simp [instM, toM] at e⟩, by simp [instM, toM]⟩
        show g.cfg r.view.epoch = some (r.view.chain, r.tail.last)
        rw [hi.cfg, hi.chain, (hi.sync hp).1]
      · exact ih m hm
theorem again_msg (hgl : vle r.got r.tail.last) : ∀ m ∈ againP r, MsgG g m ∧ m.kind ≠ 10 := by
  intro m hm
  unfold againP at hm
  cases hs : syncsP r with
  | true => rw [hs] at hm; exact insts_msg h hc (syncs_phase hs).1 _ _ m hm
  | false =>
    rw [hs] at hm
    cases hw : worksP r with
    | false => rw [hw] at hm; cases hm
    | true =>
      rw [hw] at hm
      have hp := (works_phase hw).1
      rcases List.mem_append.1 hm with hm | hm
      · unfold forwsP at hm
        split at hm
        · cases hm
        · simp only [List.mem_singleton] at hm
          subst hm
          exact ⟨⟨by simp [forwM, toM], fun e => by simp [forwM, toM] at e, fun e => by simp [forwM, toM] at e, fun e => by simp [forwM, toM] at e⟩, by simp [forwM, toM]⟩
      · exact acks_msg h hc (by rw [hp]; decide) hgl m hm
end

/-- a step of a member, with what it sends -/
structure StepG (g : Ghost) (r : Rep) (o : Rep × List Msg) : Prop where
  mv : Moves g r o.1
  rep : RepG (g.up o.1) o.1
  out : ∀ m ∈ o.2, MsgG (g.up o.1) m ∧ m.kind ≠ 10
theorem up_same {g : Ghost} {r : Rep} (h : RepG g r) : g.up r = g := by
  unfold Ghost.up
  have : (fun x e => if x = r.self ∧ e = r.view.epoch ∧ r.view.phase ≠ 0 then some r.tail.last else g.H x e) = g.H := by
    funext x e
    split
    · rename_i hc
      obtain ⟨rfl, rfl, hp⟩ := hc
      obtain ⟨C, L, hi⟩ := h.2 hp
      exact hi.hist.symm
    · rfl
  rw [this]
/-- a step that leaves the tail's end -/
theorem Moves.still {g : Ghost} {r r' : Rep} (h : RepG g r) (hs : r'.self = r.self) (he : r'.view.epoch = r.view.epoch) (hp : r'.view.phase ≠ 0 ↔ r.view.phase ≠ 0) (hl : r'.tail.last = r.tail.last) (hf : r.frozen ≤ r'.frozen)
    (ha : r'.frozen = r.frozen ∨ ∀ c, g.cfg r'.frozen ≠ some c) : Moves g r r' where
  self := hs
  ep := by omega
  fr := hf
  grow := fun h0 => by
    obtain ⟨C, L, hi⟩ := h.2 (hp.1 h0)
    exact ⟨C, L, by rw [he]; exact hi.cfg, by rw [hs]; exact hi.mem, by rw [hl]; exact hi.base, fun v hv => by
      rw [hs, he, hi.hist] at hv
      injection hv with hv
      rw [hl, hv]; exact .refl _⟩
  quiet := .inl fun h0 => by
    obtain ⟨C, L, hi⟩ := h.2 (hp.1 h0)
    rw [hs, he, hl]; exact hi.hist
  act := ha.elim (fun a => .inl ⟨a, hl, he, hp.1⟩) fun a => .inr (.inr a)
theorem up_still {g : Ghost} {r r' : Rep} (h : RepG g r) (hs : r'.self = r.self) (he : r'.view.epoch = r.view.epoch) (hp : r'.view.phase ≠ 0 ↔ r.view.phase ≠ 0) (hl : r'.tail.last = r.tail.last) : g.up r' = g := by
  have e : g.up r' = g.up r := by
    unfold Ghost.up
    congr 1
    funext x e
    rw [hs, he, hl]
    by_cases h1 : x = r.self ∧ e = r.view.epoch ∧ r.view.phase ≠ 0
    · rw [if_pos h1, if_pos ⟨h1.1, h1.2.1, hp.2 h1.2.2⟩]
    · rw [if_neg h1, if_neg fun h2 => h1 ⟨h2.1, h2.2.1, hp.1 h2.2.2⟩]
  rw [e, up_same h]
theorem StepG.same {g : Ghost} {r : Rep} (h : RepG g r) : StepG g r (r, []) :=
  ⟨.still h rfl rfl Iff.rfl rfl (Int.le_refl _) (.inl rfl), by rw [up_same h]; exact h, fun m hm => by cases hm⟩
/-- a step into another epoch -/
theorem Moves.enter {g : Ghost} {r r' : Rep} {C : List Member} {L : Ver} (hs : r'.self = r.self) (he : r.view.epoch < r'.view.epoch) (hf : r'.frozen = r.frozen) (hfe : r.frozen ≤ r'.view.epoch)
    (hc : g.cfg r'.view.epoch = some (C, L)) (hm : r.self ∈ C) (hl : r'.tail.last = L) (hn : ∀ v, g.H r.self r'.view.epoch = some v → vle v L) : Moves g r r' where
  self := hs
  ep := by omega
  fr := by omega
  grow := fun _ => ⟨C, L, hc, by rw [hs]; exact hm, by rw [hl]; exact .refl _, fun v hv => by rw [hl]; exact hn v (by rw [← hs]; exact hv)⟩
  quiet := .inr (by omega)
  act := .inr (.inl (by omega))
/-- a step in an epoch, that lets the tail grow -/
theorem Moves.more {g : Ghost} {r r' : Rep} (h : RepG g r) (hs : r'.self = r.self) (hv : r'.view = r.view) (hf : r'.frozen = r.frozen) (hfe : r.frozen ≤ r.view.epoch) (hl : vle r.tail.last r'.tail.last) : Moves g r r' where
  self := hs
  ep := by rw [hv]; omega
  fr := by omega
  grow := fun h0 => by
    rw [hv] at h0
    obtain ⟨C, L, hi⟩ := h.2 h0
    exact ⟨C, L, by rw [hv]; exact hi.cfg, by rw [hs]; exact hi.mem, hi.base.trans hl, fun v e => by
      rw [hs, hv, hi.hist] at e
      injection e with e
      rw [← e]; exact hl⟩
  quiet := .inr (by rw [hv]; omega)
  act := .inr (.inl (by rw [hv]; omega))
theorem up_hist {g : Ghost} {r : Rep} (h : r.view.phase ≠ 0) : (g.up r).H r.self r.view.epoch = some r.tail.last := by
  show (if r.self = r.self ∧ r.view.epoch = r.view.epoch ∧ r.view.phase ≠ 0 then some r.tail.last else g.H r.self r.view.epoch) = _
  exact if_pos ⟨rfl, rfl, h⟩
theorem HL_base {g : Ghost} {y : Member} {e : Int} {L : Ver} (h : ∀ v, g.H y e = some v → vle L v) : vle L (g.HL y e L) := by
  unfold Ghost.HL
  cases hv : g.H y e with
  | none => exact .refl _
  | some v => exact h v hv

theorem takeP_more : ∀ (l : List Entry) (r : Rep), vle r.tail.last (takeP r l).tail.last
  | [], r => .refl _
  | e :: l, r => by
    unfold takeP
    refine .trans ?_ (takeP_more l _)
    cases decide (nu e.ver = nu r.tail.last + 1)
    · exact .refl _
    · simp only [cond_true]
      unfold pushP
      cases hl : vlt r.tail.last e.ver
      · exact .refl _
      · exact vle_of_lt hl
theorem fwdR_more (r : Rep) (m : Msg) : vle r.tail.last (fwdR r m).tail.last := by
  refine (takeP_more m.entries r).trans ?_
  unfold fwdR
  cases hv : vlt (takeP r m.entries).tail.last m.floor with
  | true => exact .refl _
  | false => exact vmax_l _ _
/-- a member that works, with a longer tail -/
theorem RepG.more {g : Ghost} {r r' : Rep} (h : RepG g r) (hm : Moves g r r') (hp : r.view.phase = 3) (hv : r'.view = r.view) (hl : vle r.tail.last r'.tail.last) (hg : r'.got = r.got) : RepG (g.up r') r' := by
  have h3 : r'.view.phase = 3 := by rw [hv]; exact hp
  refine ⟨fun h0 => by rw [h3] at h0; simp at h0, fun h0 => ?_⟩
  obtain ⟨C, L, hi⟩ := h.2 (by rw [hp]; decide)
  refine ⟨C, L, by rw [hv]; exact hi.cfg, by rw [hv]; exact hi.chain, by rw [hm.self]; exact hi.mem, hi.base.trans hl, up_hist h0, fun y hy hyx => ?_, fun h2 => by rw [h3] at h2; simp at h2, fun _ hf y hy => ?_⟩
  · rw [hg, hv]
    exact (hi.got y hy (by rw [← hm.self]; exact hyx)).trans (Ghost.up_HL hm hi.cfg)
  · rw [hv]
    exact Ghost.up_ne hm (hi.act hp (by rw [← hm.self]; exact hf) y hy)

section
variable {g : Ghost} {p : Play} (h : Inv g p) {j : Nat} (hj : j < p.reps.length) (hs : Selfs p) {E : Int} {N : Nat} (hr : RepIs E N (repAt p j)) {m : Msg} (hm : MsgIs E N m)
include h hj hs hr hm
theorem no_hist {e : Int} (he : (repAt p j).view.epoch < e) {v : Ver} : g.H (repAt p j).self e ≠ some v := by
  intro hv
  rw [hs j hj] at hv
  have := (h.phase hj hv).2
  omega
theorem base_of {e : Int} {C : List Member} {L : Ver} (hc : g.cfg e = some (C, L)) (y : Member) : vle L (g.HL y e L) := by
  refine HL_base fun v hv => ?_
  obtain ⟨_, C', L', h1, _, h2⟩ := h.hist y e v hv
  rw [hc] at h1
  injection h1 with h1
  injection h1 with _ h1
  rw [h1]; exact h2
theorem act_step (ha : ∃ L, ActMG g p m L) (hEN : E ≤ N) (hg : actG (repAt p j) m = true) : StepG g (repAt p j) (actR (repAt p j) m, againP (actR (repAt p j) m)) := by
  obtain ⟨L, ha⟩ := ha
  unfold actG at hg
  obtain ⟨g1, g2⟩ := and_true' hg
  obtain ⟨g2, g3⟩ := and_true' g2
  obtain ⟨a1, a2⟩ := above_iff.1 g1
  have hri := actR_is hr hm hEN g2
  have hlast : (actR (repAt p j) m).tail.last = L := by
    show (actT (repAt p j) m).last = L
    unfold actT
    cases hf : m.fresh with
    | true => exact (ha.fresh hf).symm
    | false =>
      rw [hf, Bool.false_or] at g3
      obtain ⟨b1, b2⟩ := and_true' g3
      exact ha.old hf j hj (by rw [← hs j hj]; exact g2) (by simpa using b1) a1 (of_decide_eq_true b2).symm
  have hmv : Moves g (repAt p j) (actR (repAt p j) m) := .enter (C := m.chain) (L := L) rfl a1 rfl a2 ha.cfg (isFirst_mem g2) hlast fun v hv => absurd hv (no_hist h hj hs hr hm a1)
  have hph : (actR (repAt p j) m).view.phase ≠ 0 := by
    show (bif decide (m.chain.length = 1) then (3 : Int) else 2) ≠ 0
    cases decide (m.chain.length = 1) <;> simp
  have hrg : RepG (g.up (actR (repAt p j) m)) (actR (repAt p j) m) := by
    refine ⟨fun h0 => absurd h0 hph, fun _ => ⟨m.chain, L, ha.cfg, rfl, isFirst_mem g2, by rw [hlast]; exact .refl _, up_hist hph, fun y hy _ => ?_, fun h2 => ⟨hlast, fun i y hi hsy => ?_⟩, fun h3 hf y hy => ?_⟩⟩
    · show vle (actT (repAt p j) m).last _
      have : (actT (repAt p j) m).last = L := hlast
      rw [this]
      exact (base_of h hj hs hr hm ha.cfg y).trans (Ghost.up_HL hmv ha.cfg)
    · obtain ⟨rest, hrest⟩ := isFirst_cons g2
      cases i with
      | zero =>
        rw [hrest] at hi
        simp at hi
        subst hi
        have := up_hist (g := g) hph
        show (g.up (actR (repAt p j) m)).H (actR (repAt p j) m).self (actR (repAt p j) m).view.epoch ≠ none
        rw [this]; exact fun e => by cases e
      | succ i =>
        have : (actR (repAt p j) m).synced[i + 1]? = (List.replicate (m.chain.length - 1) false)[i]? := rfl
        rw [this, List.getElem?_replicate] at hsy
        split at hsy <;> simp at hsy
    · have hl1 : m.chain.length = 1 := by
        have h3 : (bif decide (m.chain.length = 1) then (3 : Int) else 2) = 3 := h3
        cases hd : decide (m.chain.length = 1) with
        | true => exact of_decide_eq_true hd
        | false => rw [hd] at h3; simp at h3
      obtain ⟨rest, hrest⟩ := isFirst_cons g2
      have : rest = [] := by
        rw [hrest] at hl1
        cases rest with
        | nil => rfl
        | cons a b => simp at hl1
      subst this
      rw [hrest] at hy
      simp only [List.mem_singleton] at hy
      subst hy
      have := up_hist (g := g) hph
      show (g.up (actR (repAt p j) m)).H (actR (repAt p j) m).self (actR (repAt p j) m).view.epoch ≠ none
      rw [this]; exact fun e => by cases e
  exact ⟨hmv, hrg, again_msg hrg hri.chain hri.gle⟩
theorem ins_step (hi : m.kind = 11) (hg : MsgG g m) : StepG g (repAt p j) (insP (repAt p j) m) := by
  unfold insP
  cases hd : decide (0 < idx m.chain (repAt p j).self) with
  | false => exact .same (h.rep j hj)
  | true =>
    have hd := of_decide_eq_true hd
    have key : Moves g (repAt p j) (insR (repAt p j) m) ∧ RepG (g.up (insR (repAt p j) m)) (insR (repAt p j) m) := by
      unfold insR
      cases ha : aboveP (repAt p j) m with
      | false => exact ⟨(StepG.same (h.rep j hj)).mv, (StepG.same (h.rep j hj)).rep⟩
      | true =>
        obtain ⟨a1, a2⟩ := above_iff.1 ha
        have hc := hg.inst hi
        have hme : (repAt p j).self ∈ m.chain := idx_mem.1 (by omega)
        simp only [cond_true]
        have hmv : Moves g (repAt p j) { repAt p j with view := ⟨m.shard, m.epoch, m.gen, 3, m.chain⟩, tail := ⟨m.image.floor, m.image.last, m.image.log⟩, seen := m.image.seen, got := m.image.last, synced := [] } :=
          .enter (C := m.chain) (L := m.image.last) rfl a1 rfl a2 hc hme rfl fun v hv => absurd hv (no_hist h hj hs hr hm a1)
        refine ⟨hmv, fun h0 => by simp at h0, fun h0 => ⟨m.chain, m.image.last, hc, rfl, hme, .refl _, up_hist h0, fun y hy _ => ?_, fun h2 => by simp at h2, fun _ hf => ?_⟩⟩
        · exact (base_of h hj hs hr hm hc y).trans (Ghost.up_HL hmv hc)
        · have := isFirst_idx hf
          simp only at this; omega
    refine ⟨key.1, key.2, fun x hx => ?_⟩
    simp only [cond_true] at hx ⊢
    cases hc : liveP (insR (repAt p j) m) && decide (m.epoch = (insR (repAt p j) m).view.epoch) with
    | false => rw [hc] at hx; cases hx
    | true =>
      rw [hc] at hx
      simp only [cond_true, List.mem_singleton] at hx
      subst hx
      obtain ⟨c1, c2⟩ := and_true' hc
      have hp := (live_phase c1).1
      refine ⟨⟨by simp [toM], fun e => by simp [toM] at e, fun _ => ?_, fun e => by simp [toM] at e⟩, by simp [toM]⟩
      show (g.up (insR (repAt p j) m)).H (insR (repAt p j) m).self (insR (repAt p j) m).view.epoch ≠ none
      rw [up_hist hp]; exact fun e => by cases e
theorem ind_step (hi : m.kind = 12) (hg : MsgG g m) : StepG g (repAt p j) (indP (repAt p j) m) := by
  unfold indP
  cases hd : syncsP (repAt p j) && (decide (m.epoch = (repAt p j).view.epoch) && decide (0 ≤ idx (repAt p j).view.chain (who m))) with
  | false => exact .same (h.rep j hj)
  | true =>
    obtain ⟨d1, d2⟩ := and_true' hd
    obtain ⟨d2, d3⟩ := and_true' d2
    have d2 := of_decide_eq_true d2
    have d3 := of_decide_eq_true d3
    have hp := (syncs_phase d1).1
    have hR := h.rep j hj
    obtain ⟨C, L, hI⟩ := hR.2 (by rw [hp]; decide)
    obtain ⟨hL, hsy⟩ := hI.sync hp
    have hw := hg.insd hi
    rw [d2] at hw
    rw [hI.chain] at d3
    obtain ⟨k, k1, k2⟩ := idx_at (idx_mem.1 d3)
    have hsyn : ∀ (i : Nat) y, C[i]? = some y → (indS (repAt p j) m)[i]? = some true → g.H y (repAt p j).view.epoch ≠ none := by
      intro i y hiy hit
      unfold indS at hit
      rw [hI.chain, k1, Int.toNat_natCast, List.getElem?_set] at hit
      split at hit
      · rename_i e
        subst e
        rw [k2] at hiy
        injection hiy with hiy
        rw [← hiy]; exact hw
      · exact hsy i y hiy hit
    have hlen : (indS (repAt p j) m).length = C.length := by
      have := (hr.sync hp).2
      unfold indS; rw [List.length_set, this, hI.chain]
    have hstill : ∀ r' : Rep, r'.self = (repAt p j).self → r'.view.epoch = (repAt p j).view.epoch → r'.view.chain = C → r'.tail = (repAt p j).tail → r'.frozen = (repAt p j).frozen → r'.view.phase ≠ 0 → (r'.got = (repAt p j).got ∨ r'.got = L) →
        r'.synced = indS (repAt p j) m → (r'.view.phase = 3 → ∀ y ∈ C, g.H y (repAt p j).view.epoch ≠ none) → StepG g (repAt p j) (r', []) := by
      intro r' e1 e2 e3 e4 e5 e6 e7 e8 e9
      have hpp : r'.view.phase ≠ 0 ↔ (repAt p j).view.phase ≠ 0 := ⟨fun _ => by rw [hp]; decide, fun _ => e6⟩
      have hup := up_still hR e1 e2 hpp (by rw [e4])
      refine ⟨.still hR e1 e2 hpp (by rw [e4]) (show (repAt p j).frozen ≤ r'.frozen by omega) (.inl e5), ?_, fun x hx => by cases hx⟩
      show RepG (g.up r') r'
      rw [hup]
      refine ⟨fun h0 => absurd h0 e6, fun _ => ⟨C, L, by rw [e2]; exact hI.cfg, e3, by rw [e1]; exact hI.mem, by rw [e4]; exact hI.base, by rw [e1, e2, e4]; exact hI.hist, fun y hy hyx => ?_, fun _ => ⟨by rw [e4]; exact hL, fun i y h1 h2 => by rw [e2]; exact hsyn i y h1 (by rw [← e8]; exact h2)⟩, fun h3 _ y hy => by rw [e2]; exact e9 h3 y hy⟩⟩
      rw [e2]
      rcases e7 with e7 | e7
      · rw [e7]; exact hI.got y hy (by rw [← e1]; exact hyx)
      · rw [e7]; exact base_of h hj hs hr hm hI.cfg y
    simp only [cond_true]
    unfold indR
    cases hall : (indS (repAt p j) m).all id with
    | false => exact hstill _ rfl rfl hI.chain rfl rfl (by show (repAt p j).view.phase ≠ 0; rw [hp]; decide) (.inl rfl) rfl (fun h3 => by have h3 : (repAt p j).view.phase = 3 := h3; rw [hp] at h3; simp at h3)
    | true =>
      refine hstill _ rfl rfl hI.chain rfl rfl (by simp) (.inr hL) rfl (fun _ y hy => ?_)
      obtain ⟨i, hi1⟩ := List.getElem?_of_mem hy
      have hil : i < (indS (repAt p j) m).length := by
        rw [hlen]
        rcases Nat.lt_or_ge i C.length with h | h
        · exact h
        · rw [List.getElem?_eq_none h] at hi1; cases hi1
      have : (indS (repAt p j) m)[i]? = some true := by
        rw [List.getElem?_eq_getElem hil]
        have := List.all_eq_true.1 hall _ (List.getElem_mem hil)
        exact congrArg some this
      exact hsyn i y hi1 this
theorem fwd_step : StepG g (repAt p j) (fwdP (repAt p j) m) := by
  unfold fwdP
  cases hd : nextG (repAt p j) m (-1) with
  | false => exact .same (h.rep j hj)
  | true =>
    unfold nextG at hd
    obtain ⟨d1, _⟩ := and_true' hd
    obtain ⟨hp, hf⟩ := works_phase d1
    have hk := fwdR_self (repAt p j) m
    have hmv : Moves g (repAt p j) (fwdR (repAt p j) m) := .more (h.rep j hj) hk.self hk.view hk.frozen hf (fwdR_more _ _)
    have hrg := (h.rep j hj).more hmv hp hk.view (fwdR_more _ _) hk.got
    have hri := fwdR_is hr hm
    exact ⟨hmv, hrg, again_msg hrg hri.chain hri.gle⟩
theorem ack_step (hi : m.kind = 14) (hg : MsgG g m) : StepG g (repAt p j) (ackP (repAt p j) m) := by
  unfold ackP
  cases hd : nextG (repAt p j) m 1 with
  | false => exact .same (h.rep j hj)
  | true =>
    unfold nextG at hd
    obtain ⟨d1, d2⟩ := and_true' hd
    obtain ⟨d2, d3⟩ := and_true' d2
    have d2 := of_decide_eq_true d2
    have d3 := of_decide_eq_true d3
    obtain ⟨hp, hf⟩ := works_phase d1
    have hR := h.rep j hj
    obtain ⟨C, L, hI⟩ := hR.2 (by rw [hp]; decide)
    rw [hI.chain] at d3
    have hnd : C.Nodup := by rw [← hI.chain]; exact hr.chain.2.1
    obtain ⟨s1, s2, s3⟩ := sideP_some hnd d3
    obtain ⟨C', L', c1, c2⟩ := hg.ackd hi
    rw [d2, hI.cfg] at c1
    injection c1 with c1
    injection c1 with c1 c1'
    subst c1; subst c1'
    have hri := ackR_is hr hm
    have hkeep : (ackR (repAt p j) m).self = (repAt p j).self ∧ (ackR (repAt p j) m).view = (repAt p j).view ∧ (ackR (repAt p j) m).tail = (repAt p j).tail ∧ (ackR (repAt p j) m).frozen = (repAt p j).frozen := by
      unfold ackR; cases vlt (repAt p j).tail.last m.ver <;> exact ⟨rfl, rfl, rfl, rfl⟩
    obtain ⟨e1, e2, e3, e4⟩ := hkeep
    have hpp : (ackR (repAt p j) m).view.phase ≠ 0 ↔ (repAt p j).view.phase ≠ 0 := by rw [e2]
    have hup := up_still hR e1 (by rw [e2]) hpp (by rw [e3])
    have hrg : RepG (g.up (ackR (repAt p j) m)) (ackR (repAt p j) m) := by
      rw [hup]
      refine ⟨fun h0 => by rw [e2, hp] at h0; simp at h0, fun _ => ⟨C, L, by rw [e2]; exact hI.cfg, by rw [e2]; exact hI.chain, by rw [e1]; exact hI.mem, by rw [e3]; exact hI.base, by rw [e1, e2, e3]; exact hI.hist, fun y hy hyx => ?_,
        fun h2 => by rw [e2, hp] at h2; simp at h2, fun h3 hf y hy => by rw [e2] at h3 ⊢; exact hI.act h3 (by rw [← e1]; exact hf) y hy⟩⟩
      rw [e1] at hyx
      rw [e2]
      have hold := hI.got y hy hyx
      unfold ackR
      cases hv : vlt (repAt p j).tail.last m.ver with
      | true => exact hold
      | false =>
        refine vmax_le hold ?_
        by_cases heq : idx C y = idx C (repAt p j).self
        · have := idx_inj hy hI.mem heq
          subst this
          unfold Ghost.HL
          rw [hI.hist]; exact hv
        · have := c2 y hy (by omega)
          rw [d2] at this; exact this
    simp only [cond_true]
    refine ⟨.still hR e1 (by rw [e2]) hpp (by rw [e3]) (show (repAt p j).frozen ≤ (ackR (repAt p j) m).frozen by omega) (.inl e4), hrg, ?_⟩
    exact acks_msg hrg hri.chain (by rw [e2, hp]; decide) hri.gle
theorem hand_step (hEN : E ≤ N) (hg : MsgG g m) (ha : m.kind = 10 → ∃ L, ActMG g p m L) : StepG g (repAt p j) (handP (repAt p j) m) := by
  have hsame : StepG g (repAt p j) (repAt p j, []) := .same (h.rep j hj)
  unfold handP
  cases toMe (repAt p j) m with
  | false => exact hsame
  | true =>
    simp only [cond_true]
    unfold handK
    rw [decide_eq_false hg.no8, cond_false]
    cases h10 : decide (m.kind = 10) with
    | true =>
      simp only [cond_true]
      unfold actP
      cases hG : actG (repAt p j) m with
      | false => exact hsame
      | true => exact act_step h hj hs hr hm (ha (of_decide_eq_true h10)) hEN hG
    | false =>
    simp only [cond_false]
    cases h11 : decide (m.kind = 11) with
    | true => exact ins_step h hj hs hr hm (of_decide_eq_true h11) hg
    | false =>
    simp only [cond_false]
    cases h12 : decide (m.kind = 12) with
    | true => exact ind_step h hj hs hr hm (of_decide_eq_true h12) hg
    | false =>
    simp only [cond_false]
    cases h13 : decide (m.kind = 13) with
    | true => exact fwd_step h hj hs hr hm
    | false =>
    simp only [cond_false]
    cases h14 : decide (m.kind = 14) with
    | true => exact ack_step h hj hs hr hm (of_decide_eq_true h14) hg
    | false => exact hsame
end
end Go.Wk
end

section
/- A play's invariant is kept by each step. -/
open Go Go.AM Go.Md Go.Fl
set_option linter.unusedSectionVars false
namespace Go.Wk

theorem Inv.less {g : Ghost} {p : Play} (h : Inv g p) {l : List Msg} (hl : ∀ m ∈ l, m ∈ p.way) : Inv g { p with way := l } :=
  { h with
    msg := fun m hm => h.msg m (hl m hm)
    act := fun m hm hk => by
      obtain ⟨L, ha⟩ := h.act m (hl m hm) hk
      exact ⟨L, ha.cfg, ha.fresh, ha.old⟩ }
theorem Inv.give {N : Nat} {g : Ghost} {p : Play} {m : Msg} (h : Inv g p) (hp : PlayIs N p) (hm : MsgIs p.epoch N m) (hg : MsgG g m) (ha : m.kind = 10 → ∃ L, ActMG g p m L) : ∃ g', Inv g' (giveP p m) := by
  rcases giveP_cases hp.self (m := m) with ⟨j, hj, hd, e⟩ | ⟨_, e⟩
  · rw [e]
    have hst := hand_step h hj hp.self (hp.rep j hj) hm hp.epN hg ha
    exact ⟨_, h.step hp.self hj hst.mv hst.rep hst.out⟩
  · rw [e]; exact ⟨g, h⟩
theorem Inv.put {g : Ghost} {p : Play} (h : Inv g p) (hs : Selfs p) {j : Nat} (hj : j < p.reps.length) {r' : Rep} (hm : Moves g (repAt p j) r') (hr : RepG (g.up r') r') : Inv (g.up r') (putR p j r') := by
  have := h.step hs hj hm hr (out := []) fun m hm => by cases hm
  have e : layW (putR p j r') [] = putR p j r' := by unfold layW; rw [List.append_nil]
  rw [e] at this; exact this

/-! ### lifts and pushes -/
theorem lift_step {N : Nat} {g : Ghost} {p : Play} (h : Inv g p) (hp : PlayIs N p) {j : Nat} (hj : j < p.reps.length) : Inv g (putR p j (liftR (repAt p j) (commitP (repAt p j)))) := by
  have hR := h.rep j hj
  have hle := (commitP_is (hp.rep j hj)).2
  have hl : (liftR (repAt p j) (commitP (repAt p j))).tail.last = (repAt p j).tail.last := vmax_left hle
  have hup := up_still (g := g) (r := repAt p j) (r' := liftR (repAt p j) (commitP (repAt p j))) hR rfl rfl Iff.rfl hl
  have hmv : Moves g (repAt p j) (liftR (repAt p j) (commitP (repAt p j))) := .still hR rfl rfl Iff.rfl hl (Int.le_refl _) (.inl rfl)
  have hrg : RepG (g.up (liftR (repAt p j) (commitP (repAt p j)))) (liftR (repAt p j) (commitP (repAt p j))) := by
    rw [hup]
    refine ⟨hR.1, fun h0 => ?_⟩
    obtain ⟨C, L, hi⟩ := hR.2 h0
    exact ⟨C, L, hi.cfg, hi.chain, hi.mem, by rw [hl]; exact hi.base, by rw [hl]; exact hi.hist, hi.got, fun h2 => ⟨by rw [hl]; exact (hi.sync h2).1, (hi.sync h2).2⟩, hi.act⟩
  have := h.put hp.self hj hmv hrg
  rw [hup] at this; exact this
theorem push_step {N : Nat} {g : Ghost} {p : Play} (h : Inv g p) (hp : PlayIs N p) {j : Nat} (hj : j < p.reps.length) (e : Entry) (hl : lead p j = true) : ∃ g', Inv g' (putR p j (pushP (repAt p j) e).1) := by
  unfold pushP
  cases hv : vlt (repAt p j).tail.last e.ver with
  | false =>
    have hst : StepG g (repAt p j) (repAt p j, []) := .same (h.rep j hj)
    exact ⟨_, h.put hp.self hj hst.mv hst.rep⟩
  | true =>
    have hh := (and_true' hl).2
    unfold headP at hh
    obtain ⟨h3, hf⟩ := works_phase (and_true' hh).1
    have hmv : Moves g (repAt p j) (pushR (repAt p j) e) := .more (h.rep j hj) rfl rfl rfl hf (vle_of_lt hv)
    exact ⟨_, h.put hp.self hj hmv ((h.rep j hj).more hmv h3 rfl (vle_of_lt hv) rfl)⟩
theorem leadF_inv {f : Rep → Rep} {p : Play} {Q : Play → Prop} (h0 : Q p) (hf : ∀ j, j < p.reps.length → lead p j = true → Q (putR p j (f (repAt p j)))) : ∀ (d j : Nat), j + d ≤ p.reps.length → Q (leadF f p d j)
  | 0, _, _ => h0
  | d + 1, j, hd => by
    unfold leadF
    cases hl : lead p j with
    | true => exact hf j (by omega) hl
    | false => exact leadF_inv h0 hf d (j + 1) (by omega)

/-! ### a new epoch -/
structure TSG (g : Ghost) (up : Nat → Bool) (t : TS) : Prop where
  inv : Inv g t.p
  old : ∀ e c, g.cfg e = some c → e < t.p.epoch
  keep : ∀ m ∈ t.keep, m ∈ t.p.valid ∧ ∃ j, j < t.p.reps.length ∧ m = mem0 j ∧ up j = true ∧ (repAt t.p j).frozen = t.p.epoch
  best : ∀ b, t.best = some b → mem0 b ∈ t.keep
theorem turnAt_inv {N : Nat} {g : Ghost} {up : Nat → Bool} {t : TS} (h : TSG g up t) (hi : TSIs N t) {j : Nat} (hj : j < t.p.reps.length) : TSG g up (turnAt up t j) := by
  unfold turnAt
  cases hc : up j && decide ((repAt t.p j).self ∈ t.p.valid) with
  | false => exact h
  | true =>
    obtain ⟨c1, c2⟩ := and_true' hc
    have c2 := of_decide_eq_true c2
    have e := frzAt_eq hi.p hi.view hj
    simp only [cond_true, e]
    have hR := h.inv.rep j hj
    have hfr : (repAt t.p j).frozen ≤ t.p.epoch := (hi.p.rep j hj).fr
    have hup : g.up (frzR t.p j) = g := up_still hR rfl rfl Iff.rfl rfl
    have hmv : Moves g (repAt t.p j) (frzR t.p j) := .still hR rfl rfl Iff.rfl rfl hfr (.inr fun c hc => by have := h.old _ _ hc; have e : (frzR t.p j).frozen = t.p.epoch := rfl; omega)
    have hrg : RepG (g.up (frzR t.p j)) (frzR t.p j) := by
      rw [hup]
      refine ⟨hR.1, fun h0 => ?_⟩
      obtain ⟨C, L, hi⟩ := hR.2 h0
      exact ⟨C, L, hi.cfg, hi.chain, hi.mem, hi.base, hi.hist, hi.got, hi.sync, hi.act⟩
    have hinv := h.inv.put hi.p.self hj hmv hrg
    rw [hup] at hinv
    have hs : (repAt (putR t.p j (frzR t.p j)) j).self = mem0 j := by
      rw [repAt_put hj, if_pos rfl]; exact hi.p.self j hj
    refine ⟨hinv, h.old, fun m hm => ?_, fun b hb => ?_⟩
    · rw [putR_len]
      rcases List.mem_append.1 hm with hm | hm
      · obtain ⟨k1, i, k2, k3, k4, k5⟩ := h.keep m hm
        refine ⟨k1, i, k2, k3, k4, ?_⟩
        rw [repAt_put hj]
        split
        · rfl
        · exact k5
      · simp only [List.mem_singleton] at hm
        subst hm
        rw [hs]
        refine ⟨by rw [← hi.p.self j hj]; exact c2, j, hj, rfl, c1, ?_⟩
        rw [repAt_put hj, if_pos rfl]; rfl
    · injection hb with hb
      show mem0 b ∈ t.keep ++ [_]
      rw [hs]
      cases hbe : t.best with
      | none => rw [hbe] at hb; subst hb; simp
      | some b0 =>
        rw [hbe] at hb
        simp only at hb
        cases hn : newer (repAt (putR t.p j (frzR t.p j)) b0) (repAt (putR t.p j (frzR t.p j)) j) with
        | true => rw [hn] at hb; simp at hb; subst hb; simp
        | false => rw [hn] at hb; simp at hb; subst hb; exact List.mem_append_left _ (h.best b0 hbe)
theorem turnF_inv {N : Nat} {g : Ghost} {up : Nat → Bool} : ∀ (d j : Nat) {t : TS}, TSG g up t → TSIs N t → j + d ≤ t.p.reps.length → TSG g up (turnF up d j t)
  | 0, _, t, h, _, _ => h
  | d + 1, j, t, h, hi, hd => by
    unfold turnF
    obtain ⟨h1, h2, _⟩ := turnAt_is (up := up) hi (j := j) (by omega)
    exact turnF_inv d (j + 1) (turnAt_inv h hi (by omega)) h1 (by omega)
theorem turnE_inv {N : Nat} {g : Ghost} {up : Nat → Bool} {t : TS} (h : TSG g up t) (hi : TSIs N t) (hwe : ∀ m ∈ t.p.way, m.epoch < t.p.epoch) : ∃ g', Inv g' (turnE up t) := by
  unfold turnE
  cases hb : t.best with
  | none => exact ⟨g, h.inv⟩
  | some b =>
    have hbl := hi.best b hb
    have hsb := hi.p.self b hbl
    obtain ⟨v1, i0, v2, v3, v4, v5⟩ := h.keep _ (h.best b hb)
    have := mem0_inj v3
    subst this
    let C1 : List Member := (repAt t.p b).self :: restF up b t.p t.p.reps.length 0
    let L1 : Ver := (repAt t.p b).tail.last
    let g' : Ghost := { g with cfg := fun e => if e = t.p.epoch then some (C1, L1) else g.cfg e }
    have hcm : ∀ m, m ∈ C1 ↔ ∃ i, i < t.p.reps.length ∧ m = mem0 i ∧ (i = b ∨ up i = true) := by
      intro m
      show m ∈ (repAt t.p b).self :: restF up b t.p t.p.reps.length 0 ↔ _
      rw [List.mem_cons, restF_mem hi.p.self _ _ (by omega), hsb]
      constructor
      · rintro (e | ⟨i, _, i2, i3, _, i5⟩)
        · exact ⟨b, hbl, e, .inl rfl⟩
        · exact ⟨i, by omega, i5, .inr i3⟩
      · rintro ⟨i, i1, i2, i3⟩
        by_cases e : i = b
        · subst e; exact .inl i2
        · rcases i3 with i3 | i3
          · exact absurd i3 e
          · exact .inr ⟨i, Nat.zero_le _, by omega, i3, e, i2⟩
    have hcfg : ∀ {e c}, g.cfg e = some c → g'.cfg e = some c := by
      intro e c hc
      show (if e = t.p.epoch then some (C1, L1) else g.cfg e) = _
      have := h.old e c hc
      rw [if_neg (by omega)]; exact hc
    have hcfg' : ∀ {e C L}, g'.cfg e = some (C, L) → (e = t.p.epoch ∧ C = C1 ∧ L = L1) ∨ (e < t.p.epoch ∧ g.cfg e = some (C, L)) := by
      intro e C L hc
      by_cases he : e = t.p.epoch
      · have : (if e = t.p.epoch then some (C1, L1) else g.cfg e) = some (C, L) := hc
        rw [if_pos he] at this
        injection this with this
        injection this with a1 a2
        exact .inl ⟨he, a1.symm, a2.symm⟩
      · have : (if e = t.p.epoch then some (C1, L1) else g.cfg e) = some (C, L) := hc
        rw [if_neg he] at this
        exact .inr ⟨h.old _ _ this, this⟩
    have hrepb := h.inv.rep b hbl
    have hepb := hi.view b hbl
    refine ⟨g', ⟨fun e c hc => ?_, fun e C L hc => ?_, fun i hil => ?_, fun x e v hv => ?_, fun m hm => ?_, fun m hm hk => ?_, fun e C L e' C' L' hc hc' hlt => ?_, fun m hm => ?_, fun e C L he hc m hm => ?_, fun h0 m hm => h.inv.valH h0 m (h.keep m hm).1, ?_⟩⟩
    · rcases hcfg' (C := c.1) (L := c.2) hc with ⟨a, _, _⟩ | ⟨_, a⟩
      · have := hi.p.ep; exact ⟨by omega, by show e ≤ t.p.epoch; omega⟩
      · exact h.inv.ep _ _ a
    · rcases hcfg' hc with ⟨_, a, _⟩ | ⟨_, a⟩
      · subst a
        exact ⟨by simp [C1], fun m hm => by obtain ⟨i, i1, i2, _⟩ := (hcm m).1 hm; exact ⟨i, i1, i2⟩⟩
      · exact h.inv.mem _ _ _ a
    · obtain ⟨r1, r2⟩ := h.inv.rep i hil
      refine ⟨r1, fun h0 => ?_⟩
      obtain ⟨C, L, hI⟩ := r2 h0
      exact ⟨C, L, hcfg hI.cfg, hI.chain, hI.mem, hI.base, hI.hist, hI.got, hI.sync, hI.act⟩
    · obtain ⟨h1, C, L, h2, h3⟩ := h.inv.hist x e v hv
      exact ⟨h1, C, L, hcfg h2, h3⟩
    · rcases List.mem_append.1 hm with hm | hm
      · have hg := h.inv.msg m hm
        exact ⟨hg.no8, fun e => hcfg (hg.inst e), hg.insd, fun e => by obtain ⟨C, L, h1, h2⟩ := hg.ackd e; exact ⟨C, L, hcfg h1, h2⟩⟩
      · simp only [List.mem_singleton] at hm
        subst hm
        exact ⟨by simp [actMsg], fun e => by simp [actMsg] at e, fun e => by simp [actMsg] at e, fun e => by simp [actMsg] at e⟩
    · rcases List.mem_append.1 hm with hm | hm
      · obtain ⟨L, ha⟩ := h.inv.act m hm hk
        exact ⟨L, hcfg ha.cfg, ha.fresh, ha.old⟩
      · simp only [List.mem_singleton] at hm
        subst hm
        refine ⟨L1, if_pos rfl, fun e => by simp [actMsg] at e, fun _ i hil hf _ _ _ => ?_⟩
        have : (repAt t.p b).self = mem0 i := of_decide_eq_true (show decide ((repAt t.p b).self = mem0 i) = true from hf)
        rw [hsb] at this
        have := mem0_inj this
        subst this; rfl
    · rcases hcfg' hc' with ⟨a, rfl, rfl⟩ | ⟨a, ac'⟩
      · -- the new epoch
        rcases hcfg' hc with ⟨b1, _⟩ | ⟨b1, bc⟩
        · omega
        have hfz : e < (repAt t.p b).frozen := by rw [v5]; exact b1
        rcases Int.lt_trichotomy e (repAt t.p b).view.epoch with hlt' | heq | hgt
        · have hph : (repAt t.p b).view.phase ≠ 0 := fun h0 => by
            have h1 := hrepb.1 h0
            have := (h.inv.ep _ _ bc).1
            omega
          obtain ⟨Cu, Lu, hI⟩ := hrepb.2 hph
          obtain ⟨x, x1, x2, x3, x4⟩ := h.inv.bar _ _ _ _ _ _ bc hI.cfg hlt'
          exact ⟨x, x1, x2, x3, fun v hv => (x4 v hv).trans hI.base⟩
        · have hph : (repAt t.p b).view.phase ≠ 0 := fun h0 => by
            have h1 := hrepb.1 h0
            have := (h.inv.ep _ _ bc).1
            omega
          obtain ⟨Cu, Lu, hI⟩ := hrepb.2 hph
          have hcu := hI.cfg
          rw [← heq, bc] at hcu
          injection hcu with hcu
          injection hcu with hcu _
          refine ⟨b, hbl, by rw [hcu, ← hsb]; exact hI.mem, .inl hfz, fun v hv => ?_⟩
          have := hI.hist
          rw [hsb, ← heq, hv] at this
          injection this with this
          rw [this]; exact .refl _
        · refine ⟨b, hbl, ?_, .inl hfz, fun v hv => ?_⟩
          · by_cases he0 : g.e0 ≤ e
            · exact h.inv.valC e C L he0 bc _ v1
            · have h1 := (h.inv.ep _ _ bc).1
              have hn := h.inv.valH (by omega) _ v1
              cases hv : g.H (mem0 b) g.e0 with
              | none => exact absurd hv hn
              | some v =>
                have := (h.inv.phase hbl hv).2
                omega
          · have := (h.inv.phase hbl hv).2
            omega
      · rcases hcfg' hc with ⟨b1, _⟩ | ⟨b1, bc⟩
        · omega
        exact h.inv.bar _ _ _ _ _ _ bc ac' hlt
    · obtain ⟨_, i, i1, i2, _⟩ := h.keep m hm
      exact ⟨i, i1, i2⟩
    · obtain ⟨m1, i, i1, i2, i3, _⟩ := h.keep m hm
      rcases hcfg' hc with ⟨a, rfl, rfl⟩ | ⟨a, ac⟩
      · exact (hcm m).2 ⟨i, i1, i2, .inr i3⟩
      · exact h.inv.valC e C L he ac m m1
    · rcases h.inv.safe with e | ⟨e, C, L, h1, h2⟩
      · exact .inl e
      · exact .inr ⟨e, C, L, hcfg h1, h2⟩
theorem turn_inv {N : Nat} {g : Ghost} {up : Nat → Bool} {p : Play} (h : Inv g p) (hp : PlayIs N p) : ∃ g', Inv g' (turnP up p) := by
  have h0 : TSG g up ⟨{ p with epoch := p.epoch + 1 }, none, []⟩ :=
    ⟨{ h with
        ep := fun e c hc => by have := h.ep e c hc; exact ⟨this.1, by show e ≤ p.epoch + 1; omega⟩
        act := fun m hm hk => by obtain ⟨L, ha⟩ := h.act m hm hk; exact ⟨L, ha.cfg, ha.fresh, ha.old⟩ },
      fun e c hc => by have := (h.ep e c hc).2; show e < p.epoch + 1; omega, (fun m hm => by cases hm), (fun b hb => by cases hb)⟩
  have h1 := turnF_inv p.reps.length 0 h0 (turn0_is hp) (by simp)
  obtain ⟨h2, h3, h4, h5, _⟩ := turnF_is (up := up) p.reps.length 0 (turn0_is hp) (by simp)
  refine turnE_inv h1 h2 fun m hm => ?_
  rw [h5] at hm
  rw [h4]
  have := (hp.way m hm).ep
  show m.epoch < p.epoch + 1; omega

/-! ### notes -/
theorem noteAt_inv {N : Nat} {g : Ghost} {p : Play} (h : Inv g p) (hp : PlayIs N p) {j : Nat} (hj : j < p.reps.length) : ∃ g', Inv g' (noteAt p j) := by
  -- who may take over
  have h1 : ∃ g', Inv g' { p with valid := bif decide ((repAt p j).view.epoch = p.epoch) && headP (repAt p j) then (repAt p j).view.chain else p.valid } := by
    cases hl : decide ((repAt p j).view.epoch = p.epoch) && headP (repAt p j) with
    | false => exact ⟨g, { h with act := fun m hm hk => by obtain ⟨L, ha⟩ := h.act m hm hk; exact ⟨L, ha.cfg, ha.fresh, ha.old⟩ }⟩
    | true =>
      obtain ⟨l1, l2⟩ := and_true' hl
      have l1 := of_decide_eq_true l1
      obtain ⟨C, L, hI, hall⟩ := h.com hj l2
      refine ⟨{ g with e0 := p.epoch }, { h with
        rep := fun i hi => ?_, msg := fun m hm => ?_, act := fun m hm hk => ?_, valM := fun m hm => ?_, valC := fun e C' L' he hc m hm => ?_, valH := fun _ m hm => ?_ }⟩
      · obtain ⟨r1, r2⟩ := h.rep i hi
        refine ⟨r1, fun h0 => ?_⟩
        obtain ⟨C, L, hI⟩ := r2 h0
        exact ⟨C, L, hI.cfg, hI.chain, hI.mem, hI.base, hI.hist, hI.got, hI.sync, hI.act⟩
      · have hg := h.msg m hm
        exact ⟨hg.no8, hg.inst, hg.insd, hg.ackd⟩
      · obtain ⟨L, ha⟩ := h.act m hm hk
        exact ⟨L, ha.cfg, ha.fresh, ha.old⟩
      · simp only [cond_true] at hm
        rw [hI.chain] at hm
        exact (h.mem _ _ _ hI.cfg).2 m hm
      · simp only [cond_true] at hm
        have he : p.epoch ≤ e := he
        have := (h.ep e _ hc).2
        have : e = (repAt p j).view.epoch := by omega
        rw [this] at hc
        have hc : g.cfg (repAt p j).view.epoch = some (C', L') := hc
        rw [hI.cfg] at hc
        injection hc with hc
        injection hc with hc _
        rw [← hc, ← hI.chain]; exact hm
      · simp only [cond_true] at hm
        rw [hI.chain] at hm
        obtain ⟨v, hv, _⟩ := hall m hm
        show g.H m p.epoch ≠ none
        rw [← l1, hv]; exact fun e => by cases e
  obtain ⟨g', h1⟩ := h1
  refine ⟨g', { h1 with act := fun m hm hk => by obtain ⟨L, ha⟩ := h1.act m hm hk; exact ⟨L, ha.cfg, ha.fresh, ha.old⟩, safe := ?_ }⟩
  show vmax p.safe (commitP (repAt p j)) = ⟨0, 0⟩ ∨ _
  rcases vmax_or p.safe (commitP (repAt p j)) with e | e
  · show vmax p.safe (commitP (repAt p j)) = ⟨0, 0⟩ ∨ ∃ e C L, g'.cfg e = some (C, L) ∧ ∀ y ∈ C, ∃ v, g'.H y e = some v ∧ vle (vmax p.safe (commitP (repAt p j))) v
    rw [e]; exact h1.safe
  · show vmax p.safe (commitP (repAt p j)) = ⟨0, 0⟩ ∨ ∃ e C L, g'.cfg e = some (C, L) ∧ ∀ y ∈ C, ∃ v, g'.H y e = some v ∧ vle (vmax p.safe (commitP (repAt p j))) v
    rw [e]
    cases hh : headP (repAt p j) with
    | false => left; unfold commitP; rw [hh]; rfl
    | true =>
      obtain ⟨C, L, hI, hall⟩ := h1.com (j := j) hj hh
      exact .inr ⟨_, C, L, hI.cfg, hall⟩
theorem noteF_inv {N : Nat} : ∀ (d j : Nat) {g : Ghost} {p : Play}, Inv g p → PlayIs N p → j + d ≤ p.reps.length → ∃ g', Inv g' (noteF d j p)
  | 0, _, g, p, h, _, _ => ⟨g, h⟩
  | d + 1, j, g, p, h, hp, hd => by
    obtain ⟨g', h1⟩ := noteAt_inv h hp (j := j) (by omega)
    obtain ⟨h2, _, h3, _⟩ := note_is 1 j hp (by omega)
    unfold noteF
    exact noteF_inv d (j + 1) h1 h2 (by show j + 1 + d ≤ p.reps.length; omega)
theorem note_inv {N : Nat} {g : Ghost} {p : Play} (h : Inv g p) (hp : PlayIs N p) : ∃ g', Inv g' (noteP p) := noteF_inv _ _ h hp (by omega)

/-! ### steps -/
theorem do_inv {N : Nat} {g : Ghost} {up : Nat → Bool} {k i : Nat} {p : Play} (h : Inv g p) (hp : PlayIs N p) : ∃ g', Inv g' (doP up k i p) := by
  unfold doP
  cases decide (k ≤ 2) with
  | true =>
    simp only [cond_true]
    cases hn : decide (p.way.length = 0) with
    | true => exact ⟨g, h⟩
    | false =>
      have hn := of_decide_eq_false hn
      have hi : i % p.way.length < p.way.length := Nat.mod_lt _ (by omega)
      have hm := mem_getD hi (z := (default : Msg))
      have he := h.less (l := p.way.eraseIdx (i % p.way.length)) fun m hm => List.mem_of_mem_eraseIdx hm
      have hpe := hp.less (l := p.way.eraseIdx (i % p.way.length)) fun m hm => List.mem_of_mem_eraseIdx hm
      simp only [cond_false]
      cases decide (k = 2) with
      | true =>
        refine ⟨g, ?_⟩
        have hmem : ∀ m ∈ p.way ++ [p.way.getD (i % p.way.length) default], m ∈ p.way := fun m hx => by
          rcases List.mem_append.1 hx with hx | hx
          · exact hx
          · simp only [List.mem_singleton] at hx; subst hx; exact hm
        exact h.less hmem
      | false =>
        simp only [cond_false]
        cases decide (k = 1) with
        | true => exact ⟨g, he⟩
        | false =>
          refine he.give hpe (hp.way _ hm) (h.msg _ hm) fun hk => ?_
          obtain ⟨L, ha⟩ := h.act _ hm hk
          exact ⟨L, ha.cfg, ha.fresh, ha.old⟩
  | false =>
    simp only [cond_false]
    have hi : i % p.reps.length < p.reps.length := Nat.mod_lt _ hp.lo
    cases decide (k = 4) with
    | true =>
      have hR := h.rep _ hi
      have hr := hp.rep _ hi
      have hst : StepG g (repAt p (i % p.reps.length)) (repAt p (i % p.reps.length), []) := .same hR
      have := h.step hp.self hi hst.mv hst.rep (out := againP (repAt p (i % p.reps.length))) (by
        rw [up_same hR]; exact again_msg hR hr.chain hr.gle)
      rw [up_same hR] at this
      have e : putR p (i % p.reps.length) (repAt p (i % p.reps.length)) = p := by
        unfold putR repAt
        rw [List.getD, List.getElem?_eq_getElem hi]
        simp
      rw [e] at this
      exact ⟨g, this⟩
    | false =>
      simp only [cond_false]
      cases decide (k = 5) with
      | true => exact turn_inv h hp
      | false =>
        simp only [cond_false]
        cases decide (k = 6) with
        | true => exact leadF_inv (Q := fun p => ∃ g', Inv g' p) ⟨g, h⟩ (fun j hj _ => ⟨g, lift_step h hp hj⟩) p.reps.length 0 (by omega)
        | false => exact leadF_inv (Q := fun p => ∃ g', Inv g' p) ⟨g, h⟩ (fun j hj hl => push_step h hp hj _ hl) p.reps.length 0 (by omega)
theorem begin_inv {n : Nat} (h1 : 1 ≤ n) : ∃ g, Inv g (beginP n) := by
  have hrep : ∀ j, j < n → repAt (beginP n) j = rep0 (mem0 j) := fun j hj => by
    unfold repAt beginP
    simp [List.getD, List.getElem?_map, List.getElem?_range hj]
  have hlen : (beginP n).reps.length = n := by simp [beginP]
  let C : List Member := (List.range n).map mem0
  let g : Ghost := ⟨fun e => if e = 1 then some (C, (tail0 1).last) else none, fun _ _ => none, 0⟩
  have hcfg : ∀ {e c}, g.cfg e = some c → e = 1 ∧ c = (C, (tail0 1).last) := by
    intro e c hc
    have hc : (if e = 1 then some (C, (tail0 1).last) else none) = some c := hc
    split at hc
    · rename_i he; injection hc with hc; exact ⟨he, hc.symm⟩
    · cases hc
  have hall : ∀ m ∈ C, ∃ j, j < (beginP n).reps.length ∧ m = mem0 j := fun m hm => by
    obtain ⟨i, hi, rfl⟩ := List.mem_map.1 hm
    exact ⟨i, by rw [hlen]; exact List.mem_range.1 hi, rfl⟩
  refine ⟨g, ⟨fun e c hc => ?_, fun e C' L' hc => ?_, fun j hj => ?_, (fun x e v hv => by cases hv), fun m hm => ?_, fun m hm hk => ?_, fun e C L e' C' L' hc hc' hlt => ?_, fun m hm => ?_, fun e C' L' _ hc m hm => ?_, fun h0 => ?_, .inl rfl⟩⟩
  · rw [(hcfg hc).1]; exact ⟨by decide, by show (1 : Int) ≤ 1; decide⟩
  · obtain ⟨_, e⟩ := hcfg hc
    injection e with e _
    subst e
    refine ⟨fun h => ?_, hall⟩
    have := congrArg List.length h
    simp [C] at this; omega
  · rw [hlen] at hj; rw [hrep j hj]
    exact ⟨fun _ => rfl, fun h0 => absurd rfl h0⟩
  · simp only [beginP, List.mem_singleton] at hm
    subst hm
    exact ⟨by simp [actMsg], fun e => by simp [actMsg] at e, fun e => by simp [actMsg] at e, fun e => by simp [actMsg] at e⟩
  · simp only [beginP, List.mem_singleton] at hm
    subst hm
    exact ⟨(tail0 1).last, by show (if (1 : Int) = 1 then some (C, (tail0 1).last) else none) = _; rw [if_pos rfl]; rfl, fun _ => rfl, fun hf => by simp [actMsg] at hf⟩
  · have h1 := (hcfg hc).1
    have h2 := (hcfg hc').1
    omega
  · exact hall m (List.mem_of_mem_take hm)
  · obtain ⟨_, e⟩ := hcfg hc
    injection e with e _
    subst e
    exact List.mem_of_mem_take hm
  · exact absurd h0 (by show ¬ (0 : Int) < 0; decide)
end Go.Wk
end

section
/- What a play of a chain keeps: the tails of one epoch say the same. -/
open Go Go.AM Go.Md Go.Fl
set_option linter.unusedSectionVars false
namespace Go.Wk

/-- what was written in each epoch, under each number -/
abbrev Book := Int → Nat → Option Entry
def LogA (W : Book) (e : Int) (l : List Entry) : Prop := ∀ x ∈ l, W e (nu x.ver) = some x
def Top (W : Book) (e : Int) (v : Ver) : Prop := ∀ n x, W e n = some x → n ≤ nu v
structure RepA (W : Book) (r : Rep) : Prop where
  none : r.view.phase = 0 → r.tail.log = []
  log : r.view.phase ≠ 0 → LogA W r.view.epoch r.tail.log
  num : ∀ x ∈ r.tail.log, nu x.ver ≤ nu r.tail.last
  top : r.view.phase ≠ 0 → isFirst r.view.chain r.self = true → Top W r.view.epoch r.tail.last
structure MsgA (W : Book) (m : Msg) : Prop where
  fwd : m.kind = 13 → LogA W m.epoch m.entries
  ins : m.kind = 11 → LogA W m.epoch m.image.log ∧ ∀ x ∈ m.image.log, nu x.ver ≤ nu m.image.last
structure ActA (W : Book) (p : Play) (m : Msg) : Prop where
  fresh : m.fresh = true → ∀ j, j < p.reps.length → isFirst m.chain (mem0 j) = true → (repAt p j).view.epoch < m.epoch → ∀ n, W m.epoch n = none
  old : m.fresh = false → ∀ j, j < p.reps.length → isFirst m.chain (mem0 j) = true → (repAt p j).view.phase ≠ 0 → (repAt p j).view.epoch < m.epoch → (repAt p j).frozen = m.epoch →
    LogA W m.epoch (repAt p j).tail.log ∧ Top W m.epoch (repAt p j).tail.last
structure AInv (W : Book) (p : Play) : Prop where
  rep : ∀ j, j < p.reps.length → RepA W (repAt p j)
  msg : ∀ m ∈ p.way, MsgA W m
  act : ∀ m ∈ p.way, m.kind = 10 → ActA W p m
theorem AInv.agree {W : Book} {p : Play} (h : AInv W p) {i j : Nat} (hi : i < p.reps.length) (hj : j < p.reps.length) (he : (repAt p i).view.epoch = (repAt p j).view.epoch) (pi : (repAt p i).view.phase = 3) (pj : (repAt p j).view.phase = 3)
    {x y : Entry} (hx : x ∈ (repAt p i).tail.log) (hy : y ∈ (repAt p j).tail.log) (hn : nu x.ver = nu y.ver) : x = y := by
  have h1 := (h.rep i hi).log (by rw [pi]; decide) x hx
  have h2 := (h.rep j hj).log (by rw [pj]; decide) y hy
  rw [he, hn, h2] at h1
  exact (Option.some.inj h1).symm

/-- what a step of a member may change -/
structure MovA (p : Play) (r r' : Rep) : Prop where
  ep : r.view.epoch ≤ r'.view.epoch
  act : (r'.frozen = r.frozen ∧ r'.tail = r.tail ∧ r'.view.epoch = r.view.epoch ∧ (r'.view.phase ≠ 0 → r.view.phase ≠ 0)) ∨ r'.frozen ≤ r'.view.epoch ∨ ∀ m ∈ p.way, m.kind = 10 → m.epoch ≠ r'.frozen
theorem AInv.step {W : Book} {p : Play} (h : AInv W p) {j : Nat} (hj : j < p.reps.length) {r' : Rep} {out : List Msg} (hm : MovA p (repAt p j) r') (hr : RepA W r') (ho : ∀ m ∈ out, MsgA W m ∧ m.kind ≠ 10) : AInv W (layW (putR p j r') out) := by
  have hlen : (layW (putR p j r') out).reps.length = p.reps.length := putR_len p j r'
  have hat : ∀ i, repAt (layW (putR p j r') out) i = if i = j then r' else repAt p i := fun i => repAt_put hj i
  refine ⟨fun i hi => ?_, fun m hmw => ?_, fun m hmw hk => ?_⟩
  · rw [hlen] at hi
    rw [hat]
    split
    · exact hr
    · exact h.rep i hi
  · rcases List.mem_append.1 hmw with hmw | hmw
    · exact h.msg m hmw
    · exact (ho m hmw).1
  · rcases List.mem_append.1 hmw with hmw | hmw
    · have ha := h.act m hmw hk
      refine ⟨fun hf i hi hfi => ?_, fun hf i hi hfi => ?_⟩
      · rw [hlen] at hi
        rw [hat]
        split
        · rename_i e; subst e
          intro he
          exact ha.fresh hf i hj hfi (by have := hm.ep; omega)
        · exact ha.fresh hf i hi hfi
      · rw [hlen] at hi
        rw [hat]
        split
        · rename_i e; subst e
          intro hp he hfr
          rcases hm.act with ⟨a1, a2, a3, a4⟩ | a | a
          · rw [a2]; exact ha.old hf i hj hfi (a4 hp) (by omega) (by omega)
          · omega
          · exact absurd hfr.symm (a m hmw hk)
        · exact ha.old hf i hi hfi
    · exact absurd hk (ho m hmw).2

theorem plain_kind {W : Book} {m : Msg} (h1 : m.kind ≠ 13) (h2 : m.kind ≠ 11) : MsgA W m := ⟨fun e => absurd e h1, fun e => absurd e h2⟩
theorem acks_A {W : Book} (r : Rep) : ∀ m ∈ acksP r, MsgA W m ∧ m.kind ≠ 10 := by
  intro m hm
  unfold acksP at hm
  split at hm
  · cases hm
  · simp only [List.mem_singleton] at hm
    subst hm
    exact ⟨plain_kind (by simp [toM]) (by simp [toM]), by simp [toM]⟩
theorem insts_A {W : Book} {r : Rep} (h : RepA W r) (hp : r.view.phase ≠ 0) : ∀ (l : List Member) (s : List Bool), ∀ m ∈ instsP r l s, MsgA W m ∧ m.kind ≠ 10
  | [], _, m, hm => by simp [instsP] at hm
  | _ :: _, [], m, hm => by simp [instsP] at hm
  | a :: l, s :: ss, m, hm => by
    have ih := insts_A h hp l ss
    unfold instsP at hm
    cases s with
    | true => exact ih m hm
    | false =>
      rcases List.mem_cons.1 hm with rfl | hm
      · exact ⟨⟨fun e => by simp [instM, toM] at e, fun _ => ⟨h.log hp, h.num⟩⟩, by simp [instM, toM]⟩
      · exact ih m hm
theorem again_A {W : Book} {r : Rep} (h : RepA W r) : ∀ m ∈ againP r, MsgA W m ∧ m.kind ≠ 10 := by
  intro m hm
  unfold againP at hm
  cases hs : syncsP r with
  | true => rw [hs] at hm; exact insts_A h (by rw [(syncs_phase hs).1]; decide) _ _ m hm
  | false =>
    rw [hs] at hm
    cases hw : worksP r with
    | false => rw [hw] at hm; cases hm
    | true =>
      rw [hw] at hm
      have hp := (works_phase hw).1
      rcases List.mem_append.1 hm with hm | hm
      · unfold forwsP at hm
        split at hm
        · cases hm
        · simp only [List.mem_singleton] at hm
          subst hm
          exact ⟨⟨fun _ x hx => h.log (by rw [hp]; decide) x (List.mem_filter.1 hx).1, fun e => by simp [forwM, toM] at e⟩, by simp [forwM, toM]⟩
      · exact acks_A r m hm
/-- entries that are taken up -/
theorem takeP_A {e : Int} {W : Book} : ∀ {l : List Entry} {r : Rep}, LogA W e l → LogA W e r.tail.log → (∀ x ∈ r.tail.log, nu x.ver ≤ nu r.tail.last) → LogA W e (takeP r l).tail.log ∧ ∀ x ∈ (takeP r l).tail.log, nu x.ver ≤ nu (takeP r l).tail.last
  | [], r, _, h, hn => ⟨h, hn⟩
  | a :: l, r, hl, h, hn => by
    have hl' : LogA W e l := fun x hx => hl x (by simp [hx])
    unfold takeP
    cases hd : decide (nu a.ver = nu r.tail.last + 1) with
    | false => exact takeP_A hl' h hn
    | true =>
      have hd := of_decide_eq_true hd
      simp only [cond_true]
      unfold pushP
      cases vlt r.tail.last a.ver with
      | false => exact takeP_A hl' h hn
      | true =>
        refine takeP_A (r := pushR r a) hl' (fun x hx => ?_) fun x hx => ?_
        · rcases List.mem_append.1 hx with hx | hx
          · exact h x hx
          · simp only [List.mem_singleton] at hx; subst hx; exact hl x (by simp)
        · show nu x.ver ≤ nu a.ver
          rcases List.mem_append.1 hx with hx | hx
          · have := hn x hx; omega
          · simp only [List.mem_singleton] at hx; subst hx; omega

structure StepA (W : Book) (p : Play) (r : Rep) (o : Rep × List Msg) : Prop where
  mv : MovA p r o.1
  rep : RepA W o.1
  out : ∀ m ∈ o.2, MsgA W m ∧ m.kind ≠ 10
theorem StepA.same {W : Book} {p : Play} {r : Rep} (h : RepA W r) : StepA W p r (r, []) := ⟨⟨Int.le_refl _, .inl ⟨rfl, rfl, rfl, id⟩⟩, h, fun m hm => by cases hm⟩
section
variable {W : Book} {p : Play} (h : AInv W p) {j : Nat} (hj : j < p.reps.length) (hs : Selfs p) {E : Int} {N : Nat} (hr : RepIs E N (repAt p j)) {m : Msg} (hm : MsgIs E N m)
include h hj hs hr hm
theorem hand_A (hg : m.kind ≠ 8) (hma : MsgA W m) (ha : m.kind = 10 → ActA W p m) : StepA W p (repAt p j) (handP (repAt p j) m) := by
  have hR := h.rep j hj
  have hsame : StepA W p (repAt p j) (repAt p j, []) := .same hR
  unfold handP
  cases toMe (repAt p j) m with
  | false => exact hsame
  | true =>
    simp only [cond_true]
    unfold handK
    rw [decide_eq_false hg, cond_false]
    cases h10 : decide (m.kind = 10) with
    | true =>
      have h10 := of_decide_eq_true h10
      simp only [cond_true]
      unfold actP
      cases hG : actG (repAt p j) m with
      | false => exact hsame
      | true =>
        simp only [cond_true]
        unfold actG at hG
        obtain ⟨g1, g2⟩ := and_true' hG
        obtain ⟨g2, g3⟩ := and_true' g2
        obtain ⟨a1, a2⟩ := above_iff.1 g1
        have ha := ha h10
        have hph : (actR (repAt p j) m).view.phase ≠ 0 := by
          show (bif decide (m.chain.length = 1) then (3 : Int) else 2) ≠ 0
          cases decide (m.chain.length = 1) <;> simp
        have hrA : RepA W (actR (repAt p j) m) := by
          cases hf : m.fresh with
          | true =>
            have ht : (actR (repAt p j) m).tail = tail0 m.epoch := by show actT (repAt p j) m = _; unfold actT; rw [hf]; rfl
            refine ⟨fun h0 => absurd h0 hph, fun _ x hx => ?_, fun x hx => ?_, fun _ _ n x hx => ?_⟩
            · rw [ht] at hx; cases hx
            · rw [ht] at hx; cases hx
            · have := ha.fresh hf j hj (by rw [← hs j hj]; exact g2) a1 n
              have hx : W m.epoch n = some x := hx
              rw [this] at hx; cases hx
          | false =>
            have ht : (actR (repAt p j) m).tail = (repAt p j).tail := by show actT (repAt p j) m = _; unfold actT; rw [hf]; rfl
            rw [hf, Bool.false_or] at g3
            obtain ⟨b1, b2⟩ := and_true' g3
            obtain ⟨o1, o2⟩ := ha.old hf j hj (by rw [← hs j hj]; exact g2) (by simpa using b1) a1 (of_decide_eq_true b2).symm
            exact ⟨fun h0 => absurd h0 hph, fun _ => by rw [ht]; exact o1, by rw [ht]; exact hR.num, fun _ _ => by rw [ht]; exact o2⟩
        exact ⟨⟨by show (repAt p j).view.epoch ≤ m.epoch; omega, .inr (.inl a2)⟩, hrA, again_A hrA⟩
    | false =>
    simp only [cond_false]
    cases h11 : decide (m.kind = 11) with
    | true =>
      have h11 := of_decide_eq_true h11
      simp only [cond_true]
      unfold insP
      cases hd : decide (0 < idx m.chain (repAt p j).self) with
      | false => exact hsame
      | true =>
        have hd := of_decide_eq_true hd
        simp only [cond_true]
        have key : MovA p (repAt p j) (insR (repAt p j) m) ∧ RepA W (insR (repAt p j) m) := by
          unfold insR
          cases ha : aboveP (repAt p j) m with
          | false => exact ⟨hsame.mv, hR⟩
          | true =>
            obtain ⟨a1, a2⟩ := above_iff.1 ha
            obtain ⟨i1, i2⟩ := hma.ins h11
            refine ⟨⟨by show (repAt p j).view.epoch ≤ m.epoch; omega, .inr (.inl a2)⟩, ⟨fun h0 => by simp at h0, fun _ => i1, i2, fun _ hf => ?_⟩⟩
            have := isFirst_idx hf
            simp only [cond_true] at this; omega
        refine ⟨key.1, key.2, fun x hx => ?_⟩
        cases hc : liveP (insR (repAt p j) m) && decide (m.epoch = (insR (repAt p j) m).view.epoch) with
        | false => rw [hc] at hx; cases hx
        | true =>
          rw [hc] at hx
          simp only [cond_true, List.mem_singleton] at hx
          subst hx
          exact ⟨plain_kind (by simp [toM]) (by simp [toM]), by simp [toM]⟩
    | false =>
    simp only [cond_false]
    cases h12 : decide (m.kind = 12) with
    | true =>
      simp only [cond_true]
      unfold indP
      cases hd : syncsP (repAt p j) && (decide (m.epoch = (repAt p j).view.epoch) && decide (0 ≤ idx (repAt p j).view.chain (who m))) with
      | false => exact hsame
      | true =>
        have hp := (syncs_phase (and_true' hd).1).1
        have hp0 : (repAt p j).view.phase ≠ 0 := by rw [hp]; decide
        simp only [cond_true]
        unfold indR
        cases (indS (repAt p j) m).all id with
        | false => exact ⟨⟨Int.le_refl _, .inl ⟨rfl, rfl, rfl, id⟩⟩, ⟨hR.none, hR.log, hR.num, hR.top⟩, fun m hm => by cases hm⟩
        | true => exact ⟨⟨Int.le_refl _, .inl ⟨rfl, rfl, rfl, fun _ => hp0⟩⟩, ⟨fun h0 => by simp at h0, fun _ => hR.log hp0, hR.num, fun _ hf => hR.top hp0 hf⟩, fun m hm => by cases hm⟩
    | false =>
    simp only [cond_false]
    cases h13 : decide (m.kind = 13) with
    | true =>
      have h13 := of_decide_eq_true h13
      simp only [cond_true]
      unfold fwdP
      cases hd : nextG (repAt p j) m (-1) with
      | false => exact hsame
      | true =>
        unfold nextG at hd
        obtain ⟨d1, d2⟩ := and_true' hd
        obtain ⟨d2, d3⟩ := and_true' d2
        have d2 := of_decide_eq_true d2
        have d3 := of_decide_eq_true d3
        obtain ⟨hp, hf⟩ := works_phase d1
        have hp0 : (repAt p j).view.phase ≠ 0 := by rw [hp]; decide
        have hk := fwdR_self (repAt p j) m
        obtain ⟨t1, t2⟩ := takeP_A (e := (repAt p j).view.epoch) (W := W) (l := m.entries) (r := repAt p j) (by rw [← d2]; exact hma.fwd h13) (hR.log hp0) hR.num
        have ti := takeP_is hr hm.ent
        have hlog : LogA W (repAt p j).view.epoch (fwdR (repAt p j) m).tail.log ∧ ∀ x ∈ (fwdR (repAt p j) m).tail.log, nu x.ver ≤ nu (fwdR (repAt p j) m).tail.last := by
          unfold fwdR
          cases hv : vlt (takeP (repAt p j) m.entries).tail.last m.floor with
          | true => exact ⟨t1, t2⟩
          | false =>
            refine ⟨fun x hx => t1 x (List.mem_filter.1 hx).1, fun x hx => ?_⟩
            show nu x.ver ≤ nu (vmax (takeP (repAt p j) m.entries).tail.last m.floor)
            rw [vmax_left hv]; exact t2 x (List.mem_filter.1 hx).1
        have hrA : RepA W (fwdR (repAt p j) m) := by
          refine ⟨fun h0 => by rw [hk.view, hp] at h0; simp at h0, fun _ => by rw [hk.view]; exact hlog.1, hlog.2, fun _ hfi => ?_⟩
          rw [hk.view, hk.self] at hfi
          have := isFirst_idx hfi
          unfold sideP at d3
          rw [this] at d3
          simp at d3
        exact ⟨⟨by simp only [cond_true, hk.view]; exact Int.le_refl _, .inr (.inl (by simp only [cond_true, hk.view, hk.frozen]; exact hf))⟩, hrA, again_A hrA⟩
    | false =>
    simp only [cond_false]
    cases h14 : decide (m.kind = 14) with
    | true =>
      simp only [cond_true]
      unfold ackP
      cases hd : nextG (repAt p j) m 1 with
      | false => exact hsame
      | true =>
        have hkeep : (ackR (repAt p j) m).self = (repAt p j).self ∧ (ackR (repAt p j) m).view = (repAt p j).view ∧ (ackR (repAt p j) m).tail = (repAt p j).tail ∧ (ackR (repAt p j) m).frozen = (repAt p j).frozen := by
          unfold ackR; cases vlt (repAt p j).tail.last m.ver <;> exact ⟨rfl, rfl, rfl, rfl⟩
        obtain ⟨e1, e2, e3, e4⟩ := hkeep
        simp only [cond_true]
        exact ⟨⟨by simp only [e2]; exact Int.le_refl _, .inl ⟨e4, e3, by simp only [e2], by simp only [e2]; exact id⟩⟩, ⟨by rw [e2, e3]; exact hR.none, by rw [e2, e3]; exact hR.log, by rw [e3]; exact hR.num, by rw [e1, e2, e3]; exact hR.top⟩, acks_A _⟩
    | false => exact hsame
end

theorem AInv.less {W : Book} {p : Play} (h : AInv W p) {l : List Msg} (hl : ∀ m ∈ l, m ∈ p.way) : AInv W { p with way := l } :=
  ⟨h.rep, fun m hm => h.msg m (hl m hm), fun m hm hk => ⟨(h.act m (hl m hm) hk).fresh, (h.act m (hl m hm) hk).old⟩⟩
theorem AInv.give {N : Nat} {W : Book} {p : Play} {m : Msg} (h : AInv W p) (hp : PlayIs N p) (hm : MsgIs p.epoch N m) (h8 : m.kind ≠ 8) (hg : MsgA W m) (ha : m.kind = 10 → ActA W p m) : AInv W (giveP p m) := by
  rcases giveP_cases hp.self (m := m) with ⟨j, hj, hd, e⟩ | ⟨_, e⟩
  · rw [e]
    have hst := hand_A h hj hp.self (hp.rep j hj) hm h8 hg ha
    exact h.step hj hst.mv hst.rep hst.out
  · rw [e]; exact h
theorem AInv.put {W : Book} {p : Play} (h : AInv W p) {j : Nat} (hj : j < p.reps.length) {r' : Rep} (hm : MovA p (repAt p j) r') (hr : RepA W r') : AInv W (putR p j r') := by
  have := h.step hj hm hr (out := []) fun m hm => by cases hm
  have e : layW (putR p j r') [] = putR p j r' := by unfold layW; rw [List.append_nil]
  rw [e] at this; exact this
theorem liftA {N : Nat} {W : Book} {p : Play} (h : AInv W p) (hp : PlayIs N p) {j : Nat} (hj : j < p.reps.length) (hl : lead p j = true) : AInv W (putR p j (liftR (repAt p j) (commitP (repAt p j)))) := by
  have hR := h.rep j hj
  have hh := (and_true' hl).2
  unfold headP at hh
  obtain ⟨h3, hf⟩ := works_phase (and_true' hh).1
  have hle := (commitP_is (hp.rep j hj)).2
  have hl : (liftR (repAt p j) (commitP (repAt p j))).tail.last = (repAt p j).tail.last := vmax_left hle
  refine h.put hj ⟨Int.le_refl _, .inr (.inl hf)⟩ ⟨fun h0 => ?_, fun h0 x hx => hR.log h0 x (List.mem_filter.1 hx).1, fun x hx => ?_, fun h0 hfi => ?_⟩
  · have h0 : (repAt p j).view.phase = 0 := h0
    rw [h3] at h0; simp at h0
  · rw [hl]; exact hR.num x (List.mem_filter.1 hx).1
  · rw [hl]; exact hR.top h0 hfi
theorem pushA {N : Nat} {g : Ghost} {W : Book} {p : Play} (h : AInv W p) (hi : Inv g p) (hp : PlayIs N p) (hN : N ≤ 999) {j : Nat} (hj : j < p.reps.length) (hl : lead p j = true) : ∃ W', AInv W' (putR p j (pushP (repAt p j) (entP (nextV (repAt p j)))).1) := by
  unfold pushP
  cases hv : vlt (repAt p j).tail.last (entP (nextV (repAt p j))).ver with
  | false =>
    have hst : StepA W p (repAt p j) (repAt p j, []) := .same (h.rep j hj)
    exact ⟨W, h.put hj hst.mv hst.rep⟩
  | true =>
    have hh := (and_true' hl).2
    unfold headP at hh
    obtain ⟨hh1, hfst⟩ := and_true' hh
    obtain ⟨h3, hf⟩ := works_phase hh1
    have hp0 : (repAt p j).view.phase ≠ 0 := by rw [h3]; decide
    obtain ⟨C, L, hI⟩ := (hi.rep j hj).2 hp0
    have hn := (nextV_is (hp.rep j hj) hp.epN hN).2
    let x : Entry := entP (nextV (repAt p j))
    have hxn : nu x.ver = nu (repAt p j).tail.last + 1 := hn
    let e : Int := (repAt p j).view.epoch
    let W' : Book := fun e' n => if e' = e ∧ n = nu x.ver then some x else W e' n
    have htop := (h.rep j hj).top hp0 hfst
    have old : ∀ {e' n y}, W e' n = some y → W' e' n = some y := by
      intro e' n y hy
      show (if e' = e ∧ n = nu x.ver then some x else W e' n) = _
      rw [if_neg]
      · exact hy
      · rintro ⟨rfl, rfl⟩
        have := htop _ _ hy
        omega
    have oldL : ∀ {e' l}, LogA W e' l → LogA W' e' l := fun hl y hy => old (hl y hy)
    have topO : ∀ {e' v}, e' ≠ e → Top W e' v → Top W' e' v := by
      intro e' v he ht n y hy
      have hy : (if e' = e ∧ n = nu x.ver then some x else W e' n) = some y := hy
      rw [if_neg (fun c => he c.1)] at hy
      exact ht n y hy
    refine ⟨W', fun i hil => ?_, fun m hm => ?_, fun m hm hk => ?_⟩
    · rw [putR_len] at hil
      rw [repAt_put hj]
      split
      · rename_i eq; subst eq
        have hR := h.rep i hj
        refine ⟨fun h0 => absurd h0 hp0, fun _ y hy => ?_, fun y hy => ?_, fun _ _ n y hy => ?_⟩
        · rcases List.mem_append.1 hy with hy | hy
          · exact old (hR.log hp0 y hy)
          · simp only [List.mem_singleton] at hy; subst hy
            exact if_pos ⟨rfl, rfl⟩
        · show nu y.ver ≤ nu x.ver
          rcases List.mem_append.1 hy with hy | hy
          · have := hR.num y hy; omega
          · simp only [List.mem_singleton] at hy; subst hy; exact Nat.le_refl _
        · show n ≤ nu x.ver
          have hy : (if (repAt p i).view.epoch = e ∧ n = nu x.ver then some x else W (repAt p i).view.epoch n) = some y := hy
          split at hy
          · rename_i c; omega
          · have := htop n y hy; omega
      · rename_i hne
        have hR := h.rep i hil
        refine ⟨hR.none, fun h0 => oldL (hR.log h0), hR.num, fun h0 hfi => topO (fun he => ?_) (hR.top h0 hfi)⟩
        obtain ⟨C', L', hI'⟩ := (hi.rep i hil).2 h0
        have hc := hI'.cfg
        rw [he] at hc
        have hc : g.cfg (repAt p j).view.epoch = some (C', L') := hc
        rw [hI.cfg] at hc
        injection hc with hc
        injection hc with hc _
        rw [hI'.chain, ← hc, hp.self i hil] at hfi
        rw [hI.chain, hp.self j hj] at hfst
        obtain ⟨r1, e1⟩ := isFirst_cons hfi
        obtain ⟨r2, e2⟩ := isFirst_cons hfst
        rw [e1] at e2
        injection e2 with e2 _
        exact hne (mem0_inj e2)
    · have hg := h.msg m hm
      exact ⟨fun k => oldL (hg.fwd k), fun k => ⟨oldL (hg.ins k).1, (hg.ins k).2⟩⟩
    · have ha := h.act m hm hk
      obtain ⟨Lm, hac⟩ := hi.act m hm hk
      -- the head of the message's epoch isn't in it yet
      have hne : ∀ i, i < p.reps.length → isFirst m.chain (mem0 i) = true → (repAt (putR p j (pushR (repAt p j) x)) i).view.epoch < m.epoch → m.epoch ≠ e := by
        intro i hil hfi hlt he
        have hc := hac.cfg
        rw [he] at hc
        have hc : g.cfg (repAt p j).view.epoch = some (m.chain, Lm) := hc
        rw [hI.cfg] at hc
        injection hc with hc
        injection hc with hc _
        rw [hI.chain, hc, hp.self j hj] at hfst
        obtain ⟨r1, e1⟩ := isFirst_cons hfi
        obtain ⟨r2, e2⟩ := isFirst_cons hfst
        rw [e1] at e2
        injection e2 with e2 _
        have := mem0_inj e2
        subst this
        rw [repAt_put hj, if_pos rfl] at hlt
        have hlt : (repAt p i).view.epoch < m.epoch := hlt
        have : m.epoch = (repAt p i).view.epoch := he
        omega
      refine ⟨fun hfr i hil hfi hlt n => ?_, fun hfr i hil hfi hph hlt hfz => ?_⟩
      · rw [putR_len] at hil
        have hne := hne i hil hfi hlt
        show (if m.epoch = e ∧ n = nu x.ver then some x else W m.epoch n) = none
        rw [if_neg (fun c => hne c.1)]
        refine ha.fresh hfr i hil hfi ?_ n
        rw [repAt_put hj] at hlt
        split at hlt
        · rename_i eq; subst eq; exact hlt
        · exact hlt
      · rw [putR_len] at hil
        have hne := hne i hil hfi hlt
        rw [repAt_put hj] at hph hlt hfz ⊢
        by_cases eq : i = j
        · subst eq
          rw [if_pos rfl] at hlt hfz
          have hlt : (repAt p i).view.epoch < m.epoch := hlt
          have hfz : (repAt p i).frozen = m.epoch := hfz
          omega
        · rw [if_neg eq] at hph hlt hfz ⊢
          obtain ⟨o1, o2⟩ := ha.old hfr i hil hfi hph hlt hfz
          exact ⟨oldL o1, topO hne o2⟩

/-! ### a new epoch -/
theorem frzA {N : Nat} {W : Book} {p : Play} (h : AInv W p) (hp : PlayIs N p) (hw : ∀ m ∈ p.way, m.epoch < p.epoch) {j : Nat} (hj : j < p.reps.length) : AInv W (putR p j (frzR p j)) := by
  have hR := h.rep j hj
  exact h.put hj ⟨Int.le_refl _, .inr (.inr fun m hm hk he => by
    have := hw m hm
    have e : (frzR p j).frozen = p.epoch := rfl
    omega)⟩ ⟨hR.none, hR.log, hR.num, hR.top⟩
theorem turnAt_A {N : Nat} {W : Book} {up : Nat → Bool} {t : TS} (h : AInv W t.p) (hi : TSIs N t) (hw : ∀ m ∈ t.p.way, m.epoch < t.p.epoch) {j : Nat} (hj : j < t.p.reps.length) : AInv W (turnAt up t j).p := by
  unfold turnAt
  cases hc : up j && decide ((repAt t.p j).self ∈ t.p.valid) with
  | false => exact h
  | true =>
    have e := frzAt_eq hi.p hi.view hj
    simp only [cond_true, e]
    exact frzA h hi.p hw hj
theorem turnF_A {N : Nat} {W : Book} {up : Nat → Bool} : ∀ (d j : Nat) {t : TS}, AInv W t.p → TSIs N t → (∀ m ∈ t.p.way, m.epoch < t.p.epoch) → j + d ≤ t.p.reps.length → AInv W (turnF up d j t).p
  | 0, _, t, h, _, _, _ => h
  | d + 1, j, t, h, hi, hw, hd => by
    unfold turnF
    obtain ⟨h1, h2, h3, h4, _⟩ := turnAt_is (up := up) hi (j := j) (by omega)
    exact turnF_A d (j + 1) (turnAt_A h hi hw (by omega)) h1 (by rw [h3, h4]; exact hw) (by omega)
theorem turnA {N : Nat} {W : Book} {up : Nat → Bool} {p : Play} (h : AInv W p) (hp : PlayIs N p) : ∃ W', AInv W' (turnP up p) := by
  have hw : ∀ m ∈ p.way, m.epoch < p.epoch + 1 := fun m hm => by have := (hp.way m hm).ep; omega
  have h0 : AInv W { p with epoch := p.epoch + 1 } := ⟨h.rep, h.msg, fun m hm hk => ⟨(h.act m hm hk).fresh, (h.act m hm hk).old⟩⟩
  have h1 := turnF_A (up := up) p.reps.length 0 h0 (turn0_is hp) hw (by simp)
  obtain ⟨h2, h3, h4, h5, _⟩ := turnF_is (up := up) p.reps.length 0 (turn0_is hp) (by simp)
  have hw : ∀ m ∈ (turnF up p.reps.length 0 ⟨{ p with epoch := p.epoch + 1 }, none, []⟩).p.way, m.epoch < (turnF up p.reps.length 0 ⟨{ p with epoch := p.epoch + 1 }, none, []⟩).p.epoch := by rw [h4, h5]; exact hw
  unfold turnP
  generalize turnF up p.reps.length 0 ⟨{ p with epoch := p.epoch + 1 }, none, []⟩ = t at h1 h2 hw
  unfold turnE
  cases hb : t.best with
  | none => exact ⟨W, h1⟩
  | some b =>
    have hbl := h2.best b hb
    have hR := h1.rep b hbl
    let W' : Book := fun e n => if e = t.p.epoch then (repAt t.p b).tail.log.find? (fun x => decide (nu x.ver = n)) else W e n
    have same : ∀ {e l}, e < t.p.epoch → LogA W e l → LogA W' e l := by
      intro e l he hl x hx
      show (if e = t.p.epoch then _ else W e (nu x.ver)) = _
      rw [if_neg (by omega)]; exact hl x hx
    have sameT : ∀ {e v}, e < t.p.epoch → Top W e v → Top W' e v := by
      intro e v he ht n x hx
      have hx : (if e = t.p.epoch then (repAt t.p b).tail.log.find? (fun x => decide (nu x.ver = n)) else W e n) = some x := hx
      rw [if_neg (by omega)] at hx
      exact ht n x hx
    have newL : LogA W' t.p.epoch (repAt t.p b).tail.log := by
      intro x hx
      show (if t.p.epoch = t.p.epoch then (repAt t.p b).tail.log.find? (fun y => decide (nu y.ver = nu x.ver)) else W t.p.epoch (nu x.ver)) = _
      rw [if_pos rfl]
      cases hf : (repAt t.p b).tail.log.find? (fun y => decide (nu y.ver = nu x.ver)) with
      | none =>
        have := List.find?_eq_none.1 hf x hx
        simp at this
      | some y =>
        have h1 := List.find?_some hf
        have h2 := List.mem_of_find?_eq_some hf
        have h1 : nu y.ver = nu x.ver := of_decide_eq_true h1
        have hph : (repAt t.p b).view.phase ≠ 0 := fun h0 => by rw [hR.none h0] at hx; cases hx
        have a := hR.log hph x hx
        have b := hR.log hph y h2
        rw [h1, a] at b
        exact b.symm
    have newT : Top W' t.p.epoch (repAt t.p b).tail.last := by
      intro n x hx
      have hx : (if t.p.epoch = t.p.epoch then (repAt t.p b).tail.log.find? (fun y => decide (nu y.ver = n)) else W t.p.epoch n) = some x := hx
      rw [if_pos rfl] at hx
      have h1 := List.find?_some hx
      have h2 := List.mem_of_find?_eq_some hx
      have h1 : nu x.ver = n := of_decide_eq_true h1
      have := hR.num x h2
      omega
    refine ⟨W', fun i hil => ?_, fun m hm => ?_, fun m hm hk => ?_⟩
    · have hR := h1.rep i hil
      have hlt := h2.view i hil
      exact ⟨hR.none, fun h0 => same hlt (hR.log h0), hR.num, fun h0 hf => sameT hlt (hR.top h0 hf)⟩
    · rcases List.mem_append.1 hm with hm | hm
      · have hg := h1.msg m hm
        have hlt := hw m hm
        exact ⟨fun k => same hlt (hg.fwd k), fun k => ⟨same hlt (hg.ins k).1, (hg.ins k).2⟩⟩
      · simp only [List.mem_singleton] at hm; subst hm
        exact plain_kind (by simp [actMsg]) (by simp [actMsg])
    · rcases List.mem_append.1 hm with hm | hm
      · have ha := h1.act m hm hk
        have hlt := hw m hm
        refine ⟨fun hf i hil hfi he n => ?_, fun hf i hil hfi hp he hz => ?_⟩
        · show (if m.epoch = t.p.epoch then _ else W m.epoch n) = none
          rw [if_neg (by omega)]; exact ha.fresh hf i hil hfi he n
        · obtain ⟨o1, o2⟩ := ha.old hf i hil hfi hp he hz
          exact ⟨same hlt o1, sameT hlt o2⟩
      · simp only [List.mem_singleton] at hm; subst hm
        refine ⟨fun hf => by simp [actMsg] at hf, fun _ i hil hf _ _ _ => ?_⟩
        have : (repAt t.p b).self = mem0 i := of_decide_eq_true (show decide ((repAt t.p b).self = mem0 i) = true from hf)
        rw [h2.p.self b hbl] at this
        have := mem0_inj this
        subst this
        exact ⟨newL, newT⟩

/-! ### steps -/
theorem noteA {W : Book} : ∀ (d j : Nat) {p : Play}, AInv W p → AInv W (noteF d j p)
  | 0, _, p, h => h
  | d + 1, j, p, h => by
    unfold noteF
    exact noteA d (j + 1) (p := noteAt p j) ⟨h.rep, h.msg, fun m hm hk => ⟨(h.act m hm hk).fresh, (h.act m hm hk).old⟩⟩
theorem doA {N : Nat} {g : Ghost} {W : Book} {up : Nat → Bool} {k i : Nat} {p : Play} (h : AInv W p) (hi : Inv g p) (hp : PlayIs N p) (hN : N ≤ 999) : ∃ W', AInv W' (doP up k i p) := by
  unfold doP
  cases decide (k ≤ 2) with
  | true =>
    simp only [cond_true]
    cases hn : decide (p.way.length = 0) with
    | true => exact ⟨W, h⟩
    | false =>
      have hn := of_decide_eq_false hn
      have hil : i % p.way.length < p.way.length := Nat.mod_lt _ (by omega)
      have hm := mem_getD hil (z := (default : Msg))
      have he := h.less (l := p.way.eraseIdx (i % p.way.length)) fun m hm => List.mem_of_mem_eraseIdx hm
      have hpe := hp.less (l := p.way.eraseIdx (i % p.way.length)) fun m hm => List.mem_of_mem_eraseIdx hm
      simp only [cond_false]
      cases decide (k = 2) with
      | true =>
        refine ⟨W, ?_⟩
        have hmem : ∀ m ∈ p.way ++ [p.way.getD (i % p.way.length) default], m ∈ p.way := fun m hx => by
          rcases List.mem_append.1 hx with hx | hx
          · exact hx
          · simp only [List.mem_singleton] at hx; subst hx; exact hm
        exact h.less hmem
      | false =>
        simp only [cond_false]
        cases decide (k = 1) with
        | true => exact ⟨W, he⟩
        | false => exact ⟨W, he.give hpe (hp.way _ hm) (hi.msg _ hm).no8 (h.msg _ hm) fun hk => ⟨(h.act _ hm hk).fresh, (h.act _ hm hk).old⟩⟩
  | false =>
    simp only [cond_false]
    have hil : i % p.reps.length < p.reps.length := Nat.mod_lt _ hp.lo
    cases decide (k = 4) with
    | true =>
      have hst : StepA W p (repAt p (i % p.reps.length)) (repAt p (i % p.reps.length), []) := .same (h.rep _ hil)
      have := h.step hil hst.mv hst.rep (out := againP (repAt p (i % p.reps.length))) (again_A (h.rep _ hil))
      have e : putR p (i % p.reps.length) (repAt p (i % p.reps.length)) = p := by
        unfold putR repAt
        rw [List.getD, List.getElem?_eq_getElem hil]
        simp
      rw [e] at this
      exact ⟨W, this⟩
    | false =>
      simp only [cond_false]
      cases decide (k = 5) with
      | true => exact turnA h hp
      | false =>
        simp only [cond_false]
        cases decide (k = 6) with
        | true => exact leadF_inv (Q := fun p => ∃ W', AInv W' p) ⟨W, h⟩ (fun j hj hl => ⟨W, liftA h hp hj hl⟩) p.reps.length 0 (by omega)
        | false => exact leadF_inv (Q := fun p => ∃ W', AInv W' p) ⟨W, h⟩ (fun j hj hl => pushA h hi hp hN hj hl) p.reps.length 0 (by omega)
theorem beginA {n : Nat} : ∃ W, AInv W (beginP n) := by
  have hrep : ∀ j, j < n → repAt (beginP n) j = rep0 (mem0 j) := fun j hj => by
    unfold repAt beginP
    simp [List.getD, List.getElem?_map, List.getElem?_range hj]
  have hlen : (beginP n).reps.length = n := by simp [beginP]
  refine ⟨fun _ _ => none, fun j hj => ?_, fun m hm => ?_, fun m hm hk => ?_⟩
  · rw [hlen] at hj; rw [hrep j hj]
    exact ⟨fun _ => rfl, fun h0 => absurd rfl h0, (fun x hx => by cases hx), fun h0 => absurd rfl h0⟩
  · simp only [beginP, List.mem_singleton] at hm
    subst hm
    exact plain_kind (by simp [actMsg]) (by simp [actMsg])
  · exact ⟨fun _ j _ _ _ n => rfl, fun hf => by
      simp only [beginP, List.mem_singleton] at hm
      subst hm
      simp [actMsg] at hf⟩
end Go.Wk
end

section
/- A play of a chain: of what kinds the messages under way are. -/
open Go Go.AM Go.Md Go.Fl
namespace Go.Wk
/-- the kinds that are under way -/
def KindW (m : Msg) : Prop := m.kind = 10 ∨ m.kind = 11 ∨ m.kind = 12 ∨ m.kind = 13 ∨ m.kind = 14
def WayK (p : Play) : Prop := ∀ m ∈ p.way, KindW m
theorem acks_kind (r : Rep) : ∀ m ∈ acksP r, KindW m := by
  intro m hm
  unfold acksP at hm
  split at hm
  · cases hm
  · simp only [List.mem_singleton] at hm
    subst hm; exact .inr (.inr (.inr (.inr rfl)))
theorem forws_kind (r : Rep) : ∀ m ∈ forwsP r, KindW m := by
  intro m hm
  unfold forwsP at hm
  split at hm
  · cases hm
  · simp only [List.mem_singleton] at hm
    subst hm; exact .inr (.inr (.inr (.inl rfl)))
theorem insts_kind (r : Rep) : ∀ (l : List Member) (s : List Bool), ∀ m ∈ instsP r l s, KindW m
  | [], s => fun m hm => by simp [instsP] at hm
  | a :: l, [] => fun m hm => by simp [instsP] at hm
  | a :: l, b :: s => fun m hm => by
    have ih := insts_kind r l s
    unfold instsP at hm
    cases b with
    | true => exact ih m hm
    | false =>
      rw [cond_false] at hm
      rcases List.mem_cons.1 hm with e | e
      · subst e; exact .inr (.inl rfl)
      · exact ih m e
theorem again_kind (r : Rep) : ∀ m ∈ againP r, KindW m := by
  intro m hm
  unfold againP at hm
  cases h1 : syncsP r with
  | true => rw [h1] at hm; exact insts_kind r _ _ m hm
  | false =>
    rw [h1, cond_false] at hm
    cases h2 : worksP r with
    | true =>
      rw [h2, cond_true] at hm
      rcases List.mem_append.1 hm with e | e
      · exact forws_kind r m e
      · exact acks_kind r m e
    | false => rw [h2] at hm; cases hm
theorem hand_kind {r : Rep} {m : Msg} (h : m.kind ≠ 8) : ∀ x ∈ (handP r m).2, KindW x := by
  intro x hx
  unfold handP at hx
  cases ht : toMe r m with
  | false => rw [ht] at hx; cases hx
  | true =>
    rw [ht, cond_true] at hx
    unfold handK at hx
    rw [decide_eq_false h, cond_false] at hx
    revert hx
    cases decide (m.kind = 10) with
    | true =>
      unfold actP
      cases actG r m with
      | true => exact fun hx => again_kind _ x hx
      | false => exact fun hx => by cases hx
    | false =>
      cases decide (m.kind = 11) with
      | true =>
        simp only [cond_true, cond_false]
        unfold insP
        cases decide (0 < idx m.chain r.self) with
        | false => exact fun hx => by cases hx
        | true =>
          simp only [cond_true]
          cases liveP (insR r m) && decide (m.epoch = (insR r m).view.epoch) with
          | false => exact fun hx => by cases hx
          | true =>
            intro hx
            simp only [cond_true, List.mem_singleton] at hx
            subst hx; exact .inr (.inr (.inl rfl))
      | false =>
        cases decide (m.kind = 12) with
        | true =>
          simp only [cond_true, cond_false]
          unfold indP
          cases syncsP r && (decide (m.epoch = r.view.epoch) && decide (0 ≤ idx r.view.chain (who m))) <;> exact fun hx => by cases hx
        | false =>
          cases decide (m.kind = 13) with
          | true =>
            simp only [cond_true, cond_false]
            unfold fwdP
            cases nextG r m (-1) with
            | true => exact fun hx => again_kind _ x hx
            | false => exact fun hx => by cases hx
          | false =>
            cases decide (m.kind = 14) with
            | true =>
              simp only [cond_true, cond_false]
              unfold ackP
              cases nextG r m 1 with
              | true => exact fun hx => acks_kind _ x hx
              | false => exact fun hx => by cases hx
            | false => exact fun hx => by cases hx
theorem WayK.give {N : Nat} {p : Play} {m : Msg} (h : WayK p) (hp : PlayIs N p) (hm : m.kind ≠ 8) : WayK (giveP p m) := by
  rcases giveP_cases (m := m) hp.self with ⟨j, hj, _, e⟩ | e
  · rw [e]
    intro x hx
    rcases List.mem_append.1 hx with a | a
    · exact h x a
    · exact hand_kind hm x a
  · rw [e.2]; exact h
theorem turnE_way (up : Nat → Bool) (t : TS) : (turnE up t).way = t.p.way ∨ ∃ m, m.kind = 10 ∧ (turnE up t).way = t.p.way ++ [m] := by
  obtain ⟨p, best, keep⟩ := t
  cases best with
  | none => exact .inl rfl
  | some b => exact .inr ⟨actMsg (repAt p b).self p.epoch false ((repAt p b).self :: restF up b p p.reps.length 0), rfl, rfl⟩
theorem turnF_way {N : Nat} {up : Nat → Bool} {p : Play} (h : PlayIs N p) : (turnP up p).way = p.way ∨ ∃ m, m.kind = 10 ∧ (turnP up p).way = p.way ++ [m] := by
  have h0 := turn0_is h
  have h1 := turnF_is (up := up) p.reps.length 0 h0 (by show 0 + p.reps.length ≤ p.reps.length; omega)
  have hw : (turnF up p.reps.length 0 ⟨{ p with epoch := p.epoch + 1 }, none, []⟩).p.way = p.way := h1.2.2.2.1
  have := turnE_way up (turnF up p.reps.length 0 ⟨{ p with epoch := p.epoch + 1 }, none, []⟩)
  rw [hw] at this
  exact this
theorem leadF_way (f : Rep → Rep) (p : Play) : ∀ d j, (leadF f p d j).way = p.way
  | 0, j => rfl
  | d + 1, j => by
    unfold leadF
    cases lead p j with
    | true => rfl
    | false => exact leadF_way f p d (j + 1)
theorem WayK.do {N : Nat} {up : Nat → Bool} {k i : Nat} {p : Play} (h : WayK p) (hp : PlayIs N p) : WayK (doP up k i p) := by
  unfold doP
  have hsub : ∀ l, (∀ m ∈ l, m ∈ p.way) → WayK { p with way := l } := fun l hl m hm => h m (hl m hm)
  have her : ∀ n, ∀ m ∈ p.way.eraseIdx n, m ∈ p.way := fun n m hm => (List.eraseIdx_sublist p.way n).mem hm
  cases decide (k ≤ 2) with
  | true =>
    simp only [cond_true]
    by_cases hl : p.way.length = 0
    · rw [decide_eq_true hl]; exact h
    · rw [decide_eq_false hl, cond_false]
      have hlt : i % p.way.length < p.way.length := Nat.mod_lt _ (by omega)
      have hm : p.way.getD (i % p.way.length) default ∈ p.way := mem_getD hlt
      cases decide (k = 2) with
      | true =>
        intro x hx
        rcases List.mem_append.1 hx with a | a
        · exact h x a
        · simp only [List.mem_singleton] at a; subst a; exact h _ hm
      | false =>
        cases decide (k = 1) with
        | true => exact hsub _ (her _)
        | false =>
          have h8 : (p.way.getD (i % p.way.length) default).kind ≠ 8 := by
            have := h _ hm
            unfold KindW at this; omega
          exact (hsub _ (her _)).give (hp.less (her _)) h8
  | false =>
    simp only [cond_false]
    cases decide (k = 4) with
    | true =>
      intro x hx
      rcases List.mem_append.1 hx with a | a
      · exact h x a
      · exact again_kind _ x a
    | false =>
      cases decide (k = 5) with
      | true =>
        intro x hx
        rcases turnF_way (up := up) hp with e | ⟨m, hm, e⟩
        · exact h x (by rw [← e]; exact hx)
        · have hx : x ∈ (turnP up p).way := hx
          rw [e] at hx
          rcases List.mem_append.1 hx with a | a
          · exact h x a
          · simp only [List.mem_singleton] at a; subst a; exact .inl hm
      | false =>
        cases decide (k = 6) with
        | true =>
          intro x hx
          have hx : x ∈ (leadF (fun r => liftR r (commitP r)) p p.reps.length 0).way := hx
          rw [leadF_way] at hx; exact h x hx
        | false =>
          intro x hx
          have hx : x ∈ (leadF (fun r => (pushP r (entP (nextV r))).1) p p.reps.length 0).way := hx
          rw [leadF_way] at hx; exact h x hx
theorem WayK.note {N : Nat} {p : Play} (h : WayK p) (hp : PlayIs N p) : WayK (noteP p) := by
  intro x hx
  rw [(noteP_is hp).2.1] at hx
  exact h x hx
theorem begin_kind (n : Nat) : WayK (beginP n) := by
  intro x hx
  simp only [beginP, List.mem_singleton] at hx
  subst hx; exact .inl rfl
end Go.Wk
end

section
/- The head of a seat: the environment of the abstract machine, live slots, modes of calls, the functions' numbers. By program (mkhead.py). -/
open Go Go.AM Go.Proofs
namespace Go.Wk
set_option maxRecDepth 100000
noncomputable def PG : Program := Tryz.prog
def liveTab : List (Nat × Nat × List Nat) := [
(3, 0, [1, 5, 6]),
(4, 0, [1, 5, 6]),
(4, 2, [1, 5, 6, 9]),
(4, 4, [1, 5, 6, 9, 10, 11]),
(5, 0, [1, 5, 6]),
(5, 2, [1, 5, 6, 9]),
(5, 4, [1, 5, 6, 9, 10]),
(7, 0, [0, 2, 3, 4, 5]),
(8, 0, [2, 4, 8, 12]),
(9, 0, [1, 2, 3]),
(12, 0, [0, 3, 5]),
(14, 0, [2, 3, 5]),
(14, 2, [2, 3, 5, 6]),
(20, 0, [2, 3, 4, 6]),
(21, 1, [1, 3, 23, 24, 25]),
(22, 0, [0, 1, 5]),
(23, 0, [1, 3, 4]),
(23, 2, [1, 3, 8, 9]),
(24, 0, [1, 2, 4, 6, 7, 8]),
(24, 2, [1, 2, 4, 6, 7, 11, 12, 13]),
(29, 0, [2, 3, 5]),
(39, 0, [2, 4, 11, 12, 13]),
(39, 2, [2, 3, 4, 15]),
(43, 0, [2, 4, 5, 17, 18, 19, 1003]),
(55, 0, [0, 1, 5]),
(57, 0, [0, 1, 5]),
(74, 0, [0, 3, 5]),
(76, 0, [1, 2, 4, 5, 6]),
(79, 0, [3, 7, 8, 9]),
(80, 0, [0, 1, 5]),
(83, 0, [0, 1, 5, 6]),
(87, 0, [0, 3, 5, 6]),
(87, 2, [0, 3, 5, 7]),
(89, 0, [0, 1, 5]),
(93, 1000, [1, 2, 4, 5]),
(96, 0, [0, 3, 4]),
(98, 0, [0, 3, 4]),
(101, 0, [0, 3, 4]),
(102, 0, [0, 3, 4]),
(103, 0, [0, 3, 4]),
(105, 0, [0, 1, 7, 8]),
(107, 0, [0, 1, 7, 8]),
(109, 0, [0, 1, 2, 8, 9, 10]),
(114, 0, [3, 4]),
(115, 0, [0, 3, 4]),
(118, 0, [0, 3, 4]),
(119, 0, [0, 1, 4, 6]),
(122, 0, [0, 2, 3])]
def modes1 : List Nat := [36, 37, 61, 62, 63, 64]
def modes2 : List Nat := [65, 66, 67, 68, 69, 70, 83, 84, 91, 95, 105, 107, 109, 112, 113, 121, 122, 131, 132, 133, 134, 135]
def modes3 : List Nat := []
def modes4 : List Nat := []
noncomputable def envM (md : Nat → Option Nat) (o : Nat → List AV → Heap → Option Answer) : Env where
  tt := tiOf PG
  code := codeOf PG
  mode f := match md f with
    | some k => k
    | none => bif nmem f modes1 then 1 else bif nmem f modes2 then 2 else bif nmem f modes4 then 4 else bif nmem f modes3 then 3 else 0
  live f b := liveOf f b liveTab
  orc := o
noncomputable def envO (l : List Known) : Env := envM (fun _ => none) (orcOf l)
theorem envM_ok {md : Nat → Option Nat} {l : List Known} (h : ∀ k ∈ l, k.Ok PG) : EnvOk PG (envM md (orcOf l)) := ⟨tt_ok rfl, orc_ok h⟩
theorem envM_code {md : Nat → Option Nat} {o : Nat → List AV → Heap → Option Answer} : CodeOk PG (envM md o) := codeOf_ok rfl
theorem mixed : PG.follows .mixedOrders = true := by kernel_rfl
theorem con_of {md : Nat → Option Nat} {l : List Known} (h : ∀ k ∈ l, k.Ok PG) {n f : Nat} {args : List AV} {r : AV} (e : callT (envM md (orcOf l)) n f args = some r) : Contract PG f args [] r [] :=
  callT_ok (envM_ok h) envM_code mixed e
def F_main_main : Nat := 0
def F_gosem_cut : Nat := 1
def F_gosem_cut_init : Nat := 2
def F_lockgatelaw18_ChainPlays : Nat := 3
def F_lockgatelaw18_ChainCommits : Nat := 4
def F_lockgatelaw18_ChainAgree : Nat := 5
def F_lockgatelaw18_awake : Nat := 6
def F_lockgateref18_Begin : Nat := 7
def F_lockgatelaw18_do : Nat := 8
def F_lockgatelaw18_note : Nat := 9
def F_chain_Commit : Nat := 10
def F_chain_Head : Nat := 11
def F_lockgatelaw18_in : Nat := 12
def F_lockgateref18_Has : Nat := 13
def F_lockgateref18_Agree : Nat := 14
def F_chain_Handle : Nat := 15
def F_chain_New : Nat := 16
def F_chain_Push : Nat := 17
def F_lockgateref18_Entry : Nat := 18
def F_ver_Make : Nat := 19
def F_lockgatelaw18_give : Nat := 20
def F_chain_Again : Nat := 21
def F_lockgateref06_SameAll : Nat := 22
def F_lockgateref18_Again : Nat := 23
def F_lockgatelaw18_turn : Nat := 24
def F_lockgatelaw18_set : Nat := 25
def F_chain_Lift : Nat := 26
def F_ver_Next : Nat := 27
def F_lockgateref18_Push : Nat := 28
def F_lockgateref18_Same : Nat := 29
def F_ver_Later : Nat := 30
def F_chain_works : Nat := 31
def F_chain_first : Nat := 32
def F_lockgateref01_Ahead : Nat := 33
def F_lockgateref01_Num : Nat := 34
def F_lockgateref05_Same : Nat := 35
def F_chain_own : Nat := 36
def F_chain_kinds : Nat := 37
def F_chain_push : Nat := 38
def F_lockgateref18_Handle : Nat := 39
def F_chain_syncs : Nat := 40
def F_chain_install : Nat := 41
def F_view_Behind : Nat := 42
def F_chain_forward : Nat := 43
def F_view_Ahead : Nat := 44
def F_chain_acked : Nat := 45
def F_lockgateref06_Same : Nat := 46
def F_lockgateref18_Live : Nat := 47
def F_lockgateref18_msg : Nat := 48
def F_lockgateref16_Side : Nat := 49
def F_lockgateref18_acks : Nat := 50
def F_ver_Ahead : Nat := 51
def F_tail_Lift : Nat := 52
def F_lockgateref18_Head : Nat := 53
def F_lockgateref18_push : Nat := 54
def F_lockgateref16_Same : Nat := 55
def F_lockgateref15_Same : Nat := 56
def F_lockgateref14_Same : Nat := 57
def F_view_Live : Nat := 58
def F_view_Head : Nat := 59
def F_lockgateref01_Epoch : Nat := 60
def F_slices_Clone_api_Member : Nat := 61
def F_slices_Clone_api_Entry : Nat := 62
def F_slices_Clone_api_Seen : Nat := 63
def F_slices_Clone_bool : Nat := 64
def F_chain_onFreeze : Nat := 65
def F_chain_onActivate : Nat := 66
def F_chain_onInstall : Nat := 67
def F_chain_onInstalled : Nat := 68
def F_chain_onForward : Nat := 69
def F_chain_onAcked : Nat := 70
def F_tail_Push : Nat := 71
def F_seen_Put : Nat := 72
def F_seen_Of : Nat := 73
def F_lockgateref16_Index : Nat := 74
def F_lockgateref01_Make : Nat := 75
def F_lockgateref15_Lift : Nat := 76
def F_lockgateref01_Later : Nat := 77
def F_chain_to : Nat := 78
def F_view_Index : Nat := 79
def F_lockgateref03_Same : Nat := 80
def F_lockgateref06_Msg : Nat := 81
def F_lockgateref18_have : Nat := 82
def F_slices_DeleteFunc_api_Entry : Nat := 83
def F_tail_Lift_c1 : Nat := 84
def F_lockgateref18_Works : Nat := 85
def F_lockgateref15_Push : Nat := 86
def F_lockgateref14_Put : Nat := 87
def F_lockgateref14_Of : Nat := 88
def F_lockgateref05_SameAll : Nat := 89
def F_chain_viewOf : Nat := 90
def F_slices_Contains_bool : Nat := 91
def F_chain_from : Nat := 92
def F_chain_takeUp : Nat := 93
def F_seen_search : Nat := 94
def F_slices_Insert_api_Seen : Nat := 95
def F_lockgateref06_numbers : Nat := 96
def F_lockgateref06_bit : Nat := 97
def F_lockgateref03_Text : Nat := 98
def F_lockgateref05_Ver : Nat := 99
def F_lockgateref05_Op : Nat := 100
def F_lockgateref06_entries : Nat := 101
def F_lockgateref06_members : Nat := 102
def F_lockgateref06_Views : Nat := 103
def F_lockgateref06_Image : Nat := 104
def F_slices_IndexFunc_api_Entry : Nat := 105
def F_lockgateref14_Verdict : Nat := 106
def F_slices_Index_bool : Nat := 107
def F_ver_Num : Nat := 108
def F_slices_BinarySearchFunc_int : Nat := 109
def F_seen_search_c1 : Nat := 110
def F_cmp_Compare_int : Nat := 111
def F_slices_overlaps_api_Seen : Nat := 112
def F_slices_rotateRight_api_Seen : Nat := 113
def F_lockgateref03_Int : Nat := 114
def F_lockgateref05_cat : Nat := 115
def F_lockgateref05_bit : Nat := 116
def F_lockgateref05_Entry : Nat := 117
def F_lockgateref06_seens : Nat := 118
def F_lockgateref14_Find : Nat := 119
def F_cmp_isNaN_int : Nat := 120
def F_slices_rotateLeft_api_Seen : Nat := 121
def F_slices_Reverse_api_Seen : Nat := 122
end Go.Wk
end

section
/- Contracts of the library's Clone: a list's copy reads as the list. -/
open Go Go.AM Go.Md
namespace Go.Wk
set_option maxRecDepth 100000
set_option maxHeartbeats 1000000

noncomputable def env0 : Env := envO []
theorem con0 {n f : Nat} {args : List AV} {r : AV} (e : callT env0 n f args = some r) : Contract PG f args [] r [] := con_of (md := fun _ => none) (l := []) (fun k hk => by cases hk) e

theorem clone_of {X : Type} {F sz b : Nat} {e : X → List AV} {z : X} (hb : b ≤ 1000) (hn : callT env0 2 F [.nils] = some .nils) (he : callT env0 2 F [.trl sz []] = some (.trl sz []))
    (hs : ∀ n f, callT env0 2 F [.tr sz (n + 1) f] = bif Nat.ble ((0 + (n + 1)) * b) 140737488355328 && Nat.ble (0 + (n + 1)) 140737488355328 then bif Nat.ble (n + 1) (n + 1) then some (.tr sz (n + 1) f) else none else none)
    (l : List X) (hl : l.length ≤ LB) : Contract PG F [encL sz e z l] [] (encL sz e z l) [] := by
  unfold LB at hl
  cases l with
  | nil => exact Contract.split (OrC.of [] [] .nil) ((con0 hn).res .nils) ((con0 he).res (SubV.trl_encL (e := e) (z := z) []))
  | cons x r =>
    have h := hs r.length (fun i => e ((x :: r).getD i z))
    simp only [List.length_cons] at hl
    have h1 : (0 + (r.length + 1)) * b ≤ 140737488355328 := by
      have : (0 + (r.length + 1)) * b ≤ 1000000 * 1000 := Nat.mul_le_mul (by omega) hb
      omega
    rw [ble_true h1, ble_true (by omega), ble_true (Nat.le_refl _)] at h
    exact con0 h

theorem clone_Member_eq (n : Nat) (f : Nat → List AV) : callT env0 2 F_slices_Clone_api_Member [.tr 2 (n + 1) f] = bif Nat.ble ((0 + (n + 1)) * 16) 140737488355328 && Nat.ble (0 + (n + 1)) 140737488355328 then bif Nat.ble (n + 1) (n + 1) then some (.tr 2 (n + 1) f) else none else none := by kernel_rfl
theorem clone_Entry_eq (n : Nat) (f : Nat → List AV) : callT env0 2 F_slices_Clone_api_Entry [.tr 11 (n + 1) f] = bif Nat.ble ((0 + (n + 1)) * 112) 140737488355328 && Nat.ble (0 + (n + 1)) 140737488355328 then bif Nat.ble (n + 1) (n + 1) then some (.tr 11 (n + 1) f) else none else none := by kernel_rfl
theorem clone_Seen_eq (n : Nat) (f : Nat → List AV) : callT env0 2 F_slices_Clone_api_Seen [.tr 7 (n + 1) f] = bif Nat.ble ((0 + (n + 1)) * 72) 140737488355328 && Nat.ble (0 + (n + 1)) 140737488355328 then bif Nat.ble (n + 1) (n + 1) then some (.tr 7 (n + 1) f) else none else none := by kernel_rfl
theorem clone_bool_eq (n : Nat) (f : Nat → List AV) : callT env0 2 F_slices_Clone_bool [.tr 1 (n + 1) f] = bif Nat.ble ((0 + (n + 1)) * 1) 140737488355328 && Nat.ble (0 + (n + 1)) 140737488355328 then bif Nat.ble (n + 1) (n + 1) then some (.tr 1 (n + 1) f) else none else none := by kernel_rfl

theorem clone_Member (l : List Member) (h : l.length ≤ LB) : Contract PG F_slices_Clone_api_Member [encMembers l] [] (encMembers l) [] :=
  clone_of (b := 16) (by omega) (by kernel_rfl) (by kernel_rfl) clone_Member_eq l h
theorem clone_Entry (l : List Entry) (h : l.length ≤ LB) : Contract PG F_slices_Clone_api_Entry [encEntrys l] [] (encEntrys l) [] :=
  clone_of (b := 112) (by omega) (by kernel_rfl) (by kernel_rfl) clone_Entry_eq l h
theorem clone_Seen (l : List Seen) (h : l.length ≤ LB) : Contract PG F_slices_Clone_api_Seen [encSeens l] [] (encSeens l) [] :=
  clone_of (b := 72) (by omega) (by kernel_rfl) (by kernel_rfl) clone_Seen_eq l h
theorem clone_bool (l : List Bool) (h : l.length ≤ LB) : Contract PG F_slices_Clone_bool [encBools l] [] (encBools l) [] :=
  clone_of (b := 1) (by omega) (by kernel_rfl) (by kernel_rfl) clone_bool_eq l h

/-- a function of one list, that answers it -/
def dL {X : Type} (d : List AV → X) (a : List AV) : List X := decL d (a.getD 0 .nils)
def shortL {X : Type} (l : List X) : Prop := l.length ≤ LB

def eMems (l : List Member) : List AV := [encMembers l]
def eEnts (l : List Entry) : List AV := [encEntrys l]
def eSeens (l : List Seen) : List AV := [encSeens l]
def eBools (l : List Bool) : List AV := [encBools l]
theorem qMems {R : Type} {l : List Member} {k : List Member → Option R} (h : shortL l) : gC (dL decMember) shortL eMems [encMembers l] k = k l := gC_eq l (decMembers l) h (.refl _)
theorem qEnts {R : Type} {l : List Entry} {k : List Entry → Option R} (h : shortL l) : gC (dL decEntry) shortL eEnts [encEntrys l] k = k l := gC_eq l (decEntrys l) h (.refl _)
theorem qSeens {R : Type} {l : List Seen} {k : List Seen → Option R} (h : shortL l) : gC (dL decSeen) shortL eSeens [encSeens l] k = k l := gC_eq l (decSeens l) h (.refl _)
theorem qBools {R : Type} {l : List Bool} {k : List Bool → Option R} (h : shortL l) : gC (dL decBool) shortL eBools [encBools l] k = k l := gC_eq l (decBools l) h (.refl _)
noncomputable def kCloneMember : Known := .spec F_slices_Clone_api_Member (dL decMember) shortL eMems encMembers
noncomputable def kCloneEntry : Known := .spec F_slices_Clone_api_Entry (dL decEntry) shortL eEnts encEntrys
noncomputable def kCloneSeen : Known := .spec F_slices_Clone_api_Seen (dL decSeen) shortL eSeens encSeens
noncomputable def kCloneBool : Known := .spec F_slices_Clone_bool (dL decBool) shortL eBools encBools
theorem kCloneMember_ok : kCloneMember.Ok PG := Known.spec_ok clone_Member
theorem kCloneEntry_ok : kCloneEntry.Ok PG := Known.spec_ok clone_Entry
theorem kCloneSeen_ok : kCloneSeen.Ok PG := Known.spec_ok clone_Seen
theorem kCloneBool_ok : kCloneBool.Ok PG := Known.spec_ok clone_bool
end Go.Wk
end

section
/- A member's place in a list, by both texts; two lists of members held against each other; two lists of flat things. -/
open Go Go.AM Go.Md
namespace Go.Wk
set_option maxRecDepth 100000
set_option maxHeartbeats 1000000

theorem wrapS {i : Nat} (h : i ≤ 2000000) : IntKind.i64.wrap ((i : Int) + 1) = ((i + 1 : Nat) : Int) := wrap64 (by omega)
theorem dec_nat {i n : Nat} : decide ((i : Int) < (n : Int)) = decide (i < n) := by simp
theorem dec_nonneg (i : Nat) : decide ((0 : Int) ≤ (i : Int)) = true := by simp

theorem mem_eq (x m : Member) : (decide (x.node = m.node) && decide (x.boot = m.boot)) = decide (x = m) := by
  cases x; cases m; simp [Bool.decide_and]

/-! ### view.Index -/
def SIdx (l : List Member) (m : Member) (i : Int) : St := { fr := [(3, .ptr 0 0 0), (7, encMembers l), (8, .int .i64 l.length), (9, .int .i64 i)], hp := [.arr true 2 [encMember m]] }
theorem idx_in (N : Nat) (l : List Member) (mm : Member) : callT env0 (N + 1) F_view_Index [encMembers l, .agg (encMember mm)] = LP env0 N 0 F_view_Index snK 0 [] N (SIdx l mm 0) := by kernel_rfl
theorem idx_step (N m : Nat) (l : List Member) (mm : Member) (i : Int) : LP env0 N 0 F_view_Index snK 0 [] (m + 1) (SIdx l mm i) =
    bif decide (i < (l.length : Int)) then bif decide (0 ≤ i) && decide (i < (l.length : Int)) then
      bif decide ((l.getD i.toNat default).node = mm.node) && (decide ((l.getD i.toNat default).boot = mm.boot) && true) then some (.int .i64 i)
      else LP env0 N 0 F_view_Index snK 0 [] m (SIdx l mm (IntKind.i64.wrap (i + 1)))
    else none else some (.int .i64 (-1)) := by kernel_rfl

theorem idx_loop {N : Nat} {l : List Member} {mm : Member} (hl : l.length ≤ LB) : ∀ d i m, i + d = l.length → d < m → LP env0 N 0 F_view_Index snK 0 [] m (SIdx l mm (i : Nat)) = some (.int .i64 (idxFrom mm (l.drop i) i)) := by
  unfold LB at hl
  intro d
  induction d with
  | zero =>
    intro i m hi hm
    obtain ⟨m, rfl⟩ : ∃ k, m = k + 1 := ⟨m - 1, by omega⟩
    rw [idx_step, dec_nat, decide_eq_false (by omega), cond_false, List.drop_eq_nil_of_le (by omega)]
    rfl
  | succ d ih =>
    intro i m hi hm
    obtain ⟨m, rfl⟩ : ∃ k, m = k + 1 := ⟨m - 1, by omega⟩
    rw [idx_step, dec_nat, decide_eq_true (by omega), dec_nonneg, drop_cons (z := default) (by omega : i < l.length)]
    simp only [cond_true, Bool.and_true, Int.toNat_natCast, mem_eq, idxFrom]
    by_cases h : l.getD i default = mm
    · simp only [decide_eq_true h, cond_true, if_pos h]
    · simp only [decide_eq_false h, cond_false, if_neg h]
      rw [wrapS (by omega), ih (i + 1) m (by omega) (by omega)]

/-! ### lockgateref16.Index -/
def SRIdx (l : List Member) (m : Member) (i : Int) : St := { fr := [(0, encMembers l), (3, .ptr 0 0 0), (5, .int .i64 i)], hp := [.arr true 2 [encMember m]] }
theorem ridx_in (N : Nat) (l : List Member) (mm : Member) : callT env0 (N + 1) F_lockgateref16_Index [encMembers l, .agg (encMember mm)] = LP env0 N 0 F_lockgateref16_Index snK 0 [] N (SRIdx l mm 0) := by kernel_rfl
theorem ridx_step (N m : Nat) (l : List Member) (mm : Member) (i : Int) : LP env0 N 0 F_lockgateref16_Index snK 0 [] (m + 1) (SRIdx l mm i) =
    bif decide (i < (l.length : Int)) then bif decide (0 ≤ i) && decide (i < (l.length : Int)) then
      bif decide ((l.getD i.toNat default).node = mm.node) then bif decide (0 ≤ i) && decide (i < (l.length : Int)) then
        bif decide ((l.getD i.toNat default).boot = mm.boot) then some (.int .i64 i)
        else LP env0 N 0 F_lockgateref16_Index snK 0 [] m (SRIdx l mm (IntKind.i64.wrap (i + 1)))
        else none
      else LP env0 N 0 F_lockgateref16_Index snK 0 [] m (SRIdx l mm (IntKind.i64.wrap (i + 1)))
    else none else some (.int .i64 (-1)) := by kernel_rfl

theorem ridx_loop {N : Nat} {l : List Member} {mm : Member} (hl : l.length ≤ LB) : ∀ d i m, i + d = l.length → d < m → LP env0 N 0 F_lockgateref16_Index snK 0 [] m (SRIdx l mm (i : Nat)) = some (.int .i64 (idxFrom mm (l.drop i) i)) := by
  unfold LB at hl
  intro d
  induction d with
  | zero =>
    intro i m hi hm
    obtain ⟨m, rfl⟩ : ∃ k, m = k + 1 := ⟨m - 1, by omega⟩
    rw [ridx_step, dec_nat, decide_eq_false (by omega), cond_false, List.drop_eq_nil_of_le (by omega)]
    rfl
  | succ d ih =>
    intro i m hi hm
    obtain ⟨m, rfl⟩ : ∃ k, m = k + 1 := ⟨m - 1, by omega⟩
    rw [ridx_step, dec_nat, decide_eq_true (by omega), dec_nonneg, drop_cons (z := default) (by omega : i < l.length)]
    simp only [cond_true, Bool.and_true, Int.toNat_natCast, idxFrom]
    have hm' := mem_eq (l.getD i default) mm
    by_cases h : l.getD i default = mm
    · rw [decide_eq_true h] at hm'
      obtain ⟨h1, h2⟩ := and_true' hm'
      simp only [h1, h2, cond_true, if_pos h]
    · rw [decide_eq_false h] at hm'
      simp only [if_neg h]
      rw [wrapS (by omega), ih (i + 1) m (by omega) (by omega)]
      cases h1 : decide ((l.getD i default).node = mm.node) with
      | false => rfl
      | true =>
        rw [h1, Bool.true_and] at hm'
        simp only [cond_true, hm', cond_false]

abbrev LM := List Member × Member
def decLM (a : List AV) : LM := (decL decMember (a.getD 0 .nils), decMember (argC a 1))
def preLM (x : LM) : Prop := x.1.length ≤ LB
def encLM (x : LM) : List AV := [encMembers x.1, .agg (encMember x.2)]
theorem dec_encLM (x : LM) : decLM (encLM x) = x := by
  show (decL decMember (encMembers x.1), decMember (encMember x.2)) = x
  rw [decMembers, dec_encMember]
theorem qLM {R : Type} {l : List Member} {m : Member} {k : LM → Option R} (h : l.length ≤ LB) : gC decLM preLM encLM [encMembers l, .agg (encMember m)] k = k (l, m) := gC_eq (l, m) (Prod.ext (decMembers l) rfl) h (.refl _)
noncomputable def kIndex : Known := .spec F_view_Index decLM preLM encLM (fun x => .int .i64 (idx x.1 x.2))
noncomputable def kRIndex : Known := .spec F_lockgateref16_Index decLM preLM encLM (fun x => .int .i64 (idx x.1 x.2))
theorem kIndex_ok : kIndex.Ok PG := Known.spec_ok fun x h => by
  have := (idx_in (x.1.length + 1) x.1 x.2).trans (idx_loop (N := x.1.length + 1) (mm := x.2) h x.1.length 0 (x.1.length + 1) (by omega) (by omega))
  exact con0 this
theorem kRIndex_ok : kRIndex.Ok PG := Known.spec_ok fun x h => by
  have := (ridx_in (x.1.length + 1) x.1 x.2).trans (ridx_loop (N := x.1.length + 1) (mm := x.2) h x.1.length 0 (x.1.length + 1) (by omega) (by omega))
  exact con0 this
end Go.Wk
end
