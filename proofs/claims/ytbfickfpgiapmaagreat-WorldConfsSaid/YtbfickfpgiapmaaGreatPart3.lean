/- Part 3 of the texts that the proof needs: the abstract machine, plain laws, contracts of the program's functions. No statement is claimed here. -/
import Derived.Test.YtbfickfpgiapmaaGreatPart2
import GoSem.Core.Float
import Derived.Test.YtbfickfpgiapmaaGreatProg
import Derived.KernelRfl
set_option linter.unusedVariables false
set_option linter.unusedSimpArgs false
section
/- From the abstract machine's 'true' to a law's contract. -/
set_option linter.unusedVariables false
set_option linter.unusedSimpArgs false
namespace Go.AM

def argOf (P : Program) (t : TypeId) (av : List AV) : AV :=
  match P.underlying t with
  | some (.struct _) => .agg av
  | _ => av.headD .undef

/-- the arguments of a law -/
def Args (P : Program) (N : Nat) : List TypeId → List AV → Prop
  | [], vs => vs = []
  | t :: ts, vs => ∃ av r, Shape P N t av ∧ vs = argOf P t av :: r ∧ Args P N ts r

section
variable {H : Type} {enc : TypeId × Value → H} {P : Program} {W W' : World} {I : Nat → Prop}

theorem arg_ok (hI : ∀ B, B < W.heap.size → I B) {N base : Nat} {t : TypeId} {v : Value} {d : DataW H} {ps : List MemPlace} (hg : goodT P N t = true) (hval : Value.okWide P W .any base t v)
    (h : DataW.Trod enc P W 0 (fun _ => true) true t v d ps) : ∃ av, Shape P N t av ∧ RV W I Phi.no (argOf P t av) v := by
  obtain ⟨m, hm⟩ := h
  cases N with
  | zero => cases hg
  | succ N =>
    have hlen : v.cells.toList.length = P.cellsOf t ∧ ((∃ fs, P.underlying t = some (.struct fs)) → ∃ cs, v = .agg cs) ∧ ((∀ fs, P.underlying t ≠ some (.struct fs)) → v.cells.toList = [v]) := by
      have hg' := hg
      unfold goodT at hg'
      unfold Value.okWide at hval
      cases hu : P.underlying t with
      | none => rw [hu] at hg'; cases hg'
      | some u =>
        rw [hu] at hg' hval
        cases u <;> simp only at hg' hval <;> try (cases hg'; done)
        case struct fs =>
          obtain ⟨cs, rfl, hs, _⟩ := hval
          refine ⟨by simpa [Value.cells] using hs, fun _ => ⟨cs, rfl⟩, fun h => absurd rfl (h fs)⟩
        case slice e =>
          have := Nat.eq_of_beq_eq_true (and_true' hg').1
          unfold Cell.okWide Cell.ok at hval
          rw [hu] at hval
          cases v <;> simp at hval <;> exact ⟨by simp [Value.cells, this], fun ⟨fs, e⟩ => (by cases e), fun _ => by simp [Value.cells]⟩
        all_goals
          have := Nat.eq_of_beq_eq_true hg'
          unfold Cell.okWide Cell.ok at hval
          rw [hu] at hval
          cases v <;> simp at hval <;> exact ⟨by simp [Value.cells, this], fun ⟨fs, e⟩ => (by cases e), fun _ => by simp [Value.cells]⟩
    obtain ⟨h1, h2, h3⟩ := hlen
    obtain ⟨av, g1, g2, g3⟩ := read_ok hI (N + 1) t _ hg h1 ⟨m, _, hm⟩
    refine ⟨av, g1, ?_⟩
    unfold argOf
    by_cases hs : ∃ fs, P.underlying t = some (.struct fs)
    · obtain ⟨cs, rfl⟩ := h2 hs
      obtain ⟨fs, hfs⟩ := hs
      rw [hfs]
      simp only [Value.cells] at g2 g3
      refine .agg _ _ (by simpa using g2) (fun k u e => ?_) (fun k c u e e' => ?_)
      · have hk : k < av.length := by
          rw [g2]; simpa using (Array.getElem?_eq_some_iff.1 e).1
        exact (g3 k av[k] u (List.getElem?_eq_getElem hk) (by rw [Array.getElem?_toList]; exact e)).2
      · exact (g3 k c u e (by rw [Array.getElem?_toList]; exact e')).1
    · have hs : ∀ fs, P.underlying t ≠ some (.struct fs) := fun fs e => hs ⟨fs, e⟩
      have h3 := h3 hs
      rw [h3] at g2 g3
      have : ∃ c, av = [c] := by
        match av, g2 with
        | [c], _ => exact ⟨c, rfl⟩
      obtain ⟨c, rfl⟩ := this
      have := (g3 0 c v rfl rfl).1
      split
      · rename_i fs e; exact absurd e (hs fs)
      · exact this

theorem args_ok (hI : ∀ B, B < W.heap.size → I B) {N base : Nat} : ∀ {ts : List TypeId} {vs : List Value} {ds : List (DataW H)} {ps : List MemPlace}, (∀ t ∈ ts, goodT P N t = true) →
    (∀ (j : Nat) t v, ts[j]? = some t → vs[j]? = some v → Value.okWide P W .any base t v) → DataW.TrodAll enc P W 0 (fun _ => true) true ts vs ds ps →
    ∃ avs, Args P N ts avs ∧ avs.length = vs.length ∧ ∀ (k : Nat) c u, avs[k]? = some c → vs[k]? = some u → RV W I Phi.no c u
  | [], [], [], ps, _, _, _ => ⟨[], rfl, rfl, fun k c u e => by simp at e⟩
  | t :: ts, v :: vs, d :: ds, ps, hg, hval, ⟨p, q, h1, h2, _⟩ => by
    obtain ⟨avs, g1, g2, g3⟩ := args_ok hI (fun t ht => hg t (by simp [ht])) (fun j t v e e' => hval (j + 1) t v (by simpa using e) (by simpa using e')) h2
    obtain ⟨av, g4, g5⟩ := arg_ok hI (hg t (by simp)) (hval 0 t v rfl rfl) h1
    refine ⟨argOf P t av :: avs, ⟨av, avs, g4, rfl, g1⟩, by simp [g2], fun k c u e e' => ?_⟩
    cases k with
    | zero => simp at e e'; subst e; subst e'; exact g5
    | succ k => exact g3 k c u (by simpa using e) (by simpa using e')
  | [], [], _ :: _, _, _, _, h => h.elim
  | [], _ :: _, _, _, _, _, h => h.elim
  | _ :: _, [], _, _, _, _, h => h.elim
  | _ :: _, _ :: _, [], _, _, _, h => h.elim

/-- as 'post_of_same', but for new memory, which may be frozen -/
theorem post_of_old {f : Func} {s : ChangeSpec} {apart fresh handsOn again : Bool} {args : Array Value} {v : Value} {ds gs : List (DataW H)} {before pa pv : List MemPlace}
    (hW : DataW.Whole enc P f.params.toList s.vars apart W args.toList ds gs before)
    (hres : ∀ (b : Nat) (sp : Nat → Bool) (hd : Bool), DataW.TrodAll enc P W' b sp hd f.resultTypes.toList (v.resultList f.resultTypes.size) (s.fn H (ds ++ gs)).results [])
    (hargs : ∀ sp : Nat → Bool, (∀ p ∈ before, sp p.block = true) → DataW.TrodAll enc P W' 0 sp true f.params.toList args.toList (s.fn H (ds ++ gs)).args pa)
    (hvars : ∀ sp : Nat → Bool, (∀ p ∈ before, sp p.block = true) → DataW.TrodVars enc P W' sp s.vars (s.fn H (ds ++ gs)).vars pv)
    (hps : before = pa ++ pv) (hb : RowKit.Below W.heap.size W W')
    (hok : ∀ (j : Nat) (t : TypeId) (r : Value), f.resultTypes[j]? = some t → (v.resultList f.resultTypes.size)[j]? = some r → Value.okWide P W' .any 0 t r) :
    s.post enc P f apart fresh handsOn again W args v W' := by
  have hold : ∀ p ∈ before, (fun b => decide (b < W.heap.size)) p.block = true := fun p hp => by simpa using hW.lt p hp
  have hlt := hW.lt
  refine ⟨ds, gs, before, [], pa, pv, hW, hres _ _ _, hargs _ hold, hvars _ hold, World.keptBut_mono (fun p hp => ⟨hp, ?_⟩) (hb.frame (· ∈ before)), fun _ => ?_⟩
  · rw [hps, List.mem_append] at hp
    exact Or.inr hp
  · obtain ⟨_, _, _, _, _, hz, hn⟩ := hW
    refine ⟨hok, _, _, ([] ++ pa) ++ pv, ⟨[] ++ pa, pv, ChangeShapes.trodAll_append (hargs _ (fun _ _ => rfl)) (hres _ _ _), hvars _ (fun _ _ => rfl), rfl, ?_, ?_⟩, ?_⟩
    · intro b off hp
      have hp' : MemPlace.cell b off ∈ before := by rw [hps]; simpa using hp
      rw [hb.frozen (p := ⟨b, off, none⟩) (hlt _ hp')]
      exact hz b off hp'
    · intro ha
      have := hn ha
      rw [hps] at this
      simpa using this
    · intro p hp _
      rw [hps]
      simpa using hp

theorem trodAll_stays (hl : laidOutB P = true) (hb : RowKit.Below W.heap.size W W') {sp : Nat → Bool} : ∀ {ts : List TypeId} {vs : List Value} {ds : List (DataW H)} {ps : List MemPlace}, (∀ t ∈ ts, P.readableRec t = true ∧ t < P.types.size) →
    DataW.TrodAll enc P W 0 (fun _ => true) true ts vs ds ps → (∀ x ∈ ps, x.block < W.heap.size) → (∀ x ∈ ps, sp x.block = true) → DataW.TrodAll enc P W' 0 sp true ts vs ds ps
  | [], [], [], ps, _, h, _, _ => h
  | t :: ts, v :: vs, d :: ds, ps, hr, ⟨p, q, h1, h2, e⟩, hlt, hsp => by
    subst e
    refine ⟨p, q, WideElems.Trod_stays hl (hr t (by simp)).1 (hr t (by simp)).2 h1 (fun x hx => hb.same (hlt x (by simp [hx]))) (fun x hx => hsp x (by simp [hx])),
      trodAll_stays hl hb (fun t ht => hr t (by simp [ht])) h2 (fun x hx => hlt x (by simp [hx])) (fun x hx => hsp x (by simp [hx])), rfl⟩
  | [], [], _ :: _, _, _, h, _, _ => h.elim
  | [], _ :: _, _, _, _, h, _, _ => h.elim
  | _ :: _, [], _, _, _, h, _, _ => h.elim
  | _ :: _, _ :: _, [], _, _, h, _, _ => h.elim

/-- every value that reads as the one reads as the other -/
def SubV (c c' : AV) : Prop := ∀ (w : World) (I : Nat → Prop) (u : Value), RV w I Phi.no c u → RV w I Phi.no c' u
def SubC (cs cs' : List AV) : Prop := cs.length = cs'.length ∧ ∀ (k : Nat) c c', cs[k]? = some c → cs'[k]? = some c' → SubV c c'

theorem SubV.refl (c : AV) : SubV c c := fun _ _ _ h => h
theorem SubC.refl (cs : List AV) : SubC cs cs := ⟨rfl, fun k c c' e e' => by rw [e] at e'; cases e'; exact .refl _⟩
theorem SubC.nil : SubC [] [] := .refl _
theorem SubC.cons {c c' : AV} {cs cs' : List AV} (h : SubV c c') (h' : SubC cs cs') : SubC (c :: cs) (c' :: cs') := by
  refine ⟨by simp [h'.1], fun k x x' e e' => ?_⟩
  cases k with
  | zero => simp at e e'; subst e; subst e'; exact h
  | succ k => exact h'.2 k x x' (by simpa using e) (by simpa using e')

theorem SubC.get {cs cs' : List AV} (h : SubC cs cs') {k : Nat} {c' : AV} (e : cs'[k]? = some c') : ∃ c, cs[k]? = some c ∧ SubV c c' := by
  have hk : k < cs.length := by rw [h.1]; exact (List.getElem?_eq_some_iff.1 e).1
  exact ⟨cs[k], List.getElem?_eq_getElem hk, h.2 k _ c' (List.getElem?_eq_getElem hk) e⟩

theorem SubV.tr {sz : Nat} {es : List (List AV)} {f : Nat → List AV} (h : ∀ i, i < es.length → SubC (es.getD i []) (f i)) : SubV (.trl sz es) (.tr sz es.length f) := by
  intro w I u hv
  cases hv with
  | trl _ _ _ hv hz =>
    generalize hn : es.length = n at *
    generalize hf : (fun i => es.getD i []) = g at hv
    have hg : ∀ i, g i = es.getD i [] := fun i => by rw [← hf]
    cases hv with
    | tr _ _ _ B o cap uf hI hn' hlen hc h1 hr =>
      refine .tr sz n f B o cap uf hI hn' (fun i hi => ?_) (fun i k c hi e => ?_) (fun i k c hi e => ?_) (fun i k c hi e => ?_)
      · rw [← (h i hi).1, ← hg]; exact hlen i hi
      · obtain ⟨c0, e0, _⟩ := (h i hi).get e
        rw [← hg] at e0; exact hc i k c0 hi e0
      · obtain ⟨c0, e0, _⟩ := (h i hi).get e
        rw [← hg] at e0; exact h1 i k c0 hi e0
      · obtain ⟨c0, e0, hs⟩ := (h i hi).get e
        rw [← hg] at e0; exact hs _ _ _ (hr i k c0 hi e0)
    | trn => exact .trn _ _ _

theorem SubV.agg {cs cs' : List AV} (h : SubC cs cs') : SubV (.agg cs) (.agg cs') := by
  intro w I u hv
  cases hv with
  | agg _ vs hl h1 hr =>
    refine .agg _ _ (h.1.symm.trans hl) h1 fun k c u e e' => ?_
    obtain ⟨c0, e0, hs⟩ := h.get e
    exact hs _ _ _ (hr k c0 u e0 e')

/-- the abstract machine says 'true', at whatever arguments of the types -/
def LawOk (P : Program) (env : Env) (N f : Nat) (ts : List TypeId) : Prop :=
  ∀ avs, Args P N ts avs → ∃ avs' n hp, SubC avs avs' ∧ evFn (R := AV × Heap) env n f avs' [] (fun r h => some (r, h)) = some (.bool true, hp)

theorem law_post {env : Env} {N base f tb : Nat} {fn : Func} {s : ChangeSpec} (henv : EnvOk P env) (hcode : CodeOk P env) (hm : P.follows .mixedOrders = true) (hfn : P.funcs[f]? = some fn) (hbody : fn.body.isNone = false)
    (hname : (fn.name == "runtime.NumGoroutine") = false)
    (hvars : s.vars = []) (hrt : fn.resultTypes = #[tb]) (hbool : P.underlying tb = some .bool)
    (hspec : ∀ ds : List (DataW H), ds.length = fn.params.toList.length → s.fn H ds = { results := [.lit (.bool true)], args := ds })
    (hlaid : laidOutB P = true) (hread : ∀ t ∈ fn.params.toList, P.readableRec t = true ∧ t < P.types.size) (hgood : ∀ t ∈ fn.params.toList, goodT P N t = true)
    (hlaw : LawOk P env N f fn.params.toList) {args : Array Value} {ds gs : List (DataW H)} {before : List MemPlace}
    (hval : ∀ (j : Nat) t v, fn.params[j]? = some t → args[j]? = some v → Value.okWide P W .any base t v) (hW : DataW.Whole enc P fn.params.toList s.vars false W args.toList ds gs before) :
    Calls P f args W fun e W' => ∃ v, e = .returned v ∧ s.post enc P fn false true false false W args v W' := by
  have hW' := hW
  obtain ⟨p, q, hA, hV, rfl, hfz, hnd⟩ := hW
  rw [hvars] at hV
  have hgs : gs = [] ∧ q = [] := by
    cases gs with
    | nil => exact ⟨rfl, hV⟩
    | cons g gs => exact hV.elim
  obtain ⟨rfl, rfl⟩ := hgs
  have hlt := hW'.lt
  simp only [List.append_nil] at hlt hW'
  let I : Nat → Prop := fun B => B < W.heap.size
  obtain ⟨avs, h1, h2, h3⟩ := args_ok (I := I) (fun _ h => h) hgood (fun j t v e e' => hval j t v (by rwa [Array.getElem?_toList] at e) (by rwa [Array.getElem?_toList] at e')) hA
  obtain ⟨avs', n, hp, hsub, hrun⟩ := hlaw avs h1
  obtain ⟨res, hp', k1, _, hc⟩ := ev_ok henv hcode hm n f avs' [] _ _ hrun
  cases k1
  have hans := hc W I Phi.no args (RH.empty W I fun _ h => h) ⟨by rw [← hsub.1]; simpa using h2, fun k x u e e' => by
    obtain ⟨c0, e0, hs⟩ := hsub.get e
    exact hs _ _ _ (h3 k c0 u e0 (by rw [Array.getElem?_toList]; exact e'))⟩
  have hpost : ∀ u W', (∃ φ' I', RV W' I' φ' (.bool true) u ∧ RH W' I' φ' (hget hp) ∧ Step ([] : Heap).length (hget []) Phi.no I W (hget hp) φ' I' W') → s.post enc P fn false true false false W args u W' := by
    rintro u W' ⟨φ', I', g1, _, g2⟩
    cases g1
    have hb : RowKit.Below W.heap.size W W' := ⟨g2.ext.os, g2.ext.tape, g2.ext.output, g2.ext.size, fun k hk => g2.ext.keep k hk fun hm => not_mut_nil hm⟩
    have hds : ds.length = fn.params.toList.length := by
      have : ∀ {ts : List TypeId} {vs : List Value} {ds : List (DataW H)} {ps : List MemPlace}, DataW.TrodAll enc P W 0 (fun _ => true) true ts vs ds ps → ds.length = ts.length := by
        intro ts
        induction ts with
        | nil => intro vs ds ps h; cases vs <;> cases ds <;> first | rfl | exact h.elim
        | cons t ts ih => intro vs ds ps h; cases vs <;> cases ds <;> first | exact h.elim | (obtain ⟨_, _, _, h, _⟩ := h; simp [ih h])
      exact this hA
    have hsp := hspec ds hds
    have hone : (Value.bool true).resultList 1 = [.bool true] := rfl
    refine post_of_old (pa := p) (pv := []) hW' (fun b sp hd => ?_) (fun sp hs => ?_) (fun _ _ => ?_) (by simp) hb (RowKit.ok_one hrt rfl (RowKit.okWide_bool_mk hbool _))
    · rw [List.append_nil, hsp, hrt]
      exact ⟨[], [], ⟨1, by simp [DataW.trod, hbool, Value.cells]⟩, rfl, rfl⟩
    · rw [List.append_nil, hsp]
      exact trodAll_stays hlaid hb hread hA hlt hs
    · rw [List.append_nil, hsp, hvars]
      rfl
  rcases hans with ⟨_, h⟩ | ⟨u, W', h, _⟩
  · exact Calls.mono h fun e W' ⟨u, he, hu⟩ => ⟨u, he, hpost u W' hu⟩
  · simp only [callFunc, Sem.run_bind, run_program, Result.andThen_ok, hfn, hname, hbody, Bool.false_eq_true, if_false, Sem.run_pure] at h
    cases h

end
end Go.AM
end

section
/- Environments over a program: the code is let by where it is sound, one function at a time. -/
set_option linter.unusedVariables false
set_option linter.unusedSimpArgs false
namespace Go.AM

def codeGood (fn : Func) : Bool :=
  match fn.body with
  | some c => okCode c && !(fn.name == "runtime.NumGoroutine")
  | none => false

/-- the program's code, where the abstract machine may run it -/
def codeOf (P : Program) (f : Nat) : Option Func :=
  match P.funcs[f]? with
  | some fn => bif codeGood fn then some fn else none
  | none => none

theorem codeOf_ok {P : Program} {env : Env} (h : env.code = codeOf P) : CodeOk P env := by
  intro f fn hf
  rw [h] at hf
  unfold codeOf at hf
  cases e : P.funcs[f]? with
  | none => rw [e] at hf; cases hf
  | some fn' =>
    rw [e] at hf
    obtain ⟨hg, hf⟩ := cond_some hf
    cases hf
    unfold codeGood at hg
    cases hb : fn.body with
    | none => rw [hb] at hg; cases hg
    | some c =>
      rw [hb] at hg
      obtain ⟨h1, h2⟩ := and_true' hg
      refine ⟨rfl, rfl, by simpa using h2, fun c' e' => ?_⟩
      cases e'
      exact h1

theorem tt_ok {P : Program} {env : Env} (h : env.tt = tiOf P) : TTok P env.tt := fun t x e => by rw [h] at e; exact e

def nmem (x : Nat) : List Nat → Bool
  | [] => false
  | y :: r => bif Nat.beq x y then true else nmem x r

def liveOf (f b : Nat) : List (Nat × Nat × List Nat) → List Nat
  | [] => []
  | (f', b', l) :: r => bif Nat.beq f f' && Nat.beq b b' then l else liveOf f b r

/-- contracts that are known -/
structure Known where
  f : Nat
  ans : List AV → Heap → Option Answer

def orcOf : List Known → Nat → List AV → Heap → Option Answer
  | [], _, _, _ => none
  | k :: r, f, args, hp => bif Nat.beq k.f f then k.ans args hp else orcOf r f args hp

def Known.Ok (P : Program) (k : Known) : Prop := ∀ args hp A, k.ans args hp = some A → A.g = true → Contract P k.f args hp (A.r A.a).1 (A.r A.a).2 ∧ hp.length ≤ (A.r A.a).2.length

theorem orc_ok {P : Program} : ∀ {l : List Known}, (∀ k ∈ l, k.Ok P) → ∀ f args hp A, orcOf l f args hp = some A → A.g = true → Contract P f args hp (A.r A.a).1 (A.r A.a).2 ∧ hp.length ≤ (A.r A.a).2.length
  | [], _, f, args, hp, A, h => by cases h
  | k :: l, hl, f, args, hp, A, h => by
    unfold orcOf at h
    cases e : Nat.beq k.f f with
    | true =>
      rw [e] at h
      have e := Nat.eq_of_beq_eq_true e
      subst e
      exact hl k (by simp) args hp A h
    | false =>
      rw [e] at h
      exact orc_ok (fun k hk => hl k (by simp [hk])) f args hp A h

/-- a run of the abstract machine is a contract -/
theorem contract_of {P : Program} {env : Env} (henv : EnvOk P env) (hcode : CodeOk P env) (hm : P.follows .mixedOrders = true) {n f : Nat} {args : List AV} {r : AV} {hp : Heap}
    (h : evFn (R := AV × Heap) env n f args [] (fun r h => some (r, h)) = some (r, hp)) : Contract P f args [] r hp := by
  obtain ⟨res, hp', k1, _, hc⟩ := ev_ok henv hcode hm n f args [] _ _ h
  cases k1
  exact hc

/-- a value that leads nowhere: the blocks are let go -/
theorem Contract.bare {P : Program} {f : Nat} {args : List AV} {r : AV} {hp : Heap} (h : Contract P f args [] r hp) (hf : refFree r = true) (ht : hasTree r = false) : Contract P f args [] r [] := by
  intro w I φ ra hh hx
  refine (h w I φ ra hh hx).mono fun u w' ⟨φ', I', h1, h2, h3⟩ => ?_
  refine ⟨Phi.no, I, (h1.free hf).treeless I ht, RH.empty w' I fun B hB => Nat.lt_of_lt_of_le (hh.lt B hB) h3.ext.size, fun b p hb => absurd hb (Nat.not_lt_zero b), fun _ h => h, fun _ h => .inl h, fun B hB => (not_mut_nil hB).elim, h3.ext⟩

end Go.AM
end

section
/- Answers as trees; weaker contracts; points of a function's code, from which a run is told by equations. -/
set_option linter.unusedVariables false
set_option linter.unusedSimpArgs false
namespace Go.AM

/-- the answer as a tree -/
def snK (r : AV) (h : Heap) : Option AV :=
  match snapG depth (hget h) r with
  | some (r, _, g) => bif g then some r else .none
  | .none => .none

theorem Contract.snapped {P : Program} {f : Nat} {args : List AV} {res r : AV} {hp' : Heap} (hc : Contract P f args [] res hp') (h : snK res hp' = some r) : Contract P f args [] r [] := by
  unfold snK at h
  split at h
  · rename_i r1 l1 g1 hs1
    obtain ⟨hg, h⟩ := cond_some h
    subst hg
    cases h
    replace hs1 := ungard_some.2 hs1
    intro w I φ ra hh hx
    refine (hc w I φ ra hh hx).mono fun u w' ⟨φ', I', h1, h2, h3⟩ => ?_
    obtain ⟨s1, s2⟩ := (snap_ok h2 depth).1 _ _ _ hs1
    have hr := s2 (fun B => I' B ∨ InL φ' l1 B) (fun B hB => .inl hB) (fun B hB => .inr hB) u h1
    refine ⟨Phi.no, fun B => I' B ∨ InL φ' l1 B, hr, RH.empty w' _ fun B hB => hB.elim (h2.lt B) (inL_lt h2 s1), fun b p hb => absurd hb (Nat.not_lt_zero b), fun B hB => .inl (h3.Ile B hB), ?_, fun B hB => (not_mut_nil hB).elim, h3.ext⟩
    rintro B (hB | ⟨b, hb, o, sz, e⟩)
    · exact h3.Inew B hB
    · cases hm : mutable (hget hp' b) with
      | true => exact .inr ((h3.mt B ⟨b, o, sz, hm, e⟩).imp id id)
      | false => exact h3.Inew B (h2.imm b B o sz (s1 b hb) hm e)
  · cases h

/-- a call on a heap of its own, the answer a tree -/
def callT (env : Env) (n f : Nat) (args : List AV) : Option AV := evFn (R := AV) env n f args [] snK

theorem callT_ok {P : Program} {env : Env} (henv : EnvOk P env) (hcode : CodeOk P env) (hm : P.follows .mixedOrders = true) {n f : Nat} {args : List AV} {r : AV}
    (h : callT env n f args = some r) : Contract P f args [] r [] := by
  obtain ⟨res, hp', k1, _, hc⟩ := ev_ok henv hcode hm n f args [] _ _ h
  exact hc.snapped k1

theorem phi_nil {w : World} {I : Nat → Prop} {φ : Phi} (h : RH w I φ (hget [])) : φ = Phi.no := by
  funext b
  exact h.none b (hget_nil b)

theorem Contract.args {P : Program} {f : Nat} {args args' : List AV} {r : AV} {bs : Heap} (h : Contract P f args' [] r bs) (hs : SubC args args') : Contract P f args [] r bs := by
  intro w I φ ra hh hx
  have := phi_nil hh
  subst this
  refine h w I Phi.no ra hh ⟨by rw [← hs.1]; exact hx.1, fun k x u e e' => ?_⟩
  obtain ⟨c0, e0, hv⟩ := hs.get e
  exact hv _ _ _ (hx.2 k c0 u e0 e')

theorem Contract.res {P : Program} {f : Nat} {args : List AV} {r r' : AV} (h : Contract P f args [] r []) (hs : SubV r r') : Contract P f args [] r' [] := by
  intro w I φ ra hh hx
  refine (h w I φ ra hh hx).mono fun u w' ⟨φ', I', h1, h2, h3⟩ => ?_
  have := phi_nil h2
  subst this
  exact ⟨Phi.no, I', hs _ _ _ h1, h2, h3⟩

theorem SubV.trans {a b c : AV} (h : SubV a b) (h' : SubV b c) : SubV a c := fun w I u hv => h' w I u (h w I u hv)
theorem SubC.trans {a b c : List AV} (h : SubC a b) (h' : SubC b c) : SubC a c := by
  refine ⟨h.1.trans h'.1, fun k x z e e' => ?_⟩
  obtain ⟨y, e1, h1⟩ := h'.get e'
  exact (h.2 k x y e e1).trans h1

/-- no elements: whatever stands behind -/
theorem SubV.nils {sz : Nat} {f : Nat → List AV} : SubV .nils (.tr sz 0 f) := by
  intro w I u hv
  cases hv with
  | nils => exact .trn sz f none

theorem SubV.trs {sz n : Nat} {f g : Nat → List AV} (h : ∀ i, i < n → SubC (f i) (g i)) : SubV (.tr sz n f) (.tr sz n g) := by
  intro w I u hv
  cases hv with
  | tr _ _ _ B o cap uf hI hn' hlen hc h1 hr =>
    refine .tr sz n g B o cap uf hI hn' (fun i hi => ?_) (fun i k c hi e => ?_) (fun i k c hi e => ?_) (fun i k c hi e => ?_)
    · rw [← (h i hi).1]; exact hlen i hi
    · obtain ⟨c0, e0, _⟩ := (h i hi).get e
      exact hc i k c0 hi e0
    · obtain ⟨c0, e0, _⟩ := (h i hi).get e
      exact h1 i k c0 hi e0
    · obtain ⟨c0, e0, hs⟩ := (h i hi).get e
      exact hs _ _ _ (hr i k c0 hi e0)
  | trn _ _ a => exact .trn sz g a

theorem SubV.tup {cs cs' : List AV} (h : SubC cs cs') : SubV (.tup cs) (.tup cs') := by
  intro w I u hv
  cases hv with
  | tup _ vs hl hr =>
    refine .tup _ _ (h.1.symm.trans hl) fun k c u e e' => ?_
    obtain ⟨c0, e0, hs⟩ := h.get e
    exact hs _ _ _ (hr k c0 u e0 e')

/-! ### points of a function's code -/

/-- steps into a code: into the first or the second part, a body; into a loop's body, with so much fuel behind it -/
inductive PE where
  | L
  | R
  | lp (m : Nat)

def sub : Code → List PE → Code
  | c, [] => c
  | .seq a _, .L :: p => sub a p
  | .seq _ b, .R :: p => sub b p
  | .cond _ a _, .L :: p => sub a p
  | .cond _ _ b, .R :: p => sub b p
  | .block _ a, _ :: p => sub a p
  | .loop a, _ :: p => sub a p
  | .scope a, _ :: p => sub a p
  | c, _ :: _ => c

def curAt : Nat → Code → List PE → Nat
  | cur, _, [] => cur
  | cur, .seq a _, .L :: p => curAt cur a p
  | cur, .seq _ b, .R :: p => curAt cur b p
  | cur, .cond _ a _, .L :: p => curAt cur a p
  | cur, .cond _ _ b, .R :: p => curAt cur b p
  | _, .block id a, _ :: p => curAt id a p
  | cur, .loop a, _ :: p => curAt cur a p
  | cur, .scope a, _ :: p => curAt cur a p
  | cur, _, _ :: _ => cur

section
variable {R : Type} (env : Env) (run : CallK R) (fn nt n base : Nat) (jump : Code → Nat → CodeK R)

/-- what follows behind the point p of a code -/
def contOf : Nat → Code → List PE → (AX → St → Option R) → AX → St → Option R
  | _, _, [], k => k
  | cur, .seq a b, .L :: p, k => contOf cur a p fun e s' => match e with
    | .normal => evC1 env run fn nt n base jump cur b k s'
    | e => k e s'
  | cur, .seq _ b, .R :: p, k => contOf cur b p k
  | cur, .cond _ a _, .L :: p, k => contOf cur a p k
  | cur, .cond _ _ b, .R :: p, k => contOf cur b p k
  | _, .block id a, _ :: p, k => contOf id a p fun e s' => match e with
    | .exit id' => bif Nat.beq id' id then k .normal s' else k (.exit id') s'
    | e => k e s'
  | cur, .loop a, .lp m :: p, k => contOf cur a p fun e s' => match e with
    | .normal => loopK (norm base (env.live fn cur)) (evC1 env run fn nt n base jump cur a) m k (norm base (env.live fn cur) s')
    | e => k e s'
  | cur, .scope a, _ :: p, k => contOf cur a p fun e s' => match e with
    | .goto l => match findLabel a l with
      | some _ => jump a l k (norm base (env.live fn (1000 + l)) s')
      | .none => k (.goto l) s'
    | e => k e s'
  | _, _, _ :: _, k => k

end

/-- what becomes of a run at a function's end -/
def endK {R : Type} (env : Env) (fn : Func) (k : AV → Heap → Option R) (e : AX) (s : St) : Option R :=
  match e with
  | .normal | .ret => resultsK env.tt s fn.results.toList fun vs => k (tupled vs) s.hp
  | _ => .none

def bodyOf (env : Env) (f : Nat) : Code := match env.code f with
  | some fn => match fn.body with
    | some c => c
    | .none => .skip
  | .none => .skip

def ntOf (env : Env) (f : Nat) : Nat := match env.code f with
  | some fn => fn.ntmps
  | .none => 0

def finK {R : Type} (env : Env) (f : Nat) (k : AV → Heap → Option R) (e : AX) (s : St) : Option R := match env.code f with
  | some fn => endK env fn k e s
  | .none => .none

/-- a run from the point p of the function f on (n: the fuel of calls and of loops; base: the blocks that stood there at its beginning) -/
def pt {R : Type} (env : Env) (n base f : Nat) (k : AV → Heap → Option R) (p : List PE) (s : St) : Option R :=
  evC1 env (evFn env n) f (ntOf env f) n base (jumpK env (evFn env n) f (ntOf env f) n base n) (curAt 0 (bodyOf env f) p) (sub (bodyOf env f) p)
    (contOf env (evFn env n) f (ntOf env f) n base (jumpK env (evFn env n) f (ntOf env f) n base n) 0 (bodyOf env f) p (finK env f k)) s

/-- the loop at the point p, with the fuel m, at its head -/
def lpt {R : Type} (env : Env) (n base f : Nat) (k : AV → Heap → Option R) (p : List PE) (m : Nat) (s : St) : Option R :=
  match sub (bodyOf env f) p with
  | .loop a => loopK (norm base (env.live f (curAt 0 (bodyOf env f) p))) (evC1 env (evFn env n) f (ntOf env f) n base (jumpK env (evFn env n) f (ntOf env f) n base n) (curAt 0 (bodyOf env f) p) a) m
      (contOf env (evFn env n) f (ntOf env f) n base (jumpK env (evFn env n) f (ntOf env f) n base n) 0 (bodyOf env f) p (finK env f k)) s
  | _ => .none

/-- the way to the loop of the block b, through loops with the fuels fs left -/
def findL (b : Nat) : Code → Nat → List Nat → Option (List PE)
  | .loop a, cur, fs => bif Nat.beq cur b then some [] else match fs with
    | m :: fs => match findL b a cur fs with
      | some p => some (.lp m :: p)
      | .none => .none
    | [] => .none
  | .seq x y, cur, fs => match findL b x cur fs with
    | some p => some (.L :: p)
    | .none => match findL b y cur fs with
      | some p => some (.R :: p)
      | .none => .none
  | .cond _ x y, cur, fs => match findL b x cur fs with
    | some p => some (.L :: p)
    | .none => match findL b y cur fs with
      | some p => some (.R :: p)
      | .none => .none
  | .block id a, _, fs => match findL b a id fs with
    | some p => some (.L :: p)
    | .none => .none
  | .scope a, cur, fs => match findL b a cur fs with
    | some p => some (.L :: p)
    | .none => .none
  | _, _, _ => .none

/-- the loop of the block b of the function f, at its head, with the fuel m -/
def LP {R : Type} (env : Env) (n base f : Nat) (k : AV → Heap → Option R) (b : Nat) (fs : List Nat) (m : Nat) (s : St) : Option R :=
  match findL b (bodyOf env f) 0 fs with
  | some p => lpt env n base f k p m s
  | .none => .none

end Go.AM
end

section
/- Contracts that are told by a function on decoded arguments, under a guard. -/
set_option linter.unusedVariables false
set_option linter.unusedSimpArgs false
namespace Go.AM

noncomputable def cd (g : Prop) : Bool := @decide g (Classical.propDecidable g)

theorem cd_iff {g : Prop} : cd g = true ↔ g := by exact @decide_eq_true_iff g (Classical.propDecidable g)

/-- the guard of a contract -/
def gP {X : Type} (dec : List AV → X) (pre : X → Prop) (enc : X → List AV) (args : List AV) : Prop := pre (dec args) ∧ SubC args (enc (dec args))

noncomputable def Known.spec {X : Type} (f : Nat) (dec : List AV → X) (pre : X → Prop) (enc : X → List AV) (out : X → AV) : Known :=
  { f := f, ans := fun args hp => match hp with
      | [] => some { X := X, g := cd (gP dec pre enc args), a := dec args, r := fun x => (out x, []) }
      | _ => none }

theorem Known.spec_ok {P : Program} {X : Type} {f : Nat} {dec : List AV → X} {pre : X → Prop} {enc : X → List AV} {out : X → AV}
    (h : ∀ x, pre x → Contract P f (enc x) [] (out x) []) : (Known.spec f dec pre enc out).Ok P := by
  intro args hp A e hg
  cases hp with
  | nil =>
    cases e
    obtain ⟨h1, h2⟩ := cd_iff.1 hg
    exact ⟨(h _ h1).args h2, Nat.le_refl _⟩
  | cons x r => cases e

/-- at one point -/
noncomputable def Known.one (f : Nat) (args : List AV) (r : AV) : Known := Known.spec (X := Unit) f (fun _ => ()) (fun _ => True) (fun _ => args) (fun _ => r)

theorem Known.one_ok {P : Program} {f : Nat} {args : List AV} {r : AV} (h : Contract P f args [] r []) : (Known.one f args r).Ok P := Known.spec_ok fun _ _ => h

/-- a guard, and what is done of what is known behind it -/
noncomputable def gX {R : Type} {X : Type} (g : Prop) (a : X) (k : X → Option R) : Option R := bif cd g then appX k a else .none

theorem gX_of {R : Type} {X : Type} {g : Prop} {a : X} {k : X → Option R} (h : g) : gX g a k = k a := by
  unfold gX; rw [cd_iff.2 h]; rfl

theorem gX_eq {R : Type} {X : Type} {dec : List AV → X} {pre : X → Prop} {enc : X → List AV} {A : List AV} {k : X → Option R} (x : X) (h1 : dec A = x) (h2 : pre x) (h3 : SubC A (enc x)) :
    gX (gP dec pre enc A) (dec A) k = k x := by
  subst h1; exact gX_of ⟨h2, h3⟩

/-- a call that is known -/
noncomputable def gC {R : Type} {X : Type} (dec : List AV → X) (pre : X → Prop) (enc : X → List AV) (A : List AV) (k : X → Option R) : Option R := gX (gP dec pre enc A) (dec A) k

theorem gC_eq {R : Type} {X : Type} {dec : List AV → X} {pre : X → Prop} {enc : X → List AV} {A : List AV} {k : X → Option R} (x : X) (h1 : dec A = x) (h2 : pre x) (h3 : SubC A (enc x)) :
    gC dec pre enc A k = k x := gX_eq x h1 h2 h3

def unD : List AV → Unit := fun _ => ()
def unP : Unit → Prop := fun _ => True
theorem gC_one {R : Type} {B A : List AV} {k : Unit → Option R} (h : SubC A B) : gC unD unP (fun _ => B) A k = k () := gC_eq () rfl trivial h

/-! ### decoding -/

def getI (cs : List AV) (i : Nat) : Int := match cs[i]? with
  | some (.int _ n) => n
  | _ => 0
def getB (cs : List AV) (i : Nat) : Bool := match cs[i]? with
  | some (.bool b) => b
  | _ => false
def getS (cs : List AV) (i : Nat) : List UInt8 := match cs[i]? with
  | some (.str s) => s
  | _ => []
def getC (cs : List AV) (i : Nat) : Nat × Nat := match cs[i]? with
  | some (.cplx _ a b) => (a, b)
  | _ => (0, 0)
/-- the cells of an argument -/
def argC (args : List AV) (i : Nat) : List AV := match args[i]? with
  | some v => v.cells
  | .none => []
def decL {X : Type} (d : List AV → X) : AV → List X
  | .tr _ n f => (List.range n).map fun i => d (f i)
  | .trl _ es => es.map d
  | _ => []
def getL {X : Type} (d : List AV → X) (cs : List AV) (i : Nat) : List X := decL d (cs.getD i .nils)

/-- a list as a tree -/
def encL {X : Type} (sz : Nat) (e : X → List AV) (z : X) (l : List X) : AV := .tr sz l.length fun i => e (l.getD i z)

theorem decL_encL {X : Type} {sz : Nat} {e : X → List AV} {d : List AV → X} {z : X} (h : ∀ x, d (e x) = x) (l : List X) : decL d (encL sz e z l) = l := by
  simp only [decL, encL, h]
  refine List.ext_getElem (by simp) fun i h1 h2 => ?_
  simp [List.getD, List.getElem?_eq_getElem h2]

theorem SubV.toTrl {sz : Nat} {f : Nat → List AV} {es : List (List AV)} (hne : 0 < es.length) (h : ∀ i, i < es.length → SubC (f i) (es.getD i [])) : SubV (.tr sz es.length f) (.trl sz es) := by
  intro w I u hv
  refine .trl _ _ _ (SubV.trs h w I u hv) ?_
  rintro rfl
  generalize es.length = n at *
  cases hv with
  | trn => cases hne

theorem SubV.encL_trl {X : Type} {sz : Nat} {e : X → List AV} {z : X} (l : List X) (hne : l ≠ []) : SubV (encL sz e z l) (.trl sz (l.map e)) := by
  have := SubV.toTrl (sz := sz) (f := fun i => e (l.getD i z)) (es := l.map e) (by simpa [List.length_pos_iff] using hne) fun i hi => by
    have hi : i < l.length := by simpa using hi
    have : (l.map e).getD i [] = e (l.getD i z) := by simp [List.getD, List.getElem?_eq_getElem hi]
    rw [this]; exact .refl _
  rwa [List.length_map] at this

/-! ### either or -/

def OrV (c c1 c2 : AV) : Prop := ∀ (w : World) (I : Nat → Prop) (u : Value), RV w I Phi.no c u → RV w I Phi.no c1 u ∨ RV w I Phi.no c2 u
def OrC (c c1 c2 : List AV) : Prop := c1.length = c.length ∧ c2.length = c.length ∧ ∀ (w : World) (I : Nat → Prop) (ra : Array Value), RVs w I Phi.no c ra → RVs w I Phi.no c1 ra ∨ RVs w I Phi.no c2 ra

theorem OrV.nil {sz : Nat} {f : Nat → List AV} : OrV (.tr sz 0 f) .nils (.trl sz []) := by
  intro w I u hv
  cases hv with
  | tr _ _ _ B o cap uf hI hn' hlen hc h1 hr =>
    exact .inr (.trl _ _ _ (.tr sz 0 _ B o cap uf hI hn' (fun i hi => by omega) (fun i k c hi => by omega) (fun i k c hi => by omega) (fun i k c hi => by omega)) (by simp))
  | trn _ _ a => cases a with
    | none => exact .inl .nils
    | some a => exact .inr (.trl _ _ _ (.trn _ _ _) (by simp))

theorem rvs_cells {w : World} {I : Nat → Prop} {φ : Phi} {c c1 : AV} {a b : List AV} {vs : Array Value} (h : RVs w I φ (a ++ c :: b) vs) (hc : ∀ u, RV w I φ c u → RV w I φ c1 u) : RVs w I φ (a ++ c1 :: b) vs := by
  refine ⟨by rw [← h.1]; simp, fun k x u e e' => ?_⟩
  rw [List.getElem?_append] at e
  split at e
  · rename_i hk; exact h.2 k x u (by rw [List.getElem?_append_left hk]; exact e) e'
  · rename_i hk
    have hk : a.length ≤ k := Nat.le_of_not_lt hk
    cases hd : k - a.length with
    | zero =>
      rw [hd] at e; simp at e; subst e
      exact hc u (h.2 k c u (by rw [List.getElem?_append_right hk, hd]; rfl) e')
    | succ m =>
      rw [hd] at e
      exact h.2 k x u (by rw [List.getElem?_append_right hk, hd]; exact e) e'

theorem rvs_at {w : World} {I : Nat → Prop} {φ : Phi} {c : AV} {a b : List AV} {vs : Array Value} (h : RVs w I φ (a ++ c :: b) vs) : ∃ u, RV w I φ c u ∧ vs[a.length]? = some u := by
  have hl : a.length < vs.size := by rw [← h.1]; simp
  exact ⟨vs[a.length], h.2 a.length c _ (by simp) (Array.getElem?_eq_getElem hl), Array.getElem?_eq_getElem hl⟩

theorem OrC.of {c c1 c2 : AV} (a b : List AV) (h : OrV c c1 c2) : OrC (a ++ c :: b) (a ++ c1 :: b) (a ++ c2 :: b) := by
  refine ⟨by simp, by simp, fun w I ra hx => ?_⟩
  obtain ⟨u, hu, he⟩ := rvs_at hx
  have key : ∀ c', RV w I Phi.no c' u → RVs w I Phi.no (a ++ c' :: b) ra := by
    intro c' hc'
    refine ⟨by rw [← hx.1]; simp, fun k x v e e' => ?_⟩
    by_cases hk : k = a.length
    · subst hk
      rw [he] at e'; cases e'
      simp at e; subst e; exact hc'
    · refine hx.2 k x v ?_ e'
      rw [List.getElem?_append] at e ⊢
      split at e
      · rename_i h; rw [if_pos h]; exact e
      · rename_i h
        rw [if_neg h]
        obtain ⟨m, hm⟩ : ∃ m, k - a.length = m + 1 := ⟨k - a.length - 1, by omega⟩
        rw [hm] at e ⊢; exact e
  exact (h w I u hu).imp (key c1) (key c2)

theorem OrV.agg {cs c1 c2 : List AV} (h : OrC cs c1 c2) : OrV (.agg cs) (.agg c1) (.agg c2) := by
  intro w I u hv
  cases hv with
  | agg _ vs hl h1 hr =>
    refine (h.2.2 w I vs ⟨hl, hr⟩).imp (fun g => .agg _ _ (h.1.trans hl) h1 g.2) (fun g => .agg _ _ (h.2.1.trans hl) h1 g.2)

theorem Contract.split {P : Program} {f : Nat} {args args1 args2 : List AV} {r : AV} {bs : Heap} (hs : OrC args args1 args2) (h1 : Contract P f args1 [] r bs) (h2 : Contract P f args2 [] r bs) : Contract P f args [] r bs := by
  intro w I φ ra hh hx
  have := phi_nil hh
  subst this
  rcases hs.2.2 w I ra hx with hx | hx
  · exact h1 w I Phi.no ra hh hx
  · exact h2 w I Phi.no ra hh hx

theorem SubV.trl_encL {X : Type} {sz : Nat} {e : X → List AV} {z : X} (l : List X) : SubV (.trl sz (l.map e)) (encL sz e z l) := by
  have := SubV.tr (sz := sz) (es := l.map e) (f := fun i => e (l.getD i z)) fun i hi => by
    have hi : i < l.length := by simpa using hi
    have : (l.map e).getD i [] = e (l.getD i z) := by simp [List.getD, List.getElem?_eq_getElem hi]
    rw [this]; exact .refl _
  rwa [List.length_map] at this

/-- a list that is shown as cells, as it is told -/
theorem SubV.trl_of {X : Type} {sz : Nat} {e : X → List AV} {z : X} {es : List (List AV)} (l : List X) (h : es = l.map e) : SubV (.trl sz es) (encL sz e z l) := by
  subst h; exact trl_encL l

end Go.AM
end

section
/- A law's contract as the kit asks for it. -/
set_option linter.unusedVariables false
set_option linter.unusedSimpArgs false
namespace Go.AM

section
variable {H : Type} {enc : TypeId × Value → H} {P : Program} {W W' : World} {I : Nat → Prop}

/-- the contract of a law: 'true', at whatever arguments of the types -/
def LawC (P : Program) (N f : Nat) (ts : List TypeId) : Prop := ∀ avs, Args P N ts avs → Contract P f avs [] (.bool true) []

theorem law_postC {N base f tb : Nat} {fn : Func} {s : ChangeSpec} (hfn : P.funcs[f]? = some fn) (hbody : fn.body.isNone = false)
    (hname : (fn.name == "runtime.NumGoroutine") = false)
    (hvars : s.vars = []) (hrt : fn.resultTypes = #[tb]) (hbool : P.underlying tb = some .bool)
    (hspec : ∀ ds : List (DataW H), ds.length = fn.params.toList.length → s.fn H ds = { results := [.lit (.bool true)], args := ds })
    (hlaid : laidOutB P = true) (hread : ∀ t ∈ fn.params.toList, P.readableRec t = true ∧ t < P.types.size) (hgood : ∀ t ∈ fn.params.toList, goodT P N t = true)
    (hlaw : LawC P N f fn.params.toList) {args : Array Value} {ds gs : List (DataW H)} {before : List MemPlace}
    (hval : ∀ (j : Nat) t v, fn.params[j]? = some t → args[j]? = some v → Value.okWide P W .any base t v) (hW : DataW.Whole enc P fn.params.toList s.vars false W args.toList ds gs before) :
    Calls P f args W fun e W' => ∃ v, e = .returned v ∧ s.post enc P fn false true false false W args v W' := by
  have hW' := hW
  obtain ⟨p, q, hA, hV, rfl, hfz, hnd⟩ := hW
  rw [hvars] at hV
  have hgs : gs = [] ∧ q = [] := by
    cases gs with
    | nil => exact ⟨rfl, hV⟩
    | cons g gs => exact hV.elim
  obtain ⟨rfl, rfl⟩ := hgs
  have hlt := hW'.lt
  simp only [List.append_nil] at hlt hW'
  let I : Nat → Prop := fun B => B < W.heap.size
  obtain ⟨avs, h1, h2, h3⟩ := args_ok (I := I) (fun _ h => h) hgood (fun j t v e e' => hval j t v (by rwa [Array.getElem?_toList] at e) (by rwa [Array.getElem?_toList] at e')) hA
  have hans := hlaw avs h1 W I Phi.no args (RH.empty W I fun _ h => h) ⟨by simpa using h2, fun k x u e e' => h3 k x u e (by rw [Array.getElem?_toList]; exact e')⟩
  have hpost : ∀ u W', (∃ φ' I', RV W' I' φ' (.bool true) u ∧ RH W' I' φ' (hget []) ∧ Step ([] : Heap).length (hget []) Phi.no I W (hget []) φ' I' W') → s.post enc P fn false true false false W args u W' := by
    rintro u W' ⟨φ', I', g1, _, g2⟩
    cases g1
    have hb : RowKit.Below W.heap.size W W' := ⟨g2.ext.os, g2.ext.tape, g2.ext.output, g2.ext.size, fun k hk => g2.ext.keep k hk fun hm => not_mut_nil hm⟩
    have hds : ds.length = fn.params.toList.length := by
      have : ∀ {ts : List TypeId} {vs : List Value} {ds : List (DataW H)} {ps : List MemPlace}, DataW.TrodAll enc P W 0 (fun _ => true) true ts vs ds ps → ds.length = ts.length := by
        intro ts
        induction ts with
        | nil => intro vs ds ps h; cases vs <;> cases ds <;> first | rfl | exact h.elim
        | cons t ts ih => intro vs ds ps h; cases vs <;> cases ds <;> first | exact h.elim | (obtain ⟨_, _, _, h, _⟩ := h; simp [ih h])
      exact this hA
    have hsp := hspec ds hds
    have hone : (Value.bool true).resultList 1 = [.bool true] := rfl
    refine post_of_old (pa := p) (pv := []) hW' (fun b sp hd => ?_) (fun sp hs => ?_) (fun _ _ => ?_) (by simp) hb (RowKit.ok_one hrt rfl (RowKit.okWide_bool_mk hbool _))
    · rw [List.append_nil, hsp, hrt]
      exact ⟨[], [], ⟨1, by simp [DataW.trod, hbool, Value.cells]⟩, rfl, rfl⟩
    · rw [List.append_nil, hsp]
      exact trodAll_stays hlaid hb hread hA hlt hs
    · rw [List.append_nil, hsp, hvars]
      rfl
  rcases hans with ⟨_, h⟩ | ⟨u, W', h, _⟩
  · exact Calls.mono h fun e W' ⟨u, he, hu⟩ => ⟨u, he, hpost u W' hu⟩
  · simp only [callFunc, Sem.run_bind, run_program, Result.andThen_ok, hfn, hname, hbody, Bool.false_eq_true, if_false, Sem.run_pure] at h
    cases h


end
/-- an argument that is a slice, as a tree -/
theorem Shape.list {P : Program} {n : Nat} {t e : TypeId} {av : List AV} (hu : P.underlying t = some (.slice e)) (h : Shape P (n + 1) t av) :
    ∃ c m f, av = [c] ∧ SubV c (.tr (P.cellsOf e) m f) ∧ m ≤ maxLen ∧ ∀ i, i < m → Shape P n e (f i) := by
  unfold Shape at h
  rw [hu] at h
  rcases h with rfl | ⟨es, rfl, h1, h2⟩
  · exact ⟨_, 0, fun _ => [], rfl, .nils, Nat.zero_le _, fun i hi => absurd hi (Nat.not_lt_zero i)⟩
  · refine ⟨_, es.length, fun i => es.getD i [], rfl, .tr fun i _ => .refl _, h1, fun i hi => ?_⟩
    have : es.getD i [] = es[i] := by simp [List.getD, List.getElem?_eq_getElem hi]
    simp only [this]; exact h2 _ (List.getElem_mem hi)

theorem Shape.num {P : Program} {n : Nat} {t : TypeId} {k : IntKind} {av : List AV} (hu : P.underlying t = some (.int k)) (h : Shape P (n + 1) t av) : av = [.int k (getI av 0)] ∧ k.min ≤ getI av 0 ∧ getI av 0 ≤ k.max := by
  unfold Shape at h
  rw [hu] at h
  obtain ⟨i, rfl, h⟩ := h
  exact ⟨rfl, h⟩

theorem Shape.nums {P : Program} {n : Nat} {t e : TypeId} {k : IntKind} {av : List AV} (hu : P.underlying t = some (.slice e)) (hk : P.underlying e = some (.int k)) (hc : P.cellsOf e = 1) (h : Shape P (n + 2) t av) :
    ∃ (c : AV) (m : Nat) (g : Nat → Int), av = [c] ∧ SubV c (.tr 1 m fun i => [.int k (g i)]) ∧ m ≤ maxLen ∧ ∀ i, i < m → k.min ≤ g i ∧ g i ≤ k.max := by
  obtain ⟨c, m, f, rfl, h1, h2, h3⟩ := Shape.list hu h
  rw [hc] at h1
  refine ⟨c, m, fun i => getI (f i) 0, rfl, h1.trans (.trs fun i hi => ?_), h2, fun i hi => (Shape.num hk (h3 i hi)).2⟩
  simp only [← (Shape.num hk (h3 i hi)).1]; exact .refl _

theorem wrap64 {x : Int} (h : -9223372036854775808 ≤ x ∧ x ≤ 9223372036854775807) : IntKind.i64.wrap x = x := by
  simp [IntKind.wrap, IntKind.signed, IntKind.bits, Int.bmod]; omega

theorem wrapu8 {x : Int} (h : 0 ≤ x ∧ x ≤ 255) : IntKind.u8.wrap x = x := by
  simp [IntKind.wrap, IntKind.signed, IntKind.bits]; omega

end Go.AM
end

section
/- Contracts on heaps, told by functions; lists that grow. -/
set_option linter.unusedVariables false
set_option linter.unusedSimpArgs false
namespace Go.AM

/-- a call on a heap: the answer and the heap behind it, numbered anew -/
def hnK (base : Nat) (r : AV) (h : Heap) : Option (AV × Heap) :=
  let s := norm base [0] { fr := [(0, r)], hp := h }
  some (fget s.fr 0, s.hp)

def callH (env : Env) (n f : Nat) (args : List AV) (hp : Heap) : Option (AV × Heap) := evFn (R := AV × Heap) env n f args hp (hnK hp.length)

theorem callH_ok {P : Program} {env : Env} (henv : EnvOk P env) (hcode : CodeOk P env) (hm : P.follows .mixedOrders = true) {n f : Nat} {args : List AV} {hp : Heap} {r : AV} {h : Heap}
    (e : callH env n f args hp = some (r, h)) : Contract P f args hp r h ∧ hp.length ≤ h.length := by
  obtain ⟨res, hp', k1, k2, hc⟩ := ev_ok henv hcode hm n f args hp _ _ e
  cases k1
  refine ⟨fun w I φ ra hh hx => (hc w I φ ra hh hx).mono fun u w' ⟨φ', I', a1, a2, a3⟩ => ?_, norm_base (s := { fr := [(0, res)], hp := hp' }) k2⟩
  have hs : StOk w' I' φ' { fr := [(0, res)], hp := hp' } { tmps := #[u], defers := [] } := by
    refine ⟨a2, fun t => ?_⟩
    cases t with
    | zero => exact a1
    | succ t => exact .undef _
  obtain ⟨_, φ2, n2, n3⟩ := norm_ok hp.length [0] hs k2
  exact ⟨φ2, I', n2.fr 0, n2.hh, a3.trans n3⟩

def gPH {X : Type} (dec : List AV → Heap → X) (pre : X → Prop) (enc : X → List AV × Heap) (args : List AV) (hp : Heap) : Prop := pre (dec args hp) ∧ enc (dec args hp) = (args, hp)

noncomputable def Known.specH {X : Type} (f : Nat) (dec : List AV → Heap → X) (pre : X → Prop) (enc : X → List AV × Heap) (out : X → AV × Heap) : Known :=
  { f := f, ans := fun args hp => some { X := X, g := cd (gPH dec pre enc args hp), a := dec args hp, r := out } }

theorem Known.specH_ok {P : Program} {X : Type} {f : Nat} {dec : List AV → Heap → X} {pre : X → Prop} {enc : X → List AV × Heap} {out : X → AV × Heap}
    (h : ∀ x, pre x → Contract P f (enc x).1 (enc x).2 (out x).1 (out x).2 ∧ (enc x).2.length ≤ (out x).2.length) : (Known.specH f dec pre enc out).Ok P := by
  intro args hp A e hg
  cases e
  obtain ⟨h1, h2⟩ := cd_iff.1 hg
  have := h _ h1
  rw [h2] at this
  exact this

/-- a call that is known, on a heap -/
noncomputable def gCH {R : Type} {X : Type} (dec : List AV → Heap → X) (pre : X → Prop) (enc : X → List AV × Heap) (A : List AV) (H : Heap) (k : X → Option R) : Option R := gX (gPH dec pre enc A H) (dec A H) k

theorem gCH_eq {R : Type} {X : Type} {dec : List AV → Heap → X} {pre : X → Prop} {enc : X → List AV × Heap} {A : List AV} {H : Heap} {k : X → Option R} (x : X) (h1 : dec A H = x) (h2 : pre x) (h3 : enc x = (A, H)) :
    gCH dec pre enc A H k = k x := by
  subst h1; exact gX_of ⟨h2, h3⟩

/-! ### lists that grow -/

/-- the elements of two, one behind the other, as 'append' has them -/
def appF (n : Nat) (f : Nat → List AV) (m : Nat) (g : Nat → List AV) : Nat → List AV :=
  fun i => bif Nat.blt i n then f i else bif Nat.blt i (n + m) then g (i - n) else f n

theorem appF_enc {X : Type} (e : X → List AV) (z : X) (l k : List X) : appF l.length (fun i => e (l.getD i z)) k.length (fun i => e (k.getD i z)) = fun i => e ((l ++ k).getD i z) := by
  funext i
  unfold appF
  by_cases h : i < l.length
  · have : Nat.blt i l.length = true := by rw [Nat.blt_eq]; exact h
    rw [this, cond_true]
    simp [List.getD, List.getElem?_append_left h]
  · have h0 : Nat.blt i l.length = false := by
      cases hb : Nat.blt i l.length with
      | false => rfl
      | true => rw [Nat.blt_eq] at hb; exact absurd hb h
    rw [h0, cond_false]
    by_cases h1 : i < l.length + k.length
    · have : Nat.blt i (l.length + k.length) = true := by rw [Nat.blt_eq]; exact h1
      rw [this, cond_true]
      simp [List.getD, List.getElem?_append_right (Nat.le_of_not_lt h)]
    · have : Nat.blt i (l.length + k.length) = false := by
        cases hb : Nat.blt i (l.length + k.length) with
        | false => rfl
        | true => rw [Nat.blt_eq] at hb; exact absurd hb h1
      rw [this, cond_false]
      have e1 : l[l.length]? = none := List.getElem?_eq_none (Nat.le_refl _)
      have e2 : (l ++ k)[i]? = none := List.getElem?_eq_none (by simp; omega)
      simp [List.getD, e1, e2]

/-- the same where the new ones are written out -/
theorem appF_lit {X : Type} (e : X → List AV) (z : X) (l k : List X) : appF l.length (fun i => e (l.getD i z)) k.length (fun i => (k.map e).getD i []) = fun i => e ((l ++ k).getD i z) := by
  rw [← appF_enc e z l k]
  funext i
  unfold appF
  cases h0 : Nat.blt i l.length with
  | true => rfl
  | false =>
    cases h1 : Nat.blt i (l.length + k.length) with
    | false => rfl
    | true =>
      simp only [cond_false, cond_true]
      rw [Nat.blt_eq] at h1
      have hi : l.length ≤ i := by
        rcases Nat.lt_or_ge i l.length with h | h
        · rw [show Nat.blt i l.length = true by rw [Nat.blt_eq]; exact h] at h0; cases h0
        · exact h
      have : i - l.length < k.length := by omega
      simp [List.getD, List.getElem?_eq_getElem this]

theorem drop_cons {X : Type} {l : List X} {i : Nat} {z : X} (h : i < l.length) : l.drop i = l.getD i z :: l.drop (i + 1) := by
  rw [List.drop_eq_getElem_cons h]
  simp [List.getD, List.getElem?_eq_getElem h]

theorem decL_encL' {X : Type} {sz : Nat} {e : X → List AV} {d : List AV → X} {z : X} {l : List X} (h : ∀ x ∈ l, d (e x) = x) : decL d (encL sz e z l) = l := by
  simp only [decL, encL]
  refine List.ext_getElem (by simp) fun i h1 h2 => ?_
  simp [List.getD, List.getElem?_eq_getElem h2, h _ (List.getElem_mem h2)]

theorem blt_true {a b : Nat} (h : a < b) : Nat.blt a b = true := by rw [Nat.blt_eq]; exact h
theorem blt_false {a b : Nat} (h : b ≤ a) : Nat.blt a b = false := by
  cases hb : Nat.blt a b with
  | false => rfl
  | true => rw [Nat.blt_eq] at hb; omega
theorem ble_true {a b : Nat} (h : a ≤ b) : Nat.ble a b = true := by rw [Nat.ble_eq]; exact h
theorem beq_false {a b : Nat} (h : a ≠ b) : Nat.beq a b = false := by
  cases hb : Nat.beq a b with
  | false => rfl
  | true => exact absurd (Nat.eq_of_beq_eq_true hb) h
theorem beq_true {a b : Nat} (h : a = b) : Nat.beq a b = true := by subst h; exact Nat.beq_refl a

end Go.AM
end

section
/- Contracts whose answers are blocks of their own. -/
set_option linter.unusedVariables false
set_option linter.unusedSimpArgs false
namespace Go.AM

noncomputable def Known.specB {X : Type} (f : Nat) (dec : List AV → X) (pre : X → Prop) (enc : X → List AV) (out : X → AV × Heap) : Known :=
  { f := f, ans := fun args hp => match hp with
      | [] => some { X := X, g := cd (gP dec pre enc args), a := dec args, r := out }
      | _ => none }

theorem Known.specB_ok {P : Program} {X : Type} {f : Nat} {dec : List AV → X} {pre : X → Prop} {enc : X → List AV} {out : X → AV × Heap}
    (h : ∀ x, pre x → Contract P f (enc x) [] (out x).1 (out x).2) : (Known.specB f dec pre enc out).Ok P := by
  intro args hp A e hg
  cases hp with
  | nil =>
    cases e
    obtain ⟨h1, h2⟩ := cd_iff.1 hg
    exact ⟨(h _ h1).args h2, Nat.zero_le _⟩
  | cons x r => cases e

/-- a list in a block of its own -/
def outBlk {X : Type} (sz : Nat) (e : X → List AV) (z : X) (l : List X) : AV × Heap := (.sl sz 0 0 l.length 0, [.seq true sz l.length fun i => e (l.getD i z)])

theorem hget_one (x : BS) (b : Nat) : hget [x] b = if b = 0 then x else .none := by
  cases b with
  | zero => rfl
  | succ b => simp [hget]

/-- one block is told in other words -/
theorem Contract.reblk {P : Program} {f : Nat} {args : List AV} {v v' : AV} {x x' : BS} (h : Contract P f args [] v [x]) (hm : mutable x' = true) (hm' : mutable x = true)
    (hv : ∀ w I φ u, RV w I φ v u → RV w I φ v' u) (hb : ∀ w I φ B o sz, RB w I φ B o sz x → RB w I φ B o sz x') : Contract P f args [] v' [x'] := by
  intro w I φ ra hh hx
  refine (h w I φ ra hh hx).mono fun u w' ⟨φ', I', a1, a2, a3⟩ => ?_
  have hl := live_of_mutable hm
  have hl' := live_of_mutable hm'
  have at0 : ∀ b, live (hget [x'] b) = true → b = 0 := by
    intro b hb
    rw [hget_one] at hb
    split at hb
    · assumption
    · cases hb
  have key : ∀ b, mutable (hget [x'] b) = true → mutable (hget [x] b) = true := by
    intro b hb
    have := at0 b (live_of_mutable hb)
    subst this
    exact hm'
  refine ⟨φ', I', hv _ _ _ _ a1, ⟨fun b e => ?_, fun b e => ?_, fun b b' B o sz o' sz' e e' => a2.inj b b' B o sz o' sz' (key b e) (key b' e'), fun b B o sz e => a2.disj b B o sz (key b e), fun b B o sz e e2 => ?_, a2.lt⟩,
    ⟨a3.le, a3.Ile, a3.Inew, fun B ⟨b, o, sz, e, e2⟩ => a3.mt B ⟨b, o, sz, key b e, e2⟩, a3.ext⟩⟩
  · rw [hget_one] at e
    split at e
    · subst e; cases hl
    · rename_i hb0
      exact a2.none b (by rw [hget_one, if_neg hb0])
  · have := at0 b e
    subst this
    obtain ⟨B, o, sz, e1, r⟩ := a2.blk 0 hl'
    exact ⟨B, o, sz, e1, hb _ _ _ _ _ _ r⟩
  · have := at0 b e
    subst this
    have e2 : mutable x' = false := e2
    rw [hm] at e2; cases e2

theorem RV.slack {w : World} {I : Nat → Prop} {φ : Phi} {sz b off len cm : Nat} {u : Value} (h : RV w I φ (.sl sz b off len cm) u) : RV w I φ (.sl sz b off len 0) u := by
  cases h with
  | sl _ _ B o _ _ _ cap q h1 h2 h3 h4 h5 => exact .sl sz b B o off len 0 cap q h1 h2 h3 (Nat.zero_le _) h5
  | sle => exact .sle sz b off _

/-- a block that was written out -/
theorem Contract.blkArr {P : Program} {f : Nat} {args : List AV} {X : Type} {sz cm : Nat} {e : X → List AV} {z : X} (l : List X) (hf : ∀ x, (e x).all refFree = true)
    (h : Contract P f args [] (.sl sz 0 0 l.length cm) [.arr true sz (l.map e)]) : Contract P f args [] (outBlk sz e z l).1 (outBlk sz e z l).2 := by
  refine h.reblk rfl rfl (fun w I φ u h => h.slack) (fun w I φ B o s h => ?_)
  obtain ⟨h1, h2, h3, h4⟩ := h
  have at' : ∀ i, i < l.length → (l.map e)[i]? = some (e (l.getD i z)) := fun i hi => by simp [List.getD, List.getElem?_eq_getElem hi]
  refine ⟨h1, h2, fun i hi => h3 i _ (at' i hi), fun i k c hi hc => ?_⟩
  obtain ⟨u, g1, g2, g3⟩ := h4 i _ k c (at' i hi) hc
  exact ⟨u, g1, g2, g3.free (by simpa using (List.all_eq_true.1 (hf (l.getD i z))) c (List.mem_of_getElem? hc))⟩

/-- a block that was told by a function -/
theorem Contract.blkSeq {P : Program} {f : Nat} {args : List AV} {X : Type} {sz cm n : Nat} {g : Nat → List AV} {e : X → List AV} {z : X} (l : List X) (hn : n = l.length) (hg : ∀ i, i < l.length → g i = e (l.getD i z))
    (h : Contract P f args [] (.sl sz 0 0 n cm) [.seq true sz n g]) : Contract P f args [] (outBlk sz e z l).1 (outBlk sz e z l).2 := by
  subst hn
  refine h.reblk rfl rfl (fun w I φ u h => h.slack) (fun w I φ B o s h => ?_)
  obtain ⟨h1, h2, h3, h4⟩ := h
  exact ⟨h1, h2, fun i hi => by show (e (l.getD i z)).length = _; rw [← hg i hi]; exact h3 i hi, fun i k c hi hc => h4 i k c hi (by rw [hg i hi]; exact hc)⟩

end Go.AM
end

section
/- Lists that grow from nothing, as the abstract machine has them; loops that pick elements. -/
set_option linter.unusedVariables false
namespace Go.AM

section
variable {X : Type} (sz : Nat) (e : X → List AV) (z : X)
/-- the elements of a grown list; behind its end stands the first one -/
def canF (l : List X) : Nat → List AV := fun i => e (l.getD i (l.getD 0 z))
/-- a grown list in the block b -/
def gSl (b : Nat) : List X → AV
  | [] => .nils
  | [_] => .sl sz b 0 1 1
  | l => .sl sz b 0 l.length 0
def gBl : List X → Heap
  | [] => []
  | l => [.seq true sz l.length (canF e z l)]
/-- a grown list, read -/
def gTr : List X → AV
  | [] => .nils
  | l => .tr sz l.length (canF e z l)
end
section
variable {X : Type} {sz : Nat} {e : X → List AV} {z : X}
theorem canF_at {l : List X} {i : Nat} (h : i < l.length) : canF e z l i = e (l.getD i z) := by
  unfold canF; simp [List.getD, List.getElem?_eq_getElem h]
theorem canF_one (x : X) : (fun i => [e x].getD i ([e x].getD 0 [])) = canF e z [x] := by
  funext i
  unfold canF
  cases i with
  | zero => rfl
  | succ i => simp [List.getD]
theorem canF_oneS (x : X) : (fun i => [e x].getD i (e x)) = canF e z [x] := canF_one x
theorem canF_app {l : List X} (h : l ≠ []) (x : X) :
    (fun i => bif Nat.blt i l.length then canF e z l i else bif Nat.blt i (l.length + 1) then [e x].getD (i - l.length) [] else canF e z l l.length) = canF e z (l ++ [x]) := by
  funext i
  have h0 : 0 < l.length := List.length_pos_iff.2 h
  have hh : (l ++ [x]).getD 0 z = l.getD 0 z := by unfold List.getD; rw [List.getElem?_append_left h0]
  by_cases h1 : i < l.length
  · rw [blt_true h1, cond_true]
    unfold canF
    rw [hh]
    simp [List.getD, List.getElem?_append_left h1]
  · rw [blt_false (Nat.le_of_not_lt h1), cond_false]
    by_cases h2 : i < l.length + 1
    · have : i = l.length := by omega
      subst this
      rw [blt_true h2, cond_true]
      unfold canF
      simp [List.getD]
    · rw [blt_false (by omega), cond_false]
      unfold canF
      rw [hh]
      have e1 : l[l.length]? = none := List.getElem?_eq_none (Nat.le_refl _)
      have e2 : (l ++ [x])[i]? = none := List.getElem?_eq_none (by simp; omega)
      simp [List.getD, e1, e2]
/-- an append of one to a grown list of one -/
theorem canF_app1 (a x : X) : (fun i => bif Nat.blt i 1 then canF e z [a] i else bif Nat.blt i 2 then [e x].getD (i - 1) [] else canF e z [a] 1) = canF e z [a, x] := canF_app (l := [a]) (by simp) x
theorem gSl_app {b : Nat} {l : List X} (h : l ≠ []) (x : X) : gSl sz b (l ++ [x]) = .sl sz b 0 (l.length + 1) 0 := by
  match l, h with
  | [a], _ => rfl
  | a :: c :: r, _ =>
    show AV.sl sz b 0 ((a :: c :: (r ++ [x])).length) 0 = _
    simp
theorem gBl_app {l : List X} (h : l ≠ []) (x : X) : gBl sz e z (l ++ [x]) = [.seq true sz (l.length + 1) (canF e z (l ++ [x]))] := by
  match l, h with
  | a :: r, _ =>
    show [BS.seq true sz ((a :: (r ++ [x])).length) _] = _
    simp
theorem gTr_sub (l : List X) : SubV (gTr sz e z l) (encL sz e z l) := by
  match l with
  | [] => exact .nils
  | a :: r => exact SubV.trs fun i hi => by rw [canF_at hi]; exact .refl _
theorem dec_gTr {d : List AV → X} (hd : ∀ x, d (e x) = x) (l : List X) : decL d (gTr sz e z l) = l := by
  match l with
  | [] => rfl
  | a :: r =>
    show (List.range (a :: r).length).map (fun i => d (canF e z (a :: r) i)) = a :: r
    refine List.ext_getElem (by simp) fun i h1 h2 => ?_
    simp only [List.getElem_map, List.getElem_range]
    rw [canF_at h2, hd]
    simp [List.getD, List.getElem?_eq_getElem h2]
end

/-- the tests of an append of one to a list of n elements of b bytes -/
def room1 {R : Type} (n b : Nat) (k : Option R) : Option R :=
  bif Nat.beq n 0 || Nat.ble n n then bif Nat.ble ((n + 1) * b) 140737488355328 && Nat.ble (n + 1) 140737488355328 then k else none else none
theorem room1_eq {R : Type} {n b : Nat} {k : Option R} (hb : b ≤ 1000) (h : n ≤ 1000000) : room1 n b k = k := by
  unfold room1
  have h1 : (n + 1) * b ≤ 140737488355328 := by
    have : (n + 1) * b ≤ 1000001 * 1000 := Nat.mul_le_mul (by omega) hb
    omega
  rw [ble_true (Nat.le_refl n), ble_true h1, ble_true (by omega : n + 1 ≤ 140737488355328)]
  simp

theorem orU (n : Nat) : (Nat.beq n 0 || Nat.ble n n) = true := by rw [ble_true (Nat.le_refl n)]; simp
theorem roomU {n b : Nat} (hb : b ≤ 1000) (h : n ≤ 1000000) : (Nat.ble ((n + 1) * b) 140737488355328 && Nat.ble (n + 1) 140737488355328) = true := by
  have h1 : (n + 1) * b ≤ 140737488355328 := by
    have : (n + 1) * b ≤ 1000001 * 1000 := Nat.mul_le_mul (by omega) hb
    omega
  rw [ble_true h1, ble_true (by omega : n + 1 ≤ 140737488355328)]; rfl

/-- a loop that goes up, and picks elements -/
theorem pick_loop {X : Type} {R : Type} {l : List X} {z : X} {keep : X → Bool} {G : Nat → Int → List X → Option R} {fin : List X → Option R}
    (hend : ∀ m acc, acc.length ≤ l.length → G (m + 1) (l.length : Int) acc = fin acc)
    (hstep : ∀ m (i : Nat) acc, i < l.length → acc.length ≤ i → G (m + 1) (i : Int) acc = bif keep (l.getD i z) then G m ((i + 1 : Nat) : Int) (acc ++ [l.getD i z]) else G m ((i + 1 : Nat) : Int) acc) :
    ∀ (d i m : Nat) (acc : List X), i + d = l.length → d < m → acc.length ≤ i → G m (i : Int) acc = fin (acc ++ (l.drop i).filter keep) := by
  intro d
  induction d with
  | zero =>
    intro i m acc hi hm ha
    obtain ⟨m, rfl⟩ : ∃ k, m = k + 1 := ⟨m - 1, by omega⟩
    have : i = l.length := by omega
    subst this
    rw [hend m acc ha]; simp
  | succ d ih =>
    intro i m acc hi hm ha
    obtain ⟨m, rfl⟩ : ∃ k, m = k + 1 := ⟨m - 1, by omega⟩
    rw [hstep m i acc (by omega) ha, drop_cons (z := z) (by omega : i < l.length), List.filter_cons]
    cases hk : keep (l.getD i z) with
    | true =>
      rw [cond_true, if_pos rfl, ih (i + 1) m _ (by omega) (by omega) (by simp; omega), List.append_assoc]; rfl
    | false =>
      rw [cond_false, if_neg (by simp), ih (i + 1) m _ (by omega) (by omega) (by omega)]
end Go.AM
end

section
/- Points of a function's jumps, from which a run is told by equations. -/
set_option linter.unusedVariables false
namespace Go.AM
/-- the way to the scope of the label l -/
def findS (l : Nat) : Code → Option (List PE)
  | .scope a => match findLabel a l with
    | some _ => some []
    | .none => match findS l a with
      | some p => some (.L :: p)
      | .none => .none
  | .seq x y => match findS l x with
    | some p => some (.L :: p)
    | .none => match findS l y with
      | some p => some (.R :: p)
      | .none => .none
  | .cond _ x y => match findS l x with
    | some p => some (.L :: p)
    | .none => match findS l y with
      | some p => some (.R :: p)
      | .none => .none
  | .block _ a => match findS l a with
    | some p => some (.L :: p)
    | .none => .none
  | _ => .none
/-- a run of the function f from the label l on, with m jumps left -/
def JP {R : Type} (env : Env) (n base f : Nat) (k : AV → Heap → Option R) (l m : Nat) (s : St) : Option R :=
  match findS l (bodyOf env f) with
  | some p => match sub (bodyOf env f) p with
    | .scope a => jumpK env (evFn env n) f (ntOf env f) n base m a l (contOf env (evFn env n) f (ntOf env f) n base (jumpK env (evFn env n) f (ntOf env f) n base n) 0 (bodyOf env f) p (finK env f k)) s
    | _ => .none
  | .none => .none
end Go.AM
end

section
/- A value that is written out is of another's kind: decided. -/
namespace Go.AM
def subB : Nat → AV → AV → Bool
  | 0, _, _ => false
  | n + 1, a, b => match a with
    | .bool x => match b with
      | .bool y => decide (x = y)
      | _ => false
    | .int k x => match b with
      | .int j y => decide (k = j) && decide (x = y)
      | _ => false
    | .cplx k x x' => match b with
      | .cplx j y y' => decide (k = j) && (decide (x = y) && decide (x' = y'))
      | _ => false
    | .str x => match b with
      | .str y => decide (x = y)
      | _ => false
    | .nils => match b with
      | .nils => true
      | .tr _ m _ => Nat.beq m 0
      | _ => false
    | .trl s es => match b with
      | .tr t m f => decide (s = t) && (decide (es.length = m) && (List.range m).all fun i => decide ((es.getD i []).length = (f i).length) && (List.range (f i).length).all fun k => subB n ((es.getD i []).getD k .undef) ((f i).getD k .undef))
      | _ => false
    | .agg cs => match b with
      | .agg ds => decide (cs.length = ds.length) && (List.range ds.length).all fun k => subB n (cs.getD k .undef) (ds.getD k .undef)
      | _ => false
    | .tup cs => match b with
      | .tup ds => decide (cs.length = ds.length) && (List.range ds.length).all fun k => subB n (cs.getD k .undef) (ds.getD k .undef)
      | _ => false
    | _ => false
theorem subC_of {n : Nat} {cs ds : List AV} (ih : ∀ a b, subB n a b = true → SubV a b) (h : cs.length = ds.length) (h2 : ((List.range ds.length).all fun k => subB n (cs.getD k .undef) (ds.getD k .undef)) = true) : SubC cs ds := by
  refine ⟨h, fun k c c' e e' => ih _ _ ?_⟩
  have hk : k < ds.length := by
    rcases Nat.lt_or_ge k ds.length with h | h
    · exact h
    · rw [List.getElem?_eq_none h] at e'; cases e'
  have := (List.all_eq_true.1 h2) k (List.mem_range.2 hk)
  simp only [List.getD, e, e', Option.getD_some] at this
  exact this
theorem subB_ok : ∀ (n : Nat) (a b : AV), subB n a b = true → SubV a b
  | 0, a, b, h => by cases h
  | n + 1, a, b, h => by
    have ih := subB_ok n
    cases a <;> cases b
    all_goals first | (exact absurd h Bool.false_ne_true) | skip
    all_goals simp only [subB, Bool.and_eq_true, decide_eq_true_eq] at h
    case bool.bool => subst h; exact .refl _
    case int.int => obtain ⟨rfl, rfl⟩ := h; exact .refl _
    case cplx.cplx => obtain ⟨rfl, rfl, rfl⟩ := h; exact .refl _
    case str.str => subst h; exact .refl _
    case nils.nils => exact .refl _
    case nils.tr => have := Nat.eq_of_beq_eq_true h; subst this; exact .nils
    case trl.tr =>
      obtain ⟨rfl, rfl, h3⟩ := h
      refine SubV.tr fun i hi => ?_
      have := (List.all_eq_true.1 h3) i (List.mem_range.2 hi)
      simp only [Bool.and_eq_true, decide_eq_true_eq] at this
      exact subC_of ih this.1 this.2
    case agg.agg => exact .agg (subC_of ih h.1 h.2)
    case tup.tup => exact .tup (subC_of ih h.1 h.2)
end Go.AM
end

section
/- Whole numbers as floats of 64 bits: they are read as they were written, and stand in their order. -/
namespace Go.Fl
open Ieee

def fl (n : Nat) : Nat := double.nearest false n 0

theorem log2_mul_pow {n : Nat} (h : n ≠ 0) (s : Nat) : (n * 2 ^ s).log2 = n.log2 + s := by
  have h1 := (Nat.le_log2 h).1 (Nat.le_refl _)
  have h2 : n < 2 ^ (n.log2 + 1) := Nat.lt_log2_self
  have hne : n * 2 ^ s ≠ 0 := Nat.mul_ne_zero h (by simp)
  apply Nat.le_antisymm
  · refine Nat.lt_succ_iff.1 ((Nat.log2_lt hne).2 ?_)
    calc n * 2 ^ s < 2 ^ (n.log2 + 1) * 2 ^ s := Nat.mul_lt_mul_of_pos_right h2 (Nat.two_pow_pos s)
      _ = 2 ^ (n.log2 + s + 1) := by rw [← Nat.pow_add]; congr 1; omega
  · refine (Nat.le_log2 hne).2 ?_
    rw [Nat.pow_add]; exact Nat.mul_le_mul_right _ h1

theorem cut_even (n d : Nat) : Toward.even.cut false (n * 2 ^ d) d = n := by
  unfold Toward.cut
  by_cases h : n = 0
  · subst h; simp
  · have hm : min d ((n * 2 ^ d).log2 + 2) = d := by rw [log2_mul_pow h]; omega
    simp only [hm, Nat.one_shiftLeft]
    have h1 : n * 2 ^ d / 2 ^ d = n := Nat.mul_div_cancel _ (Nat.two_pow_pos d)
    have h2 : n * 2 ^ d % 2 ^ d = 0 := Nat.mul_mod_left n (2 ^ d)
    rw [h1, h2]
    have : (2 ^ d == 0) = false := by simp
    simp [this]

theorem cut_zero (n d : Nat) : Toward.zero.cut false (n * 2 ^ d) d = n := by
  unfold Toward.cut
  by_cases h : n = 0
  · subst h; simp
  · have hm : min d ((n * 2 ^ d).log2 + 2) = d := by rw [log2_mul_pow h]; omega
    simp only [hm, Nat.one_shiftLeft]
    rw [Nat.mul_div_cancel _ (Nat.two_pow_pos d)]
    simp

theorem log2_lt53 {n : Nat} (h : n ≠ 0) (hn : n < 2 ^ 53) : n.log2 ≤ 52 := by
  have := (Nat.log2_lt h).2 hn
  omega

/-- the word of a number that is written with u digits more -/
theorem nearest_up {n : Nat} (h : n ≠ 0) (hn : n < 2 ^ 53) {u : Nat} (hu : u ≤ 1074) :
    double.nearest false (n * 2 ^ u) (-(u : Int)) = (n.log2 + 1022) * 2 ^ 52 + n * 2 ^ (52 - n.log2) := by
  have hl := log2_lt53 h hn
  unfold Format.nearest
  have hne : n * 2 ^ u ≠ 0 := Nat.mul_ne_zero h (by simp)
  have hlp : double.leastPlace = -1074 := by decide
  have hfb : double.fractionBits = 52 := rfl
  have hbi : double.binade = 2 ^ 52 := rfl
  rw [if_neg hne, log2_mul_pow h, hlp, hfb, hbi]
  have hlast : max (-(u : Int) + ((n.log2 + u : Nat) : Int) - (52 : Nat)) (-1074) = (n.log2 : Int) - 52 := by omega
  simp only [hlast]
  have hk : Toward.even.cut false ((n * 2 ^ u) <<< (-(u : Int) - ((n.log2 : Int) - 52)).toNat) ((n.log2 : Int) - 52 - -(u : Int)).toNat = n * 2 ^ (52 - n.log2) := by
    rcases Nat.le_total u (52 - n.log2) with hc | hc
    · have e1 : (-(u : Int) - ((n.log2 : Int) - 52)).toNat = 52 - n.log2 - u := by omega
      have e2 : ((n.log2 : Int) - 52 - -(u : Int)).toNat = 0 := by omega
      rw [e1, e2, Nat.shiftLeft_eq, Nat.mul_assoc, ← Nat.pow_add, show u + (52 - n.log2 - u) = 52 - n.log2 by omega]
      have := cut_even (n * 2 ^ (52 - n.log2)) 0
      simpa using this
    · have e1 : (-(u : Int) - ((n.log2 : Int) - 52)).toNat = 0 := by omega
      have e2 : ((n.log2 : Int) - 52 - -(u : Int)).toNat = u - (52 - n.log2) := by omega
      rw [e1, e2]
      have e3 : (n * 2 ^ u) <<< 0 = n * 2 ^ (52 - n.log2) * 2 ^ (u - (52 - n.log2)) := by
        rw [Nat.shiftLeft_zero, Nat.mul_assoc, ← Nat.pow_add, show 52 - n.log2 + (u - (52 - n.log2)) = u by omega]
      rw [e3, cut_even]
  rw [hk]
  have e4 : ((n.log2 : Int) - 52 - -1074).toNat = n.log2 + 1022 := by omega
  rw [e4]
  have hinf : double.infRung = 2047 * 2 ^ 52 := by decide
  rw [hinf]
  have hlt : n * 2 ^ (52 - n.log2) < 2 ^ 53 := by
    calc n * 2 ^ (52 - n.log2) < 2 ^ (n.log2 + 1) * 2 ^ (52 - n.log2) := Nat.mul_lt_mul_of_pos_right Nat.lt_log2_self (Nat.two_pow_pos _)
      _ = 2 ^ 53 := by rw [← Nat.pow_add]; congr 1; omega
  have : (n.log2 + 1022) * 2 ^ 52 + n * 2 ^ (52 - n.log2) ≤ 2047 * 2 ^ 52 := by omega
  rw [Nat.min_eq_left this]
  rfl

theorem nearest_zero (u : Int) : double.nearest false 0 u = 0 := by simp [Format.nearest, Format.word]

theorem nearest_fl {n : Nat} (hn : n < 2 ^ 53) {u : Nat} (hu : u ≤ 1074) : double.nearest false (n * 2 ^ u) (-(u : Int)) = fl n := by
  by_cases h : n = 0
  · subst h; simp [fl, nearest_zero]
  · rw [nearest_up h hn hu]
    have := nearest_up h hn (u := 0) (by omega)
    simp at this
    exact this.symm

set_option maxRecDepth 100000 in
/-- a number is read as it was written -/
theorem read_fl {n : Nat} (hn : n < 2 ^ 53) : ∃ s : Nat, s ≤ 1074 ∧ double.read (fl n) = .number false (n * 2 ^ s) (-(s : Int)) := by
  have hlp : double.leastPlace = -1074 := by decide
  have hbi : double.binade = 2 ^ 52 := rfl
  have hsw : double.signWeight = 2 ^ 63 := rfl
  have hinf : double.infRung = 2047 * 2 ^ 52 := by decide
  by_cases h : n = 0
  · subst h
    have h0 : ∀ s : Nat, s = 1074 → double.read (fl 0) = .number false (0 * 2 ^ s) (-(s : Int)) := by
      intro s hs
      rw [Nat.zero_mul]
      simp [fl, nearest_zero, Format.read, hlp, hbi, hsw, hs]
    obtain ⟨s, hs⟩ : ∃ s : Nat, s = 1074 := ⟨_, rfl⟩
    exact ⟨s, by rw [hs]; exact Nat.le_refl _, h0 s hs⟩
  · have hl := log2_lt53 h hn
    refine ⟨52 - n.log2, by omega, ?_⟩
    have hw : fl n = (n.log2 + 1022) * 2 ^ 52 + n * 2 ^ (52 - n.log2) := by
      have := nearest_up h hn (u := 0) (by omega)
      simp at this
      exact this
    rw [hw]
    have hlt : n * 2 ^ (52 - n.log2) < 2 ^ 53 := by
      calc n * 2 ^ (52 - n.log2) < 2 ^ (n.log2 + 1) * 2 ^ (52 - n.log2) := Nat.mul_lt_mul_of_pos_right Nat.lt_log2_self (Nat.two_pow_pos _)
        _ = 2 ^ 53 := by rw [← Nat.pow_add]; congr 1; omega
    have hge : 2 ^ 52 ≤ n * 2 ^ (52 - n.log2) := by
      calc 2 ^ 52 = 2 ^ n.log2 * 2 ^ (52 - n.log2) := by rw [← Nat.pow_add]; congr 1; omega
        _ ≤ n * 2 ^ (52 - n.log2) := Nat.mul_le_mul_right _ ((Nat.le_log2 h).1 (Nat.le_refl _))
    generalize n * 2 ^ (52 - n.log2) = M at hlt hge ⊢
    generalize n.log2 = L at hl ⊢
    have p52 : (2 : Nat) ^ 52 = 4503599627370496 := by decide
    have p53 : (2 : Nat) ^ 53 = 9007199254740992 := by decide
    have p63 : (2 : Nat) ^ 63 = 9223372036854775808 := by decide
    rw [p53] at hlt
    rw [p52] at hge
    obtain ⟨r, rfl⟩ : ∃ r, M = 4503599627370496 + r := ⟨M - 4503599627370496, by omega⟩
    have hr : r < 4503599627370496 := by omega
    unfold Format.read
    simp only [hsw, hbi, hinf, hlp, p52, p63]
    have e1 : ((L + 1022) * 4503599627370496 + (4503599627370496 + r)) / 9223372036854775808 % 2 = 0 := by
      rw [Nat.div_eq_of_lt (by omega)]
    have e2 : ((L + 1022) * 4503599627370496 + (4503599627370496 + r)) % 9223372036854775808 = (L + 1022) * 4503599627370496 + (4503599627370496 + r) := Nat.mod_eq_of_lt (by omega)
    rw [e1, e2, if_neg (by omega), if_pos (by omega)]
    have e3 : ((L + 1022) * 4503599627370496 + (4503599627370496 + r)) % 4503599627370496 = r := by omega
    have e4 : ((L + 1022) * 4503599627370496 + (4503599627370496 + r)) / 4503599627370496 = L + 1023 := by omega
    rw [e3, e4]
    congr 1
    omega

theorem signed_up {n s t : Nat} : signed false (n * 2 ^ s) (-(s : Int) - min (-(s : Int)) (-(t : Int))).toNat = (n * 2 ^ max s t : Nat) := by
  unfold signed
  simp only [Bool.false_eq_true, if_false, Nat.shiftLeft_eq]
  congr 1
  rw [Nat.mul_assoc, ← Nat.pow_add]
  congr 2
  omega

theorem signed_up' {n s t : Nat} : signed false (n * 2 ^ t) (-(t : Int) - min (-(s : Int)) (-(t : Int))).toNat = (n * 2 ^ max s t : Nat) := by
  unfold signed
  simp only [Bool.false_eq_true, if_false, Nat.shiftLeft_eq]
  congr 1
  rw [Nat.mul_assoc, ← Nat.pow_add]
  congr 2
  omega

theorem order_fl {n m : Nat} (hn : n < 2 ^ 53) (hm : m < 2 ^ 53) : double.order (fl n) (fl m) = some (compare n m) := by
  obtain ⟨s, _, e1⟩ := read_fl hn
  obtain ⟨t, _, e2⟩ := read_fl hm
  unfold Format.order
  rw [e1, e2]
  unfold Datum.order
  simp only [signed_up, signed_up']
  have hp : 0 < 2 ^ max s t := Nat.two_pow_pos _
  congr 1
  rcases Nat.lt_trichotomy n m with h | h | h
  · have : n * 2 ^ max s t < m * 2 ^ max s t := Nat.mul_lt_mul_of_pos_right h hp
    rw [Nat.compare_eq_lt.2 h, Int.compare_eq_lt.2 (by exact_mod_cast this)]
  · subst h; rw [Nat.compare_eq_eq.2 rfl, Int.compare_eq_eq.2 rfl]
  · have : m * 2 ^ max s t < n * 2 ^ max s t := Nat.mul_lt_mul_of_pos_right h hp
    rw [Nat.compare_eq_gt.2 h, Int.compare_eq_gt.2 (by exact_mod_cast this)]

theorem toInt_fl {n : Nat} (hn : n < 2 ^ 53) : (double.read (fl n)).toInt .zero = some n := by
  obtain ⟨s, _, e1⟩ := read_fl hn
  rw [e1]
  unfold Datum.toInt Datum.integral
  simp only
  have e2 : (-(s : Int)).toNat = 0 := by omega
  have e3 : (- -(s : Int)).toNat = s := by omega
  rw [e2, e3, Nat.shiftLeft_zero, cut_zero]
  simp [signed]

theorem add_fl {n m : Nat} (h : n + m < 2 ^ 53) : double.add (fl n) (fl m) = some (fl (n + m)) := by
  obtain ⟨s, hs, e1⟩ := read_fl (n := n) (by omega)
  obtain ⟨t, ht, e2⟩ := read_fl (n := m) (by omega)
  unfold Format.add
  rw [e1, e2]
  unfold Datum.sum
  simp only [signed_up, signed_up', Option.map_some]
  unfold Format.write
  have hsum : ((n * 2 ^ max s t : Nat) : Int) + ((m * 2 ^ max s t : Nat) : Int) = (((n + m) * 2 ^ max s t : Nat) : Int) := by rw [Nat.add_mul]; simp
  have hb : min (-(s : Int)) (-(t : Int)) = -((max s t : Nat) : Int) := by omega
  rw [hsum, hb]
  have hneg : (if (((n + m) * 2 ^ max s t : Nat) : Int) = 0 then false && false else decide ((((n + m) * 2 ^ max s t : Nat) : Int) < 0)) = false := by
    split
    · rfl
    · rw [decide_eq_false (by omega)]
  rw [hneg, Int.natAbs_natCast]
  show some (double.nearest false ((n + m) * 2 ^ max s t) (-((max s t : Nat) : Int))) = _
  rw [nearest_fl h (by omega)]

theorem fl_inj {n m : Nat} (hn : n < 2 ^ 53) (hm : m < 2 ^ 53) (h : fl n = fl m) : n = m := by
  have h1 := toInt_fl hn
  rw [h, toInt_fl hm] at h1
  have : (m : Int) = n := by simpa using h1
  omega

end Go.Fl
end

section
/- The program's types as plain structures, with their cells: as they are written, and read back. By program (gen_md.py). -/
namespace Go.Md
open Go.AM

structure Ver where
  re : Nat
  im : Nat
deriving DecidableEq, Inhabited
def encBool (b : Bool) : List AV := [.bool b]
def decBool (cs : List AV) : Bool := getB cs 0
def encBools (l : List Bool) : AV := encL 1 encBool default l
theorem decBools (l : List Bool) : decL decBool (encBools l) = l := decL_encL (fun _ => rfl) l

structure Member where
  node : Int
  boot : Int
deriving DecidableEq, Inhabited
def encMember (x : Member) : List AV := [.int .i64 x.node, .int .i64 x.boot]
def decMember (cs : List AV) : Member := ⟨getI cs 0, getI cs 1⟩
theorem dec_encMember (x : Member) : decMember (encMember x) = x := rfl
def encMembers (l : List Member) : AV := encL 2 encMember default l
theorem decMembers (l : List Member) : decL decMember (encMembers l) = l := decL_encL dec_encMember l

structure Entry where
  ver : Ver
  kind : Int
  key : List UInt8
  val : List UInt8
  write : Bool
  del : Bool
  sess : Int
  num : Int
  code : Int
  res : List UInt8
  hasRes : Bool
deriving DecidableEq, Inhabited
def encEntry (x : Entry) : List AV := [.cplx .f64 x.ver.re x.ver.im, .int .i64 x.kind, .str x.key, .str x.val, .bool x.write, .bool x.del, .int .i64 x.sess, .int .i64 x.num, .int .i64 x.code, .str x.res, .bool x.hasRes]
def decEntry (cs : List AV) : Entry := ⟨⟨(getC cs 0).1, (getC cs 0).2⟩, getI cs 1, getS cs 2, getS cs 3, getB cs 4, getB cs 5, getI cs 6, getI cs 7, getI cs 8, getS cs 9, getB cs 10⟩
theorem dec_encEntry (x : Entry) : decEntry (encEntry x) = x := rfl
def encEntrys (l : List Entry) : AV := encL 11 encEntry default l
theorem decEntrys (l : List Entry) : decL decEntry (encEntrys l) = l := decL_encL dec_encEntry l

structure Seen where
  sess : Int
  num : Int
  ver : Ver
  kind : Int
  code : Int
  res : List UInt8
  hasRes : Bool
deriving DecidableEq, Inhabited
def encSeen (x : Seen) : List AV := [.int .i64 x.sess, .int .i64 x.num, .cplx .f64 x.ver.re x.ver.im, .int .i64 x.kind, .int .i64 x.code, .str x.res, .bool x.hasRes]
def decSeen (cs : List AV) : Seen := ⟨getI cs 0, getI cs 1, ⟨(getC cs 2).1, (getC cs 2).2⟩, getI cs 3, getI cs 4, getS cs 5, getB cs 6⟩
theorem dec_encSeen (x : Seen) : decSeen (encSeen x) = x := rfl
def encSeens (l : List Seen) : AV := encL 7 encSeen default l
theorem decSeens (l : List Seen) : decL decSeen (encSeens l) = l := decL_encL dec_encSeen l

structure View where
  shard : Int
  epoch : Int
  gen : Int
  phase : Int
  chain : List Member
deriving DecidableEq, Inhabited
def encView (x : View) : List AV := [.int .i64 x.shard, .int .i64 x.epoch, .int .i64 x.gen, .int .i64 x.phase, encMembers x.chain]
def decView (cs : List AV) : View := ⟨getI cs 0, getI cs 1, getI cs 2, getI cs 3, getL decMember cs 4⟩
theorem dec_encView (x : View) : decView (encView x) = x := by
  show (⟨x.shard, x.epoch, x.gen, x.phase, decL decMember (encMembers x.chain)⟩ : View) = x
  rw [decMembers]
def encViews (l : List View) : AV := encL 5 encView default l
theorem decViews (l : List View) : decL decView (encViews l) = l := decL_encL dec_encView l

structure Tail where
  floor : Ver
  last : Ver
  log : List Entry
deriving DecidableEq, Inhabited
def encTail (x : Tail) : List AV := [.cplx .f64 x.floor.re x.floor.im, .cplx .f64 x.last.re x.last.im, encEntrys x.log]
def decTail (cs : List AV) : Tail := ⟨⟨(getC cs 0).1, (getC cs 0).2⟩, ⟨(getC cs 1).1, (getC cs 1).2⟩, getL decEntry cs 2⟩
theorem dec_encTail (x : Tail) : decTail (encTail x) = x := by
  show (⟨⟨x.floor.re, x.floor.im⟩, ⟨x.last.re, x.last.im⟩, decL decEntry (encEntrys x.log)⟩ : Tail) = x
  rw [decEntrys]
def encTails (l : List Tail) : AV := encL 3 encTail default l
theorem decTails (l : List Tail) : decL decTail (encTails l) = l := decL_encL dec_encTail l

structure Op where
  kind : Int
  key : List UInt8
  val : List UInt8
  old : List UInt8
  hasOld : Bool
deriving DecidableEq, Inhabited
def encOp (x : Op) : List AV := [.int .i64 x.kind, .str x.key, .str x.val, .str x.old, .bool x.hasOld]
def decOp (cs : List AV) : Op := ⟨getI cs 0, getS cs 1, getS cs 2, getS cs 3, getB cs 4⟩
theorem dec_encOp (x : Op) : decOp (encOp x) = x := rfl
def encOps (l : List Op) : AV := encL 5 encOp default l
theorem decOps (l : List Op) : decL decOp (encOps l) = l := decL_encL dec_encOp l

structure Image where
  floor : Ver
  last : Ver
  gen : Int
  log : List Entry
  seen : List Seen
deriving DecidableEq, Inhabited
def encImage (x : Image) : List AV := [.cplx .f64 x.floor.re x.floor.im, .cplx .f64 x.last.re x.last.im, .int .i64 x.gen, encEntrys x.log, encSeens x.seen]
def decImage (cs : List AV) : Image := ⟨⟨(getC cs 0).1, (getC cs 0).2⟩, ⟨(getC cs 1).1, (getC cs 1).2⟩, getI cs 2, getL decEntry cs 3, getL decSeen cs 4⟩
theorem dec_encImage (x : Image) : decImage (encImage x) = x := by
  show (⟨⟨x.floor.re, x.floor.im⟩, ⟨x.last.re, x.last.im⟩, x.gen, decL decEntry (encEntrys x.log), decL decSeen (encSeens x.seen)⟩ : Image) = x
  rw [decEntrys, decSeens]
def encImages (l : List Image) : AV := encL 5 encImage default l
theorem decImages (l : List Image) : decL decImage (encImages l) = l := decL_encL dec_encImage l

structure Msg where
  kind : Int
  src : Int
  dst : Int
  boot : Int
  sboot : Int
  shard : Int
  epoch : Int
  gen : Int
  sess : Int
  num : Int
  a : Int
  code : Int
  has : Bool
  fresh : Bool
  key : List UInt8
  val : List UInt8
  ver : Ver
  floor : Ver
  op : Op
  entries : List Entry
  chain : List Member
  views : List View
  image : Image
deriving DecidableEq, Inhabited
def encMsg (x : Msg) : List AV := [.int .i64 x.kind, .int .i64 x.src, .int .i64 x.dst, .int .i64 x.boot, .int .i64 x.sboot, .int .i64 x.shard, .int .i64 x.epoch, .int .i64 x.gen, .int .i64 x.sess, .int .i64 x.num, .int .i64 x.a, .int .i64 x.code, .bool x.has, .bool x.fresh, .str x.key, .str x.val, .cplx .f64 x.ver.re x.ver.im, .cplx .f64 x.floor.re x.floor.im, .int .i64 x.op.kind, .str x.op.key, .str x.op.val, .str x.op.old, .bool x.op.hasOld, encEntrys x.entries, encMembers x.chain, encViews x.views, .cplx .f64 x.image.floor.re x.image.floor.im, .cplx .f64 x.image.last.re x.image.last.im, .int .i64 x.image.gen, encEntrys x.image.log, encSeens x.image.seen]
def decMsg (cs : List AV) : Msg := ⟨getI cs 0, getI cs 1, getI cs 2, getI cs 3, getI cs 4, getI cs 5, getI cs 6, getI cs 7, getI cs 8, getI cs 9, getI cs 10, getI cs 11, getB cs 12, getB cs 13, getS cs 14, getS cs 15, ⟨(getC cs 16).1, (getC cs 16).2⟩, ⟨(getC cs 17).1, (getC cs 17).2⟩, ⟨getI cs 18, getS cs 19, getS cs 20, getS cs 21, getB cs 22⟩, getL decEntry cs 23, getL decMember cs 24, getL decView cs 25, ⟨⟨(getC cs 26).1, (getC cs 26).2⟩, ⟨(getC cs 27).1, (getC cs 27).2⟩, getI cs 28, getL decEntry cs 29, getL decSeen cs 30⟩⟩
theorem dec_encMsg (x : Msg) : decMsg (encMsg x) = x := by
  show (⟨x.kind, x.src, x.dst, x.boot, x.sboot, x.shard, x.epoch, x.gen, x.sess, x.num, x.a, x.code, x.has, x.fresh, x.key, x.val, ⟨x.ver.re, x.ver.im⟩, ⟨x.floor.re, x.floor.im⟩, ⟨x.op.kind, x.op.key, x.op.val, x.op.old, x.op.hasOld⟩, decL decEntry (encEntrys x.entries), decL decMember (encMembers x.chain), decL decView (encViews x.views), ⟨⟨x.image.floor.re, x.image.floor.im⟩, ⟨x.image.last.re, x.image.last.im⟩, x.image.gen, decL decEntry (encEntrys x.image.log), decL decSeen (encSeens x.image.seen)⟩⟩ : Msg) = x
  simp only [decEntrys, decMembers, decViews, decSeens]
def encMsgs (l : List Msg) : AV := encL 31 encMsg default l
theorem decMsgs (l : List Msg) : decL decMsg (encMsgs l) = l := decL_encL dec_encMsg l

structure Rep where
  shard : Int
  self : Member
  view : View
  frozen : Int
  tail : Tail
  seen : List Seen
  got : Ver
  synced : List Bool
deriving DecidableEq, Inhabited
def encRep (x : Rep) : List AV := [.int .i64 x.shard, .int .i64 x.self.node, .int .i64 x.self.boot, .int .i64 x.view.shard, .int .i64 x.view.epoch, .int .i64 x.view.gen, .int .i64 x.view.phase, encMembers x.view.chain, .int .i64 x.frozen, .cplx .f64 x.tail.floor.re x.tail.floor.im, .cplx .f64 x.tail.last.re x.tail.last.im, encEntrys x.tail.log, encSeens x.seen, .cplx .f64 x.got.re x.got.im, encBools x.synced]
def decRep (cs : List AV) : Rep := ⟨getI cs 0, ⟨getI cs 1, getI cs 2⟩, ⟨getI cs 3, getI cs 4, getI cs 5, getI cs 6, getL decMember cs 7⟩, getI cs 8, ⟨⟨(getC cs 9).1, (getC cs 9).2⟩, ⟨(getC cs 10).1, (getC cs 10).2⟩, getL decEntry cs 11⟩, getL decSeen cs 12, ⟨(getC cs 13).1, (getC cs 13).2⟩, getL decBool cs 14⟩
theorem dec_encRep (x : Rep) : decRep (encRep x) = x := by
  show (⟨x.shard, ⟨x.self.node, x.self.boot⟩, ⟨x.view.shard, x.view.epoch, x.view.gen, x.view.phase, decL decMember (encMembers x.view.chain)⟩, x.frozen, ⟨⟨x.tail.floor.re, x.tail.floor.im⟩, ⟨x.tail.last.re, x.tail.last.im⟩, decL decEntry (encEntrys x.tail.log)⟩, decL decSeen (encSeens x.seen), ⟨x.got.re, x.got.im⟩, decL decBool (encBools x.synced)⟩ : Rep) = x
  rw [decMembers, decEntrys, decSeens, decBools]
def encReps (l : List Rep) : AV := encL 15 encRep default l
theorem decReps (l : List Rep) : decL decRep (encReps l) = l := decL_encL dec_encRep l

structure Plan where
  epoch : Int
  gen : Int
  phase : Int
  fresh : Bool
  base : Int
  reset : Int
  chain : List Member
  valid : List Member
deriving DecidableEq, Inhabited
def encPlan (x : Plan) : List AV := [.int .i64 x.epoch, .int .i64 x.gen, .int .i64 x.phase, .bool x.fresh, .int .i64 x.base, .int .i64 x.reset, encMembers x.chain, encMembers x.valid]
def decPlan (cs : List AV) : Plan := ⟨getI cs 0, getI cs 1, getI cs 2, getB cs 3, getI cs 4, getI cs 5, getL decMember cs 6, getL decMember cs 7⟩
theorem dec_encPlan (x : Plan) : decPlan (encPlan x) = x := by
  show (⟨x.epoch, x.gen, x.phase, x.fresh, x.base, x.reset, decL decMember (encMembers x.chain), decL decMember (encMembers x.valid)⟩ : Plan) = x
  simp only [decMembers]
def encPlans (l : List Plan) : AV := encL 8 encPlan default l
theorem decPlans (l : List Plan) : decL decPlan (encPlans l) = l := decL_encL dec_encPlan l

structure Book where
  sess : Int
  gen : Int
  shards : List Plan
deriving DecidableEq, Inhabited
def encBook (x : Book) : List AV := [.int .i64 x.sess, .int .i64 x.gen, encPlans x.shards]
def decBook (cs : List AV) : Book := ⟨getI cs 0, getI cs 1, getL decPlan cs 2⟩
theorem dec_encBook (x : Book) : decBook (encBook x) = x := by
  show (⟨x.sess, x.gen, decL decPlan (encPlans x.shards)⟩ : Book) = x
  rw [decPlans]
def encBooks (l : List Book) : AV := encL 3 encBook default l
theorem decBooks (l : List Book) : decL decBook (encBooks l) = l := decL_encL dec_encBook l

structure Alive where
  member : Member
  missed : Int
deriving DecidableEq, Inhabited
def encAlive (x : Alive) : List AV := [.int .i64 x.member.node, .int .i64 x.member.boot, .int .i64 x.missed]
def decAlive (cs : List AV) : Alive := ⟨⟨getI cs 0, getI cs 1⟩, getI cs 2⟩
theorem dec_encAlive (x : Alive) : decAlive (encAlive x) = x := rfl
def encAlives (l : List Alive) : AV := encL 3 encAlive default l
theorem decAlives (l : List Alive) : decL decAlive (encAlives l) = l := decL_encL dec_encAlive l

structure Work where
  fenced : Bool
  keep : List Member
  froze : List Msg
  heard : Bool
deriving DecidableEq, Inhabited
def encWork (x : Work) : List AV := [.bool x.fenced, encMembers x.keep, encMsgs x.froze, .bool x.heard]
def decWork (cs : List AV) : Work := ⟨getB cs 0, getL decMember cs 1, getL decMsg cs 2, getB cs 3⟩
theorem dec_encWork (x : Work) : decWork (encWork x) = x := by
  show (⟨x.fenced, decL decMember (encMembers x.keep), decL decMsg (encMsgs x.froze), x.heard⟩ : Work) = x
  rw [decMembers, decMsgs]
def encWorks (l : List Work) : AV := encL 4 encWork default l
theorem decWorks (l : List Work) : decL decWork (encWorks l) = l := decL_encL dec_encWork l

structure Bureau where
  book : Book
  nodes : List Alive
  work : List Work
  opens : List Msg
  asks : List Msg
deriving DecidableEq, Inhabited
def encBureau (x : Bureau) : List AV := [.int .i64 x.book.sess, .int .i64 x.book.gen, encPlans x.book.shards, encAlives x.nodes, encWorks x.work, encMsgs x.opens, encMsgs x.asks]
def decBureau (cs : List AV) : Bureau := ⟨⟨getI cs 0, getI cs 1, getL decPlan cs 2⟩, getL decAlive cs 3, getL decWork cs 4, getL decMsg cs 5, getL decMsg cs 6⟩
theorem dec_encBureau (x : Bureau) : decBureau (encBureau x) = x := by
  show (⟨⟨x.book.sess, x.book.gen, decL decPlan (encPlans x.book.shards)⟩, decL decAlive (encAlives x.nodes), decL decWork (encWorks x.work), decL decMsg (encMsgs x.opens), decL decMsg (encMsgs x.asks)⟩ : Bureau) = x
  simp only [decPlans, decAlives, decWorks, decMsgs]
def encBureaus (l : List Bureau) : AV := encL 7 encBureau default l
theorem decBureaus (l : List Bureau) : decL decBureau (encBureaus l) = l := decL_encL dec_encBureau l

end Go.Md
end

section
/- Versions as pairs of whole numbers, told plainly. -/
open Go Go.AM Go.Md Go.Fl
open Ieee (double)
namespace Go.Wk
set_option maxRecDepth 100000
set_option maxHeartbeats 1000000
/-- how long a list may be -/
def LB : Nat := 1000000

/-- a version that equals itself -/
def VOk (v : Ver) : Prop := fEq .f64 v.re v.re = true ∧ fEq .f64 v.im v.im = true

def I64 (n : Int) : Prop := -9223372036854775808 ≤ n ∧ n ≤ 9223372036854775807
/-- the whole numbers of a version -/
def fI (b : Nat) : Option Int := (FloatKind.f64.decode b).toInt .zero
def vE (v : Ver) : Int := (fI v.re).getD 0
def vN (v : Ver) : Int := (fI v.im).getD 0
def okI (b : Nat) : Prop := (fI b).isSome = true ∧ IntKind.i64.min ≤ (fI b).getD 0 ∧ (fI b).getD 0 ≤ IntKind.i64.max
def VInt (v : Ver) : Prop := okI v.re ∧ okI v.im
theorem okI64 {b : Nat} (h : okI b) : I64 ((fI b).getD 0) := by
  obtain ⟨_, h1, h2⟩ := h
  have e1 : IntKind.i64.min = -9223372036854775808 := by decide
  have e2 : IntKind.i64.max = 9223372036854775807 := by decide
  rw [e1] at h1; rw [e2] at h2
  exact ⟨h1, h2⟩

def eV (v : Ver) : AV := .cplx .f64 v.re v.im
def vr (e n : Nat) : Ver := ⟨fl e, fl n⟩
theorem fEq_fl {n m : Nat} (hn : n < 2 ^ 53) (hm : m < 2 ^ 53) : fEq .f64 (fl n) (fl m) = decide (n = m) := by
  have : FloatKind.f64.format.order (fl n) (fl m) = some (compare n m) := order_fl hn hm
  unfold fEq; rw [this]
  rcases Nat.lt_trichotomy n m with h | h | h
  · rw [Nat.compare_eq_lt.2 h, decide_eq_false (by omega)]; rfl
  · rw [Nat.compare_eq_eq.2 h, decide_eq_true h]; rfl
  · rw [Nat.compare_eq_gt.2 h, decide_eq_false (by omega)]; rfl
theorem fLt_fl {n m : Nat} (hn : n < 2 ^ 53) (hm : m < 2 ^ 53) : fLt .f64 (fl n) (fl m) = decide (n < m) := by
  have : FloatKind.f64.format.order (fl n) (fl m) = some (compare n m) := order_fl hn hm
  unfold fLt; rw [this]
  rcases Nat.lt_trichotomy n m with h | h | h
  · rw [Nat.compare_eq_lt.2 h, decide_eq_true h]; rfl
  · rw [Nat.compare_eq_eq.2 h, decide_eq_false (by omega)]; rfl
  · rw [Nat.compare_eq_gt.2 h, decide_eq_false (by omega)]; rfl
theorem fI_fl {n : Nat} (hn : n < 2 ^ 53) : fI (fl n) = some (n : Int) := toInt_fl hn
theorem okI_fl {n : Nat} (hn : n < 2 ^ 53) : okI (fl n) := by
  unfold okI; rw [fI_fl hn]
  have e1 : IntKind.i64.min = -9223372036854775808 := by decide
  have e2 : IntKind.i64.max = 9223372036854775807 := by decide
  rw [e1, e2]
  refine ⟨rfl, ?_, ?_⟩ <;> simp only [Option.getD_some] <;> omega
theorem near_fl (n : Nat) : FloatKind.f64.nearest (n : Int) = fl n := by
  show double.nearest (decide ((n : Int) < 0)) (n : Int).natAbs 0 = fl n
  rw [decide_eq_false (by omega), Int.natAbs_natCast]; rfl
theorem one_fl : fl 1 = 4607182418800017408 := by decide
theorem next_fl {n : Nat} (h : n + 1 < 2 ^ 53) : FloatKind.f64.format.add (fl n) 4607182418800017408 = some (fl (n + 1)) := by
  rw [← one_fl]; exact add_fl h
/-- a version of two small numbers -/
def VNum (v : Ver) : Prop := ∃ e n : Nat, e < 2 ^ 40 ∧ n < 2 ^ 40 ∧ v = vr e n
theorem VNum.int {v : Ver} (h : VNum v) : VInt v := by
  obtain ⟨e, n, he, hn, rfl⟩ := h
  exact ⟨okI_fl (by omega), okI_fl (by omega)⟩
theorem VNum.ok {v : Ver} (h : VNum v) : VOk v := by
  obtain ⟨e, n, he, hn, rfl⟩ := h
  exact ⟨by rw [vr, fEq_fl (by omega) (by omega)]; simp, by rw [vr, fEq_fl (by omega) (by omega)]; simp⟩
/-- the numbers of a version -/
def ep (v : Ver) : Nat := (vE v).toNat
def nu (v : Ver) : Nat := (vN v).toNat
theorem ep_vr {e n : Nat} (h : e < 2 ^ 40) : ep (vr e n) = e := by
  show ((fI (fl e)).getD 0).toNat = e; rw [fI_fl (by omega)]; rfl
theorem nu_vr {e n : Nat} (h : n < 2 ^ 40) : nu (vr e n) = n := by
  show ((fI (fl n)).getD 0).toNat = n; rw [fI_fl (by omega)]; rfl
theorem VNum.eta {v : Ver} (h : VNum v) : v = vr (ep v) (nu v) := by
  obtain ⟨e, n, he, hn, rfl⟩ := h
  rw [ep_vr he, nu_vr hn]
theorem VNum.lt {v : Ver} (h : VNum v) : ep v < 2 ^ 40 ∧ nu v < 2 ^ 40 := by
  obtain ⟨e, n, he, hn, rfl⟩ := h
  rw [ep_vr he, nu_vr hn]; exact ⟨he, hn⟩
/-- is b ahead of a? -/
def vlt (a b : Ver) : Bool := bif decide (ep a = ep b) then decide (nu a < nu b) else decide (ep a < ep b)
def vmax (a b : Ver) : Ver := bif vlt a b then b else a
theorem vmax_comm_of {a b : Ver} (ha : VNum a) (hb : VNum b) (h : vlt a b = false) (h' : vlt b a = false) : a = b := by
  rw [ha.eta, hb.eta]
  unfold vlt at h h'
  by_cases e : ep a = ep b
  · rw [decide_eq_true e, cond_true] at h
    rw [decide_eq_true e.symm, cond_true] at h'
    have h1 := of_decide_eq_false h
    have h2 := of_decide_eq_false h'
    have : nu a = nu b := by omega
    rw [e, this]
  · rw [decide_eq_false e, cond_false] at h
    rw [decide_eq_false fun x => e x.symm, cond_false] at h'
    have h1 := of_decide_eq_false h
    have h2 := of_decide_eq_false h'
    omega
theorem vlt_vr {e n f m : Nat} (he : e < 2 ^ 40) (hn : n < 2 ^ 40) (hf : f < 2 ^ 40) (hm : m < 2 ^ 40) : vlt (vr e n) (vr f m) = bif decide (e = f) then decide (n < m) else decide (e < f) := by
  unfold vlt; rw [ep_vr he, ep_vr hf, nu_vr hn, nu_vr hm]
theorem bif_some {X : Type} (c : Bool) (a b : X) : (bif c then some a else some b) = some (bif c then a else b) := by cases c <;> rfl
theorem bif_not {X : Type} (c : Bool) (a b : X) : (bif !c then a else b) = bif c then b else a := by cases c <;> rfl
theorem fvlt {a b : Ver} (ha : VNum a) (hb : VNum b) : (bif fEq .f64 a.re b.re then fLt .f64 a.im b.im else fLt .f64 a.re b.re) = vlt a b := by
  obtain ⟨e, n, he, hn, rfl⟩ := ha
  obtain ⟨f, m, hf, hm, rfl⟩ := hb
  rw [vlt_vr he hn hf hm]
  show (bif fEq .f64 (fl e) (fl f) then fLt .f64 (fl n) (fl m) else fLt .f64 (fl e) (fl f)) = _
  rw [fEq_fl (by omega) (by omega), fLt_fl (by omega) (by omega), fLt_fl (by omega) (by omega)]
theorem vmax_swap {a b : Ver} (ha : VNum a) (hb : VNum b) : (bif vlt b a then a else b) = vmax a b := by
  unfold vmax
  by_cases h : vlt b a = true
  · have : vlt a b = false := by
      unfold vlt at h ⊢
      by_cases e : ep a = ep b
      · rw [decide_eq_true e.symm, cond_true] at h
        rw [decide_eq_true e, cond_true]
        have := of_decide_eq_true h
        exact decide_eq_false (by omega)
      · rw [decide_eq_false fun x => e x.symm, cond_false] at h
        rw [decide_eq_false e, cond_false]
        have := of_decide_eq_true h
        exact decide_eq_false (by omega)
    rw [h, this]; rfl
  · have h := Bool.eq_false_iff.2 h
    rw [h, cond_false]
    by_cases h' : vlt a b = true
    · rw [h']; rfl
    · have h' := Bool.eq_false_iff.2 h'
      rw [h', cond_false]; exact (vmax_comm_of ha hb h' h).symm
theorem vE_ep {v : Ver} (h : VNum v) : vE v = (ep v : Int) := by
  obtain ⟨e, n, he, hn, rfl⟩ := h
  rw [ep_vr he]; show (fI (fl e)).getD 0 = _; rw [fI_fl (by omega)]; rfl
theorem vN_nu {v : Ver} (h : VNum v) : vN v = (nu v : Int) := by
  obtain ⟨e, n, he, hn, rfl⟩ := h
  rw [nu_vr hn]; show (fI (fl n)).getD 0 = _; rw [fI_fl (by omega)]; rfl
theorem dec_int (a b : Nat) : decide ((a : Int) = (b : Int)) = decide (a = b) := by
  by_cases h : a = b
  · rw [h]; simp
  · rw [decide_eq_false h, decide_eq_false (by omega)]
theorem dec_ilt (a b : Nat) : decide ((a : Int) < (b : Int)) = decide (a < b) := by simp

end Go.Wk
end

section
/- The head of a seat: the environment of the abstract machine, live slots, modes of calls, the functions' numbers. By program (mkhead.py). -/
open Go Go.AM Go.Proofs
namespace Go.Wk
set_option maxRecDepth 100000
noncomputable def PG : Program := Tryz.prog
def liveTab : List (Nat × Nat × List Nat) := [
(6, 0, [3, 4, 5, 6]),
(7, 0, [1, 4, 20]),
(7, 2, [1, 4, 67, 68]),
(7, 4, [1, 4, 79, 80]),
(7, 6, [4, 99, 100]),
(10, 0, [3, 15, 16, 17]),
(14, 0, [1, 6, 8]),
(15, 0, [0, 1, 19, 20]),
(15, 2, [0, 1, 39, 40]),
(15, 4, [0, 47, 48]),
(15, 6, [0, 47, 48, 51, 52]),
(15, 8, [0, 8, 47, 48]),
(19, 0, [10, 49, 50, 51]),
(21, 0, [2, 4, 5, 11, 12]),
(24, 0, [1, 2, 10, 11, 12]),
(36, 0, [0, 31, 32, 33]),
(37, 0, [0, 2, 4, 5, 22, 23]),
(41, 0, [0, 4, 6, 8, 9]),
(44, 0, [1, 2, 18, 19]),
(46, 0, [1, 2, 34, 35]),
(48, 0, [0, 1, 2, 22, 23, 24]),
(53, 0, [0, 6, 7, 8]),
(54, 0, [1, 3, 18, 19, 20]),
(54, 2, [7, 47, 48, 49]),
(56, 1, [0, 5, 152, 153, 154]),
(59, 1001, [0, 4, 6]),
(59, 1000, [4, 6]),
(62, 0, [22, 23, 24]),
(63, 0, [1, 7, 8, 9, 19, 20, 21]),
(86, 0, [1, 5, 8, 9, 10]),
(89, 0, [3, 13, 14, 15]),
(90, 0, [1, 2, 10, 11]),
(94, 0, [0, 7, 8, 9]),
(113, 0, [1, 2, 3, 4, 27, 28, 29]),
(117, 0, [4, 6, 19, 20]),
(117, 2, [4, 6, 42, 43]),
(119, 0, [1, 3, 30, 31]),
(121, 0, [1, 3, 19, 20, 21]),
(122, 0, [1, 2, 10, 11, 12]),
(128, 1, [3, 4, 6, 8, 63, 64, 65]),
(131, 0, [0, 3, 4]),
(132, 0, [0, 3, 4]),
(133, 0, [0, 1, 7, 8]),
(138, 0, [0, 12, 13, 14]),
(148, 1001, [0, 1, 7, 8]),
(148, 1002, [1, 7]),
(148, 1000, []),
(153, 0, [0, 2, 9, 11, 32, 33]),
(155, 0, [0, 2, 9, 11, 32, 33]),
(157, 0, [0, 2, 9, 11, 32, 33]),
(172, 0, [0, 7, 8]),
(180, 1, [0, 1, 4, 5, 57, 58, 59]),
(181, 0, [0, 5]),
(186, 0, [0, 2, 13, 14, 15]),
(188, 0, [0, 2, 13, 14, 15]),
(190, 0, [0, 2, 13, 14, 15]),
(193, 1, [1, 3, 23, 24, 25]),
(197, 0, [1, 21, 22, 23]),
(197, 2, [1, 36, 37, 38]),
(197, 4, [1, 36, 37, 38, 42, 43, 44]),
(197, 6, [56, 57, 58]),
(207, 0, [0, 1, 2, 8, 9, 10]),
(209, 0, [0, 1, 2, 3, 4, 10, 11]),
(212, 0, [0, 2, 9, 11, 32, 33]),
(215, 0, [3, 5, 9, 10, 11]),
(221, 0, [3, 4, 9, 10, 11]),
(225, 0, [0, 2, 13, 14, 15]),
(232, 0, [2, 4, 5, 17, 18, 19, 1003]),
(242, 0, [0, 3, 14, 15, 16]),
(244, 0, [2, 4, 6, 7, 37, 38, 39]),
(244, 2, [4, 6, 56, 57, 58]),
(247, 0, [0, 1, 7, 8]),
(249, 0, [0, 1, 2, 3, 8]),
(249, 2, [0, 1, 2, 3, 8, 9]),
(250, 0, [0, 3, 8, 9, 10, 11]),
(250, 2, [0, 3, 8, 9, 12]),
(251, 0, [0, 1, 8, 9, 10, 11]),
(253, 0, [0, 8, 9]),
(254, 0, [0, 1, 2, 3, 9, 10]),
(254, 2, [0, 1, 2, 3, 9, 10]),
(254, 4, [0, 1, 2, 3, 9, 10, 11]),
(254, 6, [0, 1, 2, 3, 9, 10, 12]),
(255, 0, [0, 1, 4, 11, 12]),
(255, 2, [0, 1, 4, 11, 12]),
(255, 4, [0, 1, 4, 11, 12]),
(256, 0, [0, 1, 4, 12, 13]),
(256, 2, [0, 1, 4, 12, 13]),
(256, 4, [0, 1, 4, 12, 13]),
(256, 6, [0, 1, 4, 12, 13]),
(256, 8, [0, 1, 4, 12, 13]),
(259, 0, [1, 5, 8, 9, 10]),
(264, 0, [0, 1, 12, 13]),
(267, 0, [2, 5, 6, 65, 66, 67]),
(268, 0, [1, 2, 4, 6, 7, 8, 14, 15, 16]),
(269, 0, [1, 3, 9, 16, 17, 18]),
(271, 0, [0, 3, 10, 11, 12]),
(273, 0, [3, 7, 8, 9]),
(280, 0, [0, 3, 4, 13, 14, 15]),
(281, 0, [0, 4, 67, 68, 69]),
(284, 0, [0, 3, 4, 5, 6, 29, 30, 31]),
(291, 0, [0, 8, 116, 117, 118]),
(293, 0, [2, 7, 8, 9]),
(294, 0, [0, 6, 7, 8]),
(297, 0, [0, 1, 5, 6]),
(299, 0, [1, 7, 8, 16, 17, 18]),
(300, 0, [0, 1, 4, 5, 21, 22, 23]),
(300, 2, [0, 1, 5, 35, 36, 37]),
(302, 0, [4, 5, 6, 16, 17, 18]),
(304, 0, [0, 1, 4, 5, 21, 22, 23]),
(306, 0, [0, 2, 3, 4, 10]),
(311, 0, [0, 1, 7, 8]),
(314, 0, [0, 1, 5, 9, 10]),
(317, 0, [0, 1, 5, 6]),
(320, 0, [3, 13, 14, 15]),
(320, 2, [3, 6, 13, 14, 15, 27, 28, 29]),
(321, 0, [0, 1, 7, 8]),
(324, 0, [0, 1, 2, 8, 9, 10]),
(332, 0, [0, 1, 5, 6]),
(336, 0, [0, 3, 12, 13]),
(341, 0, [3, 6, 7, 8]),
(343, 0, [0, 1, 7, 8]),
(346, 0, [3, 7, 8, 9]),
(351, 0, [3, 7, 8, 9]),
(352, 0, [1, 2, 3, 4, 9, 21, 22, 23]),
(352, 2, [3, 4, 12, 13, 45]),
(352, 4, [4, 16, 71, 72, 73]),
(360, 0, [0, 1, 2, 8, 9, 10]),
(363, 0, [0, 1, 7, 8]),
(374, 0, [0, 1, 5, 6]),
(379, 0, [0, 1, 7, 8]),
(394, 1000, [1, 2, 4, 5]),
(395, 0, [0, 1, 7, 8]),
(396, 0, [0, 1, 2, 3, 4, 10, 11]),
(397, 0, [0, 2, 3]),
(398, 0, [0, 1, 3]),
(400, 0, [0, 1, 7, 8]),
(401, 0, [0, 1, 2, 3, 8]),
(401, 2, [0, 1, 2, 3, 8, 9]),
(402, 0, [0, 3, 8, 9, 10, 11]),
(402, 2, [0, 3, 8, 9, 12]),
(403, 0, [0, 1, 8, 9, 10, 11]),
(405, 0, [0, 8, 9]),
(406, 0, [0, 1, 2, 3, 9, 10]),
(406, 2, [0, 1, 2, 3, 9, 10]),
(406, 4, [0, 1, 2, 3, 9, 10, 11]),
(406, 6, [0, 1, 2, 3, 9, 10, 12]),
(407, 0, [0, 1, 4, 11, 12]),
(407, 2, [0, 1, 4, 11, 12]),
(407, 4, [0, 1, 4, 11, 12]),
(408, 0, [0, 1, 4, 12, 13]),
(408, 2, [0, 1, 4, 12, 13]),
(408, 4, [0, 1, 4, 12, 13]),
(408, 6, [0, 1, 4, 12, 13]),
(408, 8, [0, 1, 4, 12, 13]),
(411, 0, [0, 2, 3, 4, 10]),
(416, 0, [0, 2, 3])]
def modes1 : List Nat := [7, 14, 18, 24, 25, 44, 45, 46, 47, 57, 87, 90, 92, 93, 94, 95, 96, 97, 98, 99, 111, 122, 163, 164, 165, 166, 167, 172, 196, 198, 214, 239, 295, 344, 345, 346]
def modes2 : List Nat := [8, 10, 11, 12, 15, 16, 19, 20, 23, 27, 28, 29, 30, 31, 32, 33, 34, 35, 36, 38, 39, 48, 49, 51, 52, 53, 56, 58, 62, 64, 66, 68, 70, 72, 74, 75, 77, 78, 80, 81, 83, 100, 101, 102, 103, 104, 105, 106, 107, 108, 109, 110, 115, 116, 124, 125, 126, 129, 130, 134, 135, 136, 137, 138, 139, 140, 143, 145, 150, 151, 152, 153, 154, 155, 156, 157, 158, 159, 160, 162, 175, 176, 177, 178, 179, 180, 186, 188, 190, 199, 205, 206, 207, 209, 212, 213, 216, 217, 218, 219, 220, 222, 225, 236, 237, 238, 241, 242, 243, 245, 246, 247, 248, 249, 250, 251, 252, 253, 254, 255, 256, 260, 261, 263, 264, 265, 266, 267, 271, 276, 279, 280, 281, 282, 283, 284, 285, 289, 291, 292, 294, 296, 297, 300, 303, 304, 306, 307, 308, 309, 310, 311, 312, 313, 315, 316, 317, 318, 320, 321, 322, 323, 324, 326, 327, 328, 329, 331, 332, 335, 336, 343, 347, 349, 353, 354, 355, 358, 359, 360, 363, 367, 368, 369, 370, 371, 372, 373, 374, 375, 377, 378, 379, 384, 386, 387, 392, 395, 396, 397, 398, 399, 400, 401, 402, 403, 404, 405, 406, 407, 408, 409, 410, 411, 412, 413, 414, 415, 416, 425, 426, 427, 428, 429, 432]
def modes3 : List Nat := [9]
def modes4 : List Nat := [60, 133, 181, 182, 183, 184, 185, 187, 189, 191, 192, 226, 277]
noncomputable def envM (md : Nat → Option Nat) (o : Nat → List AV → Heap → Option Answer) : Env where
  tt := tiOf PG
  code := codeOf PG
  mode f := match md f with
    | some k => k
    | none => bif nmem f modes1 then 1 else bif nmem f modes2 then 2 else bif nmem f modes4 then 4 else bif nmem f modes3 then 3 else 0
  live f b := liveOf f b liveTab
  orc := o
noncomputable def envO (l : List Known) : Env := envM (fun _ => none) (orcOf l)
theorem envM_ok {md : Nat → Option Nat} {l : List Known} (h : ∀ k ∈ l, k.Ok PG) : EnvOk PG (envM md (orcOf l)) := ⟨tt_ok rfl, orc_ok h⟩
theorem envM_code {md : Nat → Option Nat} {o : Nat → List AV → Heap → Option Answer} : CodeOk PG (envM md o) := codeOf_ok rfl
theorem mixed : PG.follows .mixedOrders = true := by kernel_rfl
theorem con_of {md : Nat → Option Nat} {l : List Known} (h : ∀ k ∈ l, k.Ok PG) {n f : Nat} {args : List AV} {r : AV} (e : callT (envM md (orcOf l)) n f args = some r) : Contract PG f args [] r [] :=
  callT_ok (envM_ok h) envM_code mixed e
def F_main_main : Nat := 0
def F_gosem_cut : Nat := 1
def F_gosem_cut_init : Nat := 2
def F_lockgatelaw25_WorldConfs : Nat := 3
def F_lockgatelaw25_awake : Nat := 4
def F_world_Right : Nat := 5
def F_lockgateref25_Right : Nat := 6
def F_world_New : Nat := 7
def F_world_World_Book : Nat := 8
def F_world_World_Way : Nat := 9
def F_world_World_Homes : Nat := 10
def F_world_World_Calls : Nat := 11
def F_world_World_Up : Nat := 12
def F_lockgateref25_Conf : Nat := 13
def F_lockgateref25_Play : Nat := 14
def F_world_World_Heal : Nat := 15
def F_world_World_Rows : Nat := 16
def F_world_Right_c1 : Nat := 17
def F_disk_New : Nat := 18
def F_store_Open : Nat := 19
def F_keeper_Open : Nat := 20
def F_node_New : Nat := 21
def F_client_New : Nat := 22
def F_keeper_Keeper_Bureau : Nat := 23
def F_twin_Home : Nat := 24
def F_slices_Clone_api_Done : Nat := 25
def F_world_rest : Nat := 26
def F_world_World_processes : Nat := 27
def F_world_World_Do : Nat := 28
def F_disk_Disk_Arm : Nat := 29
def F_disk_Disk_Down : Nat := 30
def F_world_World_start : Nat := 31
def F_world_World_tick : Nat := 32
def F_world_World_deliver : Nat := 33
def F_store_Store_Rows : Nat := 34
def F_wal_Open : Nat := 35
def F_store_Store_load : Nat := 36
def F_msg_Get : Nat := 37
def F_store_Store_has : Nat := 38
def F_store_Store_do : Nat := 39
def F_coord_New : Nat := 40
def F_keeper_Get : Nat := 41
def F_coord_Open : Nat := 42
def F_head_New : Nat := 43
def F_twin_Bureau : Nat := 44
def F_slices_Clone_api_Desk : Nat := 45
def F_twin_Desk : Nat := 46
def F_world_deeds : Nat := 47
def F_disk_Disk_Crash : Nat := 48
def F_world_World_take : Nat := 49
def F_client_Tick : Nat := 50
def F_world_World_decide : Nat := 51
def F_keeper_Keeper_Tick : Nat := 52
def F_world_World_send : Nat := 53
def F_node_Tick : Nat := 54
def F_net_Take : Nat := 55
def F_world_World_arrive : Nat := 56
def F_slices_Clone_api_Row : Nat := 57
def F_wal_inFront : Nat := 58
def F_frame_Scan : Nat := 59
def F_frame_Put : Nat := 60
def F_bytes_HasPrefix : Nat := 61
def F_wal_replace : Nat := 62
def F_table_Apply : Nat := 63
def F_msg_into_int : Nat := 64
def F_wire_GetInt : Nat := 65
def F_msg_into_bool : Nat := 66
def F_wire_GetBool : Nat := 67
def F_msg_into_string : Nat := 68
def F_wire_GetText : Nat := 69
def F_msg_into_api_Ver : Nat := 70
def F_wire_GetVer : Nat := 71
def F_msg_into_api_Op : Nat := 72
def F_entry_GetOp : Nat := 73
def F_msg_into_api_Entry : Nat := 74
def F_msg_listOf_api_Entry : Nat := 75
def F_entry_Get : Nat := 76
def F_msg_into_api_Member : Nat := 77
def F_msg_listOf_api_Member : Nat := 78
def F_msg_getMember : Nat := 79
def F_msg_into_api_View : Nat := 80
def F_msg_listOf_api_View : Nat := 81
def F_msg_getView : Nat := 82
def F_msg_into_api_Image : Nat := 83
def F_msg_GetImage : Nat := 84
def F_ver_Later : Nat := 85
def F_table_Collect : Nat := 86
def F_slices_Clone_api_Member : Nat := 87
def F_bytes_Equal : Nat := 88
def F_keeper_Put : Nat := 89
def F_twin_Book : Nat := 90
def F_chain_New : Nat := 91
def F_slices_Clone_api_Alive : Nat := 92
def F_slices_Clone_api_Work : Nat := 93
def F_twin_Msgs : Nat := 94
def F_twin_Rep : Nat := 95
def F_slices_Clone_api_Entry : Nat := 96
def F_slices_Clone_api_Item : Nat := 97
def F_slices_Clone_api_Wait : Nat := 98
def F_slices_Clone_api_Ask : Nat := 99
def F_world_World_doCall : Nat := 100
def F_world_World_doDeliver : Nat := 101
def F_world_World_doDrop : Nat := 102
def F_world_World_doCopy : Nat := 103
def F_world_World_doTick : Nat := 104
def F_world_World_doCrash : Nat := 105
def F_world_World_doStart : Nat := 106
def F_world_World_doArm : Nat := 107
def F_world_World_doReset : Nat := 108
def F_disk_state_do : Nat := 109
def F_disk_state_clone : Nat := 110
def F_twin_Friend : Nat := 111
def F_client_caller_done : Nat := 112
def F_client_caller_sends : Nat := 113
def F_client_caller_askMap : Nat := 114
def F_keeper_Keeper_do : Nat := 115
def F_keeper_Keeper_Tick_c1 : Nat := 116
def F_coord_Tick : Nat := 117
def F_net_Send : Nat := 118
def F_msg_Put : Nat := 119
def F_view_Live : Nat := 120
def F_head_Tick : Nat := 121
def F_net_own : Nat := 122
def F_net_place : Nat := 123
def F_slices_Delete_api_Packet : Nat := 124
def F_store_Store_Handle : Nat := 125
def F_keeper_Keeper_Handle : Nat := 126
def F_node_Handle : Nat := 127
def F_client_Handle : Nat := 128
def F_disk_Disk_First : Nat := 129
def F_disk_Disk_Read : Nat := 130
def F_frame_number : Nat := 131
def F_hash_Sum : Nat := 132
def F_frame_low : Nat := 133
def F_wal_replace_c1 : Nat := 134
def F_disk_Disk_Wipe : Nat := 135
def F_wal_replace_c2 : Nat := 136
def F_disk_Disk_Append : Nat := 137
def F_disk_Disk_Sync : Nat := 138
def F_wal_replace_c3 : Nat := 139
def F_disk_Disk_Front : Nat := 140
def F_ver_Ahead : Nat := 141
def F_table_place : Nat := 142
def F_table_raise : Nat := 143
def F_table_rowOf : Nat := 144
def F_slices_SortFunc_api_Row : Nat := 145
def F_table_Apply_c1 : Nat := 146
def F_cmp_Compare_string : Nat := 147
def F_wire_groups : Nat := 148
def F_ver_Make : Nat := 149
def F_entry_into_int : Nat := 150
def F_entry_into_string : Nat := 151
def F_entry_into_bool : Nat := 152
def F_msg_listOf_api_Entry__c1 : Nat := 153
def F_entry_into_api_Ver : Nat := 154
def F_msg_listOf_api_Member__c1 : Nat := 155
def F_msg_done_api_Member : Nat := 156
def F_msg_listOf_api_View__c1 : Nat := 157
def F_msg_done_api_View : Nat := 158
def F_msg_into_api_Seen : Nat := 159
def F_msg_listOf_api_Seen : Nat := 160
def F_msg_getSeen : Nat := 161
def F_msg_done_api_Image : Nat := 162
def F_slices_Clone_api_Plan : Nat := 163
def F_slices_Clone_api_Msg : Nat := 164
def F_twin_Msg : Nat := 165
def F_slices_Clone_api_Seen : Nat := 166
def F_slices_Clone_bool : Nat := 167
def F_client_Start : Nat := 168
def F_net_Drop : Nat := 169
def F_net_Copy : Nat := 170
def F_slices_Clone_byte : Nat := 171
def F_twin_Views : Nat := 172
def F_hash_Shard : Nat := 173
def F_view_Head : Nat := 174
def F_wal_Log_Add : Nat := 175
def F_wal_Log_Flush : Nat := 176
def F_wal_Log_Size : Nat := 177
def F_wal_Log_Save : Nat := 178
def F_coord_desk_look : Nat := 179
def F_coord_desk_again : Nat := 180
def F_wire_Int : Nat := 181
def F_wire_Bool : Nat := 182
def F_wire_Text : Nat := 183
def F_wire_Ver : Nat := 184
def F_entry_PutOp : Nat := 185
def F_msg_putList_api_Entry : Nat := 186
def F_entry_Put : Nat := 187
def F_msg_putList_api_Member : Nat := 188
def F_msg_putMember : Nat := 189
def F_msg_putList_api_View : Nat := 190
def F_msg_putView : Nat := 191
def F_msg_putImage : Nat := 192
def F_chain_Again : Nat := 193
def F_flush_Msg : Nat := 194
def F_head_read : Nat := 195
def F_slices_Clone_api_Packet : Nat := 196
def F_store_right : Nat := 197
def F_store_kinds : Nat := 198
def F_keeper_Keeper_Handle_c1 : Nat := 199
def F_coord_Handle : Nat := 200
def F_head_Handle : Nat := 201
def F_client_caller_unlessAskMap : Nat := 202
def F_client_know : Nat := 203
def F_disk_isArea : Nat := 204
def F_disk_Disk_change : Nat := 205
def F_disk_Disk_count : Nat := 206
def F_slices_BinarySearchFunc_string : Nat := 207
def F_table_place_c1 : Nat := 208
def F_slices_pdqsortCmpFunc_api_Row : Nat := 209
def F_math_bits_Len : Nat := 210
def F_cmp_isNaN_string : Nat := 211
def F_msg_listOf_api_Seen__c1 : Nat := 212
def F_msg_done_api_Seen : Nat := 213
def F_slices_Clone_api_View : Nat := 214
def F_coord_Up : Nat := 215
def F_coord_desk_begin : Nat := 216
def F_coord_oneDown : Nat := 217
def F_coord_oneUp : Nat := 218
def F_coord_desk_grows : Nat := 219
def F_coord_desk_end : Nat := 220
def F_coord_frozen : Nat := 221
def F_coord_desk_activate : Nat := 222
def F_ver_Epoch : Nat := 223
def F_ver_Num : Nat := 224
def F_msg_putList_api_Seen : Nat := 225
def F_msg_putSeen : Nat := 226
def F_chain_syncs : Nat := 227
def F_chain_first : Nat := 228
def F_chain_install : Nat := 229
def F_chain_works : Nat := 230
def F_view_Behind : Nat := 231
def F_chain_forward : Nat := 232
def F_view_Ahead : Nat := 233
def F_chain_acked : Nat := 234
def F_ver_Right : Nat := 235
def F_store_Store_onFence : Nat := 236
def F_store_Store_onFlush : Nat := 237
def F_store_Store_onRead : Nat := 238
def F_coord_deeds : Nat := 239
def F_chain_Head : Nat := 240
def F_head_work_call : Nat := 241
def F_head_work_value : Nat := 242
def F_head_work_fits : Nat := 243
def F_flush_Flushed : Nat := 244
def F_head_work_other : Nat := 245
def F_head_work_behind : Nat := 246
def F_slices_IndexFunc_api_View : Nat := 247
def F_client_know_c1 : Nat := 248
def F_slices_insertionSortCmpFunc_api_Row : Nat := 249
def F_slices_heapSortCmpFunc_api_Row : Nat := 250
def F_slices_breakPatternsCmpFunc_api_Row : Nat := 251
def F_slices_choosePivotCmpFunc_api_Row : Nat := 252
def F_slices_reverseRangeCmpFunc_api_Row : Nat := 253
def F_slices_partialInsertionSortCmpFunc_api_Row : Nat := 254
def F_slices_partitionEqualCmpFunc_api_Row : Nat := 255
def F_slices_partitionCmpFunc_api_Row : Nat := 256
def F_math_bits_Len32 : Nat := 257
def F_math_bits_Len64 : Nat := 258
def F_place_Both : Nat := 259
def F_slices_ContainsFunc_api_Member : Nat := 260
def F_coord_oneDown_c1 : Nat := 261
def F_coord_isUp : Nat := 262
def F_coord_oneUp_c1 : Nat := 263
def F_slices_Equal_api_Member : Nat := 264
def F_coord_desk_grows_c1 : Nat := 265
def F_coord_desk_grows_c1_c1 : Nat := 266
def F_coord_desk_may : Nat := 267
def F_coord_best : Nat := 268
def F_place_Chain : Nat := 269
def F_place_Lead : Nat := 270
def F_coord_desk_wasReset : Nat := 271
def F_chain_to : Nat := 272
def F_view_Index : Nat := 273
def F_ver_whole : Nat := 274
def F_store_answer : Nat := 275
def F_store_Store_add : Nat := 276
def F_store_Store_tidy : Nat := 277
def F_table_Find : Nat := 278
def F_coord_desk_open : Nat := 279
def F_coord_desk_askMap : Nat := 280
def F_coord_desk_beat : Nat := 281
def F_coord_desk_fenced : Nat := 282
def F_coord_desk_froze : Nat := 283
def F_coord_desk_reset : Nat := 284
def F_head_work_refuse : Nat := 285
def F_head_Check : Nat := 286
def F_seen_Find : Nat := 287
def F_seen_Verdict : Nat := 288
def F_head_work_wait : Nat := 289
def F_chain_Commit : Nat := 290
def F_head_work_fresh : Nat := 291
def F_slices_Delete_api_Ask : Nat := 292
def F_lru_Put : Nat := 293
def F_head_work_calls : Nat := 294
def F_flush_copied : Nat := 295
def F_flush_Flushed_c1 : Nat := 296
def F_slices_DeleteFunc_api_Item : Nat := 297
def F_chain_Handle : Nat := 298
def F_tail_Rise : Nat := 299
def F_head_work_clean : Nat := 300
def F_chain_Lift : Nat := 301
def F_flush_Trim : Nat := 302
def F_head_work_mark : Nat := 303
def F_head_work_answer : Nat := 304
def F_flush_Start : Nat := 305
def F_slices_siftDownCmpFunc_api_Row : Nat := 306
def F_slices_nextPowerOfTwo : Nat := 307
def F_slices_xorshift_Next : Nat := 308
def F_slices_medianAdjacentCmpFunc_api_Row : Nat := 309
def F_slices_medianCmpFunc_api_Row : Nat := 310
def F_slices_IndexFunc_api_Member : Nat := 311
def F_coord_desk_may_c1 : Nat := 312
def F_coord_desk_gone : Nat := 313
def F_place_turn : Nat := 314
def F_place_Chain_c1 : Nat := 315
def F_coord_desk_answer : Nat := 316
def F_slices_DeleteFunc_api_Msg : Nat := 317
def F_coord_desk_wasReset_c1 : Nat := 318
def F_math_Trunc : Nat := 319
def F_store_Store_picture : Nat := 320
def F_slices_IndexFunc_api_Msg : Nat := 321
def F_coord_desk_open_c1 : Nat := 322
def F_slices_Delete_api_Msg : Nat := 323
def F_slices_BinarySearchFunc_int : Nat := 324
def F_coord_desk_beat_c1 : Nat := 325
def F_slices_Insert_api_Alive : Nat := 326
def F_coord_desk_has : Nat := 327
def F_coord_desk_notes : Nat := 328
def F_head_work_to : Nat := 329
def F_seen_search : Nat := 330
def F_head_work_wait_c1 : Nat := 331
def F_slices_DeleteFunc_api_Wait : Nat := 332
def F_head_needs : Nat := 333
def F_head_writes : Nat := 334
def F_head_work_find : Nat := 335
def F_head_work_ask : Nat := 336
def F_head_Resolve : Nat := 337
def F_ver_Next : Nat := 338
def F_chain_Push : Nat := 339
def F_lru_Out : Nat := 340
def F_lru_Size : Nat := 341
def F_lru_size : Nat := 342
def F_slices_IndexFunc_api_Item : Nat := 343
def F_chain_own : Nat := 344
def F_chain_kinds : Nat := 345
def F_tail_ends : Nat := 346
def F_tail_settled : Nat := 347
def F_tail_Lift : Nat := 348
def F_flush_Trim_c1 : Nat := 349
def F_mark_Next : Nat := 350
def F_tail_Bytes : Nat := 351
def F_tail_Batch : Nat := 352
def F_slices_order2CmpFunc_api_Row : Nat := 353
def F_slices_ContainsFunc_api_Alive : Nat := 354
def F_coord_desk_gone_c1 : Nat := 355
def F_math_archTrunc : Nat := 356
def F_math_trunc : Nat := 357
def F_slices_overlaps_api_Alive : Nat := 358
def F_slices_rotateRight_api_Alive : Nat := 359
def F_slices_BinarySearchFunc_int_360 : Nat := 360
def F_seen_search_c1 : Nat := 361
def F_cmp_Compare_int : Nat := 362
def F_slices_IndexFunc_api_Wait : Nat := 363
def F_tail_Value : Nat := 364
def F_lru_Get : Nat := 365
def F_chain_push : Nat := 366
def F_lru_Out_c1 : Nat := 367
def F_chain_onFreeze : Nat := 368
def F_chain_onActivate : Nat := 369
def F_chain_onInstall : Nat := 370
def F_chain_onInstalled : Nat := 371
def F_chain_onForward : Nat := 372
def F_chain_onAcked : Nat := 373
def F_slices_DeleteFunc_api_Entry : Nat := 374
def F_tail_Lift_c1 : Nat := 375
def F_entry_Size : Nat := 376
def F_slices_SortFunc_int : Nat := 377
def F_tail_Batch_c1 : Nat := 378
def F_slices_IndexFunc_api_Alive : Nat := 379
def F_math_Abs : Nat := 380
def F_math_Copysign : Nat := 381
def F_math_Float64bits : Nat := 382
def F_math_Float64frombits : Nat := 383
def F_slices_rotateLeft_api_Alive : Nat := 384
def F_cmp_isNaN_int : Nat := 385
def F_slices_Backward_api_Entry : Nat := 386
def F_lru_Get_c1 : Nat := 387
def F_tail_Push : Nat := 388
def F_seen_Put : Nat := 389
def F_seen_Of : Nat := 390
def F_chain_viewOf : Nat := 391
def F_slices_Contains_bool : Nat := 392
def F_chain_from : Nat := 393
def F_chain_takeUp : Nat := 394
def F_slices_IndexFunc_api_Entry : Nat := 395
def F_slices_pdqsortCmpFunc_int : Nat := 396
def F_slices_Reverse_api_Alive : Nat := 397
def F_slices_Backward_api_Entry_api_Entry__c1 : Nat := 398
def F_slices_Insert_api_Seen : Nat := 399
def F_slices_Index_bool : Nat := 400
def F_slices_insertionSortCmpFunc_int : Nat := 401
def F_slices_heapSortCmpFunc_int : Nat := 402
def F_slices_breakPatternsCmpFunc_int : Nat := 403
def F_slices_choosePivotCmpFunc_int : Nat := 404
def F_slices_reverseRangeCmpFunc_int : Nat := 405
def F_slices_partialInsertionSortCmpFunc_int : Nat := 406
def F_slices_partitionEqualCmpFunc_int : Nat := 407
def F_slices_partitionCmpFunc_int : Nat := 408
def F_slices_overlaps_api_Seen : Nat := 409
def F_slices_rotateRight_api_Seen : Nat := 410
def F_slices_siftDownCmpFunc_int : Nat := 411
def F_slices_medianAdjacentCmpFunc_int : Nat := 412
def F_slices_medianCmpFunc_int : Nat := 413
def F_slices_rotateLeft_api_Seen : Nat := 414
def F_slices_order2CmpFunc_int : Nat := 415
def F_slices_Reverse_api_Seen : Nat := 416
def F_store_Store_Fence : Nat := 432
end Go.Wk
end

section
/- Contracts of the library's Clone: a list's copy reads as the list. -/
open Go Go.AM Go.Md
namespace Go.Wk
set_option maxRecDepth 100000
set_option maxHeartbeats 1000000

noncomputable def env0 : Env := envO []
theorem con0 {n f : Nat} {args : List AV} {r : AV} (e : callT env0 n f args = some r) : Contract PG f args [] r [] := con_of (md := fun _ => none) (l := []) (fun k hk => by cases hk) e

theorem clone_of {X : Type} {F sz b : Nat} {e : X → List AV} {z : X} (hb : b ≤ 1000) (hn : callT env0 2 F [.nils] = some .nils) (he : callT env0 2 F [.trl sz []] = some (.trl sz []))
    (hs : ∀ n f, callT env0 2 F [.tr sz (n + 1) f] = bif Nat.ble ((0 + (n + 1)) * b) 140737488355328 && Nat.ble (0 + (n + 1)) 140737488355328 then bif Nat.ble (n + 1) (n + 1) then some (.tr sz (n + 1) f) else none else none)
    (l : List X) (hl : l.length ≤ LB) : Contract PG F [encL sz e z l] [] (encL sz e z l) [] := by
  unfold LB at hl
  cases l with
  | nil => exact Contract.split (OrC.of [] [] .nil) ((con0 hn).res .nils) ((con0 he).res (SubV.trl_encL (e := e) (z := z) []))
  | cons x r =>
    have h := hs r.length (fun i => e ((x :: r).getD i z))
    simp only [List.length_cons] at hl
    have h1 : (0 + (r.length + 1)) * b ≤ 140737488355328 := by
      have : (0 + (r.length + 1)) * b ≤ 1000000 * 1000 := Nat.mul_le_mul (by omega) hb
      omega
    rw [ble_true h1, ble_true (by omega), ble_true (Nat.le_refl _)] at h
    exact con0 h

theorem clone_Member_eq (n : Nat) (f : Nat → List AV) : callT env0 2 F_slices_Clone_api_Member [.tr 2 (n + 1) f] = bif Nat.ble ((0 + (n + 1)) * 16) 140737488355328 && Nat.ble (0 + (n + 1)) 140737488355328 then bif Nat.ble (n + 1) (n + 1) then some (.tr 2 (n + 1) f) else none else none := by kernel_rfl
theorem clone_Entry_eq (n : Nat) (f : Nat → List AV) : callT env0 2 F_slices_Clone_api_Entry [.tr 11 (n + 1) f] = bif Nat.ble ((0 + (n + 1)) * 112) 140737488355328 && Nat.ble (0 + (n + 1)) 140737488355328 then bif Nat.ble (n + 1) (n + 1) then some (.tr 11 (n + 1) f) else none else none := by kernel_rfl
theorem clone_Seen_eq (n : Nat) (f : Nat → List AV) : callT env0 2 F_slices_Clone_api_Seen [.tr 7 (n + 1) f] = bif Nat.ble ((0 + (n + 1)) * 72) 140737488355328 && Nat.ble (0 + (n + 1)) 140737488355328 then bif Nat.ble (n + 1) (n + 1) then some (.tr 7 (n + 1) f) else none else none := by kernel_rfl

theorem clone_Member (l : List Member) (h : l.length ≤ LB) : Contract PG F_slices_Clone_api_Member [encMembers l] [] (encMembers l) [] :=
  clone_of (b := 16) (by omega) (by kernel_rfl) (by kernel_rfl) clone_Member_eq l h
theorem clone_Entry (l : List Entry) (h : l.length ≤ LB) : Contract PG F_slices_Clone_api_Entry [encEntrys l] [] (encEntrys l) [] :=
  clone_of (b := 112) (by omega) (by kernel_rfl) (by kernel_rfl) clone_Entry_eq l h
theorem clone_Seen (l : List Seen) (h : l.length ≤ LB) : Contract PG F_slices_Clone_api_Seen [encSeens l] [] (encSeens l) [] :=
  clone_of (b := 72) (by omega) (by kernel_rfl) (by kernel_rfl) clone_Seen_eq l h

/-- a function of one list, that answers it -/
def dL {X : Type} (d : List AV → X) (a : List AV) : List X := decL d (a.getD 0 .nils)
def shortL {X : Type} (l : List X) : Prop := l.length ≤ LB

def eMems (l : List Member) : List AV := [encMembers l]
def eEnts (l : List Entry) : List AV := [encEntrys l]
def eSeens (l : List Seen) : List AV := [encSeens l]
def eBools (l : List Bool) : List AV := [encBools l]
theorem qMems {R : Type} {l : List Member} {k : List Member → Option R} (h : shortL l) : gC (dL decMember) shortL eMems [encMembers l] k = k l := gC_eq l (decMembers l) h (.refl _)
theorem qEnts {R : Type} {l : List Entry} {k : List Entry → Option R} (h : shortL l) : gC (dL decEntry) shortL eEnts [encEntrys l] k = k l := gC_eq l (decEntrys l) h (.refl _)
theorem qSeens {R : Type} {l : List Seen} {k : List Seen → Option R} (h : shortL l) : gC (dL decSeen) shortL eSeens [encSeens l] k = k l := gC_eq l (decSeens l) h (.refl _)
theorem qBools {R : Type} {l : List Bool} {k : List Bool → Option R} (h : shortL l) : gC (dL decBool) shortL eBools [encBools l] k = k l := gC_eq l (decBools l) h (.refl _)
noncomputable def kCloneMember : Known := .spec F_slices_Clone_api_Member (dL decMember) shortL eMems encMembers
noncomputable def kCloneEntry : Known := .spec F_slices_Clone_api_Entry (dL decEntry) shortL eEnts encEntrys
noncomputable def kCloneSeen : Known := .spec F_slices_Clone_api_Seen (dL decSeen) shortL eSeens encSeens
theorem kCloneMember_ok : kCloneMember.Ok PG := Known.spec_ok clone_Member
theorem kCloneEntry_ok : kCloneEntry.Ok PG := Known.spec_ok clone_Entry
theorem kCloneSeen_ok : kCloneSeen.Ok PG := Known.spec_ok clone_Seen
end Go.Wk
end

section
/- Tables of calls that are known at single points; values held against what is written out. -/
open Go Go.AM
namespace Go.Wk
set_option linter.unusedVariables false
set_option linter.unusedSimpArgs false
theorem ank : ∀ x ∈ ([] : List Known), x.Ok PG := fun x hx => by cases hx
theorem ak {k : Known} {l : List Known} (h : k.Ok PG) (t : ∀ x ∈ l, x.Ok PG) : ∀ x ∈ k :: l, x.Ok PG := fun x hx => by
  rcases List.mem_cons.1 hx with rfl | hx
  · exact h
  · exact t x hx
def zipAll (s : AV → AV → Bool) : List AV → List AV → Bool
  | [], [] => true
  | a :: r, b :: t => bif s a b then zipAll s r t else false
  | _, _ => false
def trlAll (s : AV → AV → Bool) : List (List AV) → List (List AV) → Bool
  | [], [] => true
  | a :: r, b :: t => bif zipAll s a b then trlAll s r t else false
  | _, _ => false
def trAll (s : AV → AV → Bool) (f : Nat → List AV) : Nat → List (List AV) → Bool
  | _, [] => true
  | i, b :: t => bif zipAll s (f i) b then trAll s f (i + 1) t else false
/-- does the first say no more than the second, which is written out? -/
def subT : Nat → AV → AV → Bool
  | 0, _, _ => false
  | n + 1, a, b => match a with
    | .bool x => match b with
      | .bool y => bif x then y else !y
      | _ => false
    | .int k x => match b with
      | .int j y => decide (k = j) && decide (x = y)
      | _ => false
    | .flt k x => match b with
      | .flt j y => decide (k = j) && Nat.beq x y
      | _ => false
    | .cplx k x x' => match b with
      | .cplx j y y' => decide (k = j) && (Nat.beq x y && Nat.beq x' y')
      | _ => false
    | .str x => match b with
      | .str y => strBeq x y
      | _ => false
    | .nils => match b with
      | .nils => true
      | _ => false
    | .tr s m f => match b with
      | .trl t es => Nat.beq s t && (Nat.beq m es.length && (Nat.ble 1 m && trAll (subT n) f 0 es))
      | _ => false
    | .trl s es => match b with
      | .trl t ds => Nat.beq s t && trlAll (subT n) es ds
      | _ => false
    | .agg cs => match b with
      | .agg ds => zipAll (subT n) cs ds
      | _ => false
    | .tup cs => match b with
      | .tup ds => zipAll (subT n) cs ds
      | _ => false
    | _ => false
theorem bif_t {c d : Bool} (e : (bif c then d else false) = true) : c = true ∧ d = true := by
  cases c with
  | true => exact ⟨rfl, e⟩
  | false => cases e
theorem zipAll_ok {s : AV → AV → Bool} (h : ∀ a b, s a b = true → SubV a b) : ∀ {l m : List AV}, zipAll s l m = true → SubC l m
  | [], [], _ => .nil
  | a :: r, b :: t, e => by
    obtain ⟨h1, h2⟩ := bif_t e
    exact .cons (h _ _ h1) (zipAll_ok h h2)
  | [], _ :: _, e => by cases e
  | _ :: _, [], e => by cases e
theorem trlAll_ok {s : AV → AV → Bool} (h : ∀ a b, s a b = true → SubV a b) : ∀ {l m : List (List AV)}, trlAll s l m = true → l.length = m.length ∧ ∀ i, i < l.length → SubC (l.getD i []) (m.getD i [])
  | [], [], _ => ⟨rfl, fun i hi => absurd hi (Nat.not_lt_zero i)⟩
  | a :: r, b :: t, e => by
    obtain ⟨h1, h2⟩ := bif_t e
    obtain ⟨h3, h4⟩ := trlAll_ok h h2
    refine ⟨by simp [h3], fun i hi => ?_⟩
    cases i with
    | zero => exact zipAll_ok h h1
    | succ i => simpa using h4 i (by simpa using hi)
  | [], _ :: _, e => by cases e
  | _ :: _, [], e => by cases e
theorem trAll_ok {s : AV → AV → Bool} (h : ∀ a b, s a b = true → SubV a b) {f : Nat → List AV} : ∀ {m : List (List AV)} {j : Nat}, trAll s f j m = true → ∀ i, i < m.length → SubC (f (j + i)) (m.getD i [])
  | [], _, _, i, hi => absurd hi (Nat.not_lt_zero i)
  | b :: t, j, e, i, hi => by
    obtain ⟨h1, h2⟩ := bif_t e
    cases i with
    | zero => exact zipAll_ok h h1
    | succ i =>
      have := trAll_ok h h2 i (by simpa using hi)
      rw [show j + 1 + i = j + (i + 1) from by omega] at this
      simpa using this
theorem SubV.trlL {sz : Nat} {a b : List (List AV)} (hl : a.length = b.length) (h : ∀ i, i < a.length → SubC (a.getD i []) (b.getD i [])) : SubV (.trl sz a) (.trl sz b) := by
  intro w I u hv
  cases hv with
  | trl _ _ _ h1 hz =>
    refine .trl _ _ _ ?_ hz
    rw [← hl]
    exact SubV.trs h w I u h1
theorem subT_ok : ∀ (n : Nat) (a b : AV), subT n a b = true → SubV a b
  | 0, a, b, h => by cases h
  | n + 1, a, b, h => by
    have ih := subT_ok n
    cases a <;> cases b
    all_goals first | (exact absurd h Bool.false_ne_true) | skip
    all_goals simp only [subT, Bool.and_eq_true, decide_eq_true_eq] at h
    case bool.bool x y => cases x <;> cases y <;> first | exact .refl _ | cases h
    case int.int => obtain ⟨rfl, rfl⟩ := h; exact .refl _
    case flt.flt => obtain ⟨rfl, h2⟩ := h; have := Nat.eq_of_beq_eq_true h2; subst this; exact .refl _
    case cplx.cplx => obtain ⟨rfl, h2, h3⟩ := h; have := Nat.eq_of_beq_eq_true h2; subst this; have := Nat.eq_of_beq_eq_true h3; subst this; exact .refl _
    case str.str => rw [strBeq_eq, beq_iff_eq] at h; subst h; exact .refl _
    case nils.nils => exact .refl _
    case tr.trl =>
      obtain ⟨h1, h2, h3, h4⟩ := h
      have := Nat.eq_of_beq_eq_true h1
      subst this
      have := Nat.eq_of_beq_eq_true h2
      subst this
      exact SubV.toTrl (Nat.le_of_ble_eq_true h3) fun i hi => by
        have := trAll_ok ih h4 i hi
        rwa [Nat.zero_add] at this
    case trl.trl =>
      obtain ⟨h1, h2⟩ := h
      have := Nat.eq_of_beq_eq_true h1
      subst this
      obtain ⟨h3, h4⟩ := trlAll_ok ih h2
      exact SubV.trlL h3 h4
    case agg.agg => exact .agg (zipAll_ok ih h)
    case tup.tup => exact .tup (zipAll_ok ih h)
/-! ### tables -/
abbrev Rw := List AV × AV
def findRow (args : List AV) : List Rw → Option AV
  | [] => none
  | r :: t => bif zipAll (subT 9) args r.1 then some r.2 else findRow args t
noncomputable def Known.tab (f : Nat) (rows : List Rw) : Known :=
  { f := f, ans := fun args hp => match hp with
      | [] => match findRow args rows with
        | some v => some { X := Unit, g := true, a := (), r := fun _ => (v, []) }
        | none => none
      | _ => none }
theorem findRow_ok {args : List AV} {v : AV} : ∀ {rows : List Rw}, findRow args rows = some v → ∃ r ∈ rows, SubC args r.1 ∧ r.2 = v
  | [], h => by cases h
  | r :: t, h => by
    unfold findRow at h
    cases e : zipAll (subT 9) args r.1 with
    | true => rw [e] at h; cases h; exact ⟨r, by simp, zipAll_ok (subT_ok 9) e, rfl⟩
    | false => rw [e] at h; obtain ⟨r', h1, h2⟩ := findRow_ok h; exact ⟨r', by simp [h1], h2⟩
theorem Known.tab_ok {P : Program} {f : Nat} {rows : List Rw} (h : ∀ r ∈ rows, Contract P f r.1 [] r.2 []) : (Known.tab f rows).Ok P := by
  intro args hp A e hg
  cases hp with
  | nil =>
    change (match findRow args rows with | some v => _ | none => _) = some A at e
    cases e1 : findRow args rows with
    | none => rw [e1] at e; cases e
    | some v =>
      rw [e1] at e
      cases e
      obtain ⟨r, h1, h2, h3⟩ := findRow_ok e1
      exact ⟨h3 ▸ (h r h1).args h2, Nat.le_refl _⟩
  | cons x r => cases e
/-- does a call answer so? -/
def isAns (o : Option AV) (v : AV) : Bool := match o with
  | some r => subT 9 r v
  | none => false
theorem con_tab {md : Nat → Option Nat} {l : List Known} (h : ∀ k ∈ l, k.Ok PG) {n f : Nat} {args : List AV} {r : AV} (e : isAns (callT (envM md (orcOf l)) n f args) r = true) : Contract PG f args [] r [] := by
  unfold isAns at e
  cases e1 : callT (envM md (orcOf l)) n f args with
  | none => rw [e1] at e; cases e
  | some v => rw [e1] at e; exact (con_of h e1).res (subT_ok 9 _ _ e)
end Go.Wk
end

section
/- The whole part of a float, at two points. -/
open Go Go.AM
namespace Go.Wk
set_option maxRecDepth 100000
theorem trunc_at {x y : Nat} (h : ∀ w : World, (callFunc F_math_archTrunc #[.float .f64 x]).run PG w = .ok (.value (.float .f64 y)) w) : Contract PG F_math_archTrunc [.flt .f64 x] [] (.flt .f64 y) [] := by
  intro w I φ ra hh hx
  have hra : ra = #[.float .f64 x] := by
    obtain ⟨h1, h2⟩ := hx
    have hs : ra.size = 1 := h1.symm
    refine Array.ext (by simp [hs]) fun i hi hj => ?_
    have hi0 : i = 0 := by omega
    subst hi0
    have := h2 0 (.flt .f64 x) ra[0] rfl (Array.getElem?_eq_getElem hi)
    generalize hv : ra[0] = v at this
    cases this
    rfl
  subst hra
  exact .inr ⟨.float .f64 y, w, h w, φ, I, .flt _ _, hh, Step.refl _ _ _ _ _⟩
theorem trunc0 (w : World) : (callFunc F_math_archTrunc #[.float .f64 0]).run PG w = .ok (.value (.float .f64 0)) w := by kernel_rfl
theorem trunc1 (w : World) : (callFunc F_math_archTrunc #[.float .f64 4607182418800017408]).run PG w = .ok (.value (.float .f64 4607182418800017408)) w := by kernel_rfl
noncomputable def kTr : Known := Known.tab F_math_archTrunc [([.flt .f64 0], .flt .f64 0), ([.flt .f64 4607182418800017408], .flt .f64 4607182418800017408)]
theorem kTr_ok : kTr.Ok PG := Known.tab_ok fun r hr => by
  rcases List.mem_cons.1 hr with rfl | hr
  · exact trunc_at trunc0
  rcases List.mem_cons.1 hr with rfl | hr
  · exact trunc_at trunc1
  · cases hr
end Go.Wk
end

section
/- The environment of the first run. -/
open Go Go.AM
namespace Go.Wk
def mdA (f : Nat) : Option Nat := bif Nat.beq f F_slices_Clone_byte then some 5 else none
end Go.Wk
end

section
/- Confs: whether they are right. -/
open Go Go.AM Go.Md
namespace Go.Wk
set_option maxRecDepth 100000
set_option maxHeartbeats 400000
structure CF where
  n : Int
  ch : Int
  s : Int
  k : Int
  ky : Int
  vl : Int
  hi : Int
  lo : Int
  ro : Int
  ml : Int
  ba : Int
  se : Int
  su : Int
  pa : Int
  mx : Int
def encCF (c : CF) : List AV := [.int .i64 c.n, .int .i64 c.ch, .int .i64 c.s, .int .i64 c.k, .int .i64 c.ky, .int .i64 c.vl, .int .i64 c.hi, .int .i64 c.lo, .int .i64 c.ro, .int .i64 c.ml, .int .i64 c.ba, .int .i64 c.se, .int .i64 c.su, .int .i64 c.pa, .int .i64 c.mx]
theorem right1 (c : CF) : callT env0 20 F_world_Right [AV.agg (encCF c)] =
  bif decide (1 ≤ c.n) then 
    bif decide (c.n ≤ 16) then 
      bif decide (1 ≤ c.ch) then 
        bif decide (c.ch ≤ c.n) then 
          bif decide (1 ≤ c.s) then 
            bif decide (c.s ≤ 16) then 
              bif decide (1 ≤ c.k) then 
                bif decide (c.k ≤ 16) then 
                  bif decide (1 ≤ c.ky) then 
                    bif decide (c.ky ≤ 1000) then 
                      bif decide (1 ≤ c.vl) then 
                        bif decide (c.vl ≤ 1000) then 
                          bif decide (1 ≤ c.hi) then 
                            bif decide (c.hi ≤ 1048576) then 
                              bif decide (0 ≤ c.lo) then 
                                bif decide (c.lo ≤ c.hi) then 
                                  bif decide (0 ≤ c.ro) then 
                                    bif decide (c.ro ≤ 1048576) then 
                                      bif decide (2 ≤ c.ml) then 
                                        bif decide (c.ml ≤ 1000) then 
                                          bif decide (1 ≤ c.ba) then 
                                            bif decide (c.ba ≤ 1000) then 
                                              bif decide (1 ≤ c.se) then 
                                                bif decide (c.se ≤ 1000) then 
                                                  bif decide (1 ≤ c.su) then 
                                                    bif decide (c.su ≤ 1000) then 
                                                      bif decide (0 ≤ c.pa) then 
                                                        bif decide (c.pa ≤ 1048576) then 
                                                          bif decide (0 ≤ c.mx) then 
                                                            some (AV.bool (decide (c.mx ≤ 1099511627776)))
                                                          else 
                                                            some (AV.bool false)
                                                        else 
                                                          some (AV.bool false)
                                                      else 
                                                        some (AV.bool false)
                                                    else 
                                                      some (AV.bool false)
                                                  else 
                                                    some (AV.bool false)
                                                else 
                                                  some (AV.bool false)
                                              else 
                                                some (AV.bool false)
                                            else 
                                              some (AV.bool false)
                                          else 
                                            some (AV.bool false)
                                        else 
                                          some (AV.bool false)
                                      else 
                                        some (AV.bool false)
                                    else 
                                      some (AV.bool false)
                                  else 
                                    some (AV.bool false)
                                else 
                                  some (AV.bool false)
                              else 
                                some (AV.bool false)
                            else 
                              some (AV.bool false)
                          else 
                            some (AV.bool false)
                        else 
                          some (AV.bool false)
                      else 
                        some (AV.bool false)
                    else 
                      some (AV.bool false)
                  else 
                    some (AV.bool false)
                else 
                  some (AV.bool false)
              else 
                some (AV.bool false)
            else 
              some (AV.bool false)
          else 
            some (AV.bool false)
        else 
          some (AV.bool false)
      else 
        some (AV.bool false)
    else 
      some (AV.bool false)
  else 
    some (AV.bool false) := by kernel_rfl
theorem right2 (c : CF) : callT env0 40 F_lockgateref25_Right [AV.agg (encCF c)] =
  bif decide (c.n < 1) then 
    some (AV.bool false)
  else 
    bif decide (16 < c.n) then 
      some (AV.bool false)
    else 
      bif decide (c.ch < 1) then 
        some (AV.bool false)
      else 
        bif decide (c.n < c.ch) then 
          some (AV.bool false)
        else 
          bif decide (c.s < 1) then 
            some (AV.bool false)
          else 
            bif decide (16 < c.s) then 
              some (AV.bool false)
            else 
              bif decide (c.k < 1) then 
                some (AV.bool false)
              else 
                bif decide (16 < c.k) then 
                  some (AV.bool false)
                else 
                  bif decide (c.ky < 1) then 
                    some (AV.bool false)
                  else 
                    bif decide (1000 < c.ky) then 
                      some (AV.bool false)
                    else 
                      bif decide (c.vl < 1) then 
                        some (AV.bool false)
                      else 
                        bif decide (1000 < c.vl) then 
                          some (AV.bool false)
                        else 
                          bif decide (c.hi < 1) then 
                            some (AV.bool false)
                          else 
                            bif decide (1048576 < c.hi) then 
                              some (AV.bool false)
                            else 
                              bif decide (c.lo < 0) then 
                                some (AV.bool false)
                              else 
                                bif decide (c.hi < c.lo) then 
                                  some (AV.bool false)
                                else 
                                  bif decide (c.ro < 0) then 
                                    some (AV.bool false)
                                  else 
                                    bif decide (1048576 < c.ro) then 
                                      some (AV.bool false)
                                    else 
                                      bif decide (c.ml < 2) then 
                                        some (AV.bool false)
                                      else 
                                        bif decide (1000 < c.ml) then 
                                          some (AV.bool false)
                                        else 
                                          bif decide (c.ba < 1) then 
                                            some (AV.bool false)
                                          else 
                                            bif decide (1000 < c.ba) then 
                                              some (AV.bool false)
                                            else 
                                              bif decide (c.se < 1) then 
                                                some (AV.bool false)
                                              else 
                                                bif decide (1000 < c.se) then 
                                                  some (AV.bool false)
                                                else 
                                                  bif decide (c.su < 1) then 
                                                    some (AV.bool false)
                                                  else 
                                                    bif decide (1000 < c.su) then 
                                                      some (AV.bool false)
                                                    else 
                                                      bif decide (c.pa < 0) then 
                                                        some (AV.bool false)
                                                      else 
                                                        bif decide (1048576 < c.pa) then 
                                                          some (AV.bool false)
                                                        else 
                                                          bif decide (c.mx < 0) then 
                                                            some (AV.bool false)
                                                          else 
                                                            bif decide (1099511627776 < c.mx) then 
                                                              some (AV.bool false)
                                                            else 
                                                              some (AV.bool true) := by kernel_rfl
end Go.Wk
end

section
/- Confs: whether they are right. -/
open Go Go.AM Go.Md
namespace Go.Wk
set_option maxRecDepth 100000
set_option maxHeartbeats 400000
def inB (x lo hi : Int) : Bool := decide (lo ≤ x) && decide (x ≤ hi)
def rightB (c : CF) : Bool := inB c.n 1 16 && (inB c.ch 1 c.n && (inB c.s 1 16 && (inB c.k 1 16 && (inB c.ky 1 1000 && (inB c.vl 1 1000 && (inB c.hi 1 1048576 && (inB c.lo 0 c.hi && (inB c.ro 0 1048576 && (inB c.ml 2 1000 && (inB c.ba 1 1000 && (inB c.se 1 1000 && (inB c.su 1 1000 && (inB c.pa 0 1048576 && inB c.mx 0 1099511627776)))))))))))))
theorem st1 {x lo hi : Int} {a : Option AV} {r : Bool} (h : a = some (.bool r)) : (bif decide (lo ≤ x) then bif decide (x ≤ hi) then a else some (.bool false) else some (.bool false)) = some (.bool (inB x lo hi && r)) := by
  subst h; unfold inB; cases decide (lo ≤ x) <;> cases decide (x ≤ hi) <;> rfl
theorem st2 {x lo hi : Int} {a : Option AV} {r : Bool} (h : a = some (.bool r)) : (bif decide (x < lo) then some (.bool false) else bif decide (hi < x) then some (.bool false) else a) = some (.bool (inB x lo hi && r)) := by
  have h1 : decide (x < lo) = !decide (lo ≤ x) := by by_cases h : x < lo <;> simp [h] <;> omega
  have h2 : decide (hi < x) = !decide (x ≤ hi) := by by_cases h : hi < x <;> simp [h] <;> omega
  subst h; unfold inB; rw [h1, h2]; cases decide (lo ≤ x) <;> cases decide (x ≤ hi) <;> rfl
theorem right1_eq (c : CF) : callT env0 20 F_world_Right [.agg (encCF c)] = some (.bool (rightB c)) := by
  rw [right1]
  unfold rightB
  repeat' refine st1 ?_
  show _ = some (AV.bool (inB c.mx 0 1099511627776))
  unfold inB; cases decide (0 ≤ c.mx) <;> cases decide (c.mx ≤ 1099511627776) <;> rfl
theorem right2_eq (c : CF) : callT env0 40 F_lockgateref25_Right [.agg (encCF c)] = some (.bool (rightB c)) := by
  rw [right2]
  unfold rightB
  have e : ∀ b : Bool, b = (b && true) := by decide
  rw [e (inB c.mx 0 1099511627776)]
  repeat' refine st2 ?_
  rfl
theorem right1_con (c : CF) (_ : True) : Contract PG F_world_Right [.agg (encCF c)] [] (.bool (rightB c)) [] := con0 (right1_eq c)
theorem right2_con (c : CF) (_ : True) : Contract PG F_lockgateref25_Right [.agg (encCF c)] [] (.bool (rightB c)) [] := con0 (right2_eq c)
def dCF (a : List AV) : CF := ⟨getI (argC a 0) 0, getI (argC a 0) 1, getI (argC a 0) 2, getI (argC a 0) 3, getI (argC a 0) 4, getI (argC a 0) 5, getI (argC a 0) 6, getI (argC a 0) 7, getI (argC a 0) 8, getI (argC a 0) 9, getI (argC a 0) 10, getI (argC a 0) 11, getI (argC a 0) 12, getI (argC a 0) 13, getI (argC a 0) 14⟩
def pCF (_ : CF) : Prop := True
def eCF (c : CF) : List AV := [.agg (encCF c)]
theorem dCF_e (c : CF) : dCF (eCF c) = c := rfl
noncomputable def kR1 : Known := .spec F_world_Right dCF pCF eCF (fun c => .bool (rightB c))
noncomputable def kR2 : Known := .spec F_lockgateref25_Right dCF pCF eCF (fun c => .bool (rightB c))
theorem kR1_ok : kR1.Ok PG := Known.spec_ok right1_con
theorem kR2_ok : kR2.Ok PG := Known.spec_ok right2_con
end Go.Wk
end

section
/- Nodes that hold nothing: made, copied. -/
open Go Go.AM Go.Md
namespace Go.Wk
set_option maxRecDepth 100000
set_option maxHeartbeats 0
def deskV (i x y : Int) : List AV := [.int .i64 i, .int .i64 x, .int .i64 y, .int .i64 0, .int .i64 0, .int .i64 0, .int .i64 0, .nils, .int .i64 0, .cplx .f64 0 0, .cplx .f64 0 0, .nils, .nils, .cplx .f64 0 0, .nils, .int .i64 0, .nils, .nils, .nils, .bool false, .nils, .nils, .int .i64 0]
def deskL (x y : Int) : Nat → Nat → List (List AV)
  | _, 0 => []
  | i, n + 1 => deskV (i : Int) x y :: deskL x y (i + 1) n
def homeV (s : Nat) (x y : Int) : AV := .agg [.int .i64 x, .int .i64 y, .trl 23 (deskL x y 0 s)]
def nodeA (x y : Int) (c : CF) : List AV := [.agg [.int .i64 x, .int .i64 y], .agg (encCF c)]
def nodeS (s : Int) : Prop := ∀ (x y : Int) (c : CF), callT env0 40 F_node_New (nodeA x y { c with s := s }) = some (homeV s.toNat x y)
theorem node1 : nodeS 1 := fun x y c => by kernel_rfl
theorem node2 : nodeS 2 := fun x y c => by kernel_rfl
theorem node3 : nodeS 3 := fun x y c => by kernel_rfl
theorem node4 : nodeS 4 := fun x y c => by kernel_rfl
theorem node5 : nodeS 5 := fun x y c => by kernel_rfl
theorem node6 : nodeS 6 := fun x y c => by kernel_rfl
def twinS (s : Nat) : Prop := ∀ (x y : Int), callT env0 40 F_twin_Home [homeV s x y] = some (homeV s x y)
theorem twin1 : twinS 1 := fun x y => by kernel_rfl
theorem twin2 : twinS 2 := fun x y => by kernel_rfl
theorem twin3 : twinS 3 := fun x y => by kernel_rfl
theorem twin4 : twinS 4 := fun x y => by kernel_rfl
theorem twin5 : twinS 5 := fun x y => by kernel_rfl
theorem twin6 : twinS 6 := fun x y => by kernel_rfl
/-! ### as contracts -/
def isI : AV → Bool
  | .int .i64 _ => true
  | _ => false
def vI : AV → Int
  | .int _ n => n
  | _ => 0
theorem isI_eq {v : AV} (h : isI v = true) : v = .int .i64 (vI v) := by
  unfold isI at h
  split at h
  · rfl
  · cases h
def allI : List AV → Bool
  | [] => true
  | v :: r => bif isI v then allI r else false
theorem allI_eq : ∀ {l : List AV}, allI l = true → l = l.map fun v => .int .i64 (vI v)
  | [], _ => rfl
  | v :: r, h => by
    obtain ⟨h1, h2⟩ := bif_t h
    rw [List.map_cons, ← allI_eq h2, ← isI_eq h1]
def cfL (l : List AV) : CF := ⟨vI (l.getD 0 .undef), vI (l.getD 1 .undef), vI (l.getD 2 .undef), vI (l.getD 3 .undef), vI (l.getD 4 .undef), vI (l.getD 5 .undef), vI (l.getD 6 .undef), vI (l.getD 7 .undef), vI (l.getD 8 .undef), vI (l.getD 9 .undef), vI (l.getD 10 .undef), vI (l.getD 11 .undef), vI (l.getD 12 .undef), vI (l.getD 13 .undef), vI (l.getD 14 .undef)⟩
theorem cfL_eq {l : List AV} (h : allI l = true) (h2 : l.length = 15) : l = encCF (cfL l) := by
  have e := allI_eq h
  match l, h2 with
  | [a, b, c, d, f, g, i, j, k, m, n, o, p, q, r], _ => exact e
def okN (m cf : List AV) : Bool := Nat.beq m.length 2 && (Nat.beq cf.length 15 && (allI m && (allI cf && (decide (1 ≤ vI (cf.getD 2 .undef)) && decide (vI (cf.getD 2 .undef) ≤ 6)))))
noncomputable def ansV (v : AV) : Option Answer := some { X := Unit, g := true, a := (), r := fun _ => (v, []) }
noncomputable def kNode : Known :=
  { f := F_node_New, ans := fun args hp => match hp with
      | [] => match args with
        | [.agg m, .agg cf] => bif okN m cf then ansV (homeV (vI (cf.getD 2 .undef)).toNat (vI (m.getD 0 .undef)) (vI (m.getD 1 .undef))) else none
        | _ => none
      | _ => none }
theorem node_con (x y : Int) (c : CF) (h1 : 1 ≤ c.s) (h2 : c.s ≤ 6) : Contract PG F_node_New (nodeA x y c) [] (homeV c.s.toNat x y) [] := by
  obtain ⟨n, ch, s, k, ky, vl, hi, lo, ro, ml, ba, se, su, pa, mx⟩ := c
  simp only [] at h1 h2
  rcases (by omega : s = 1 ∨ s = 2 ∨ s = 3 ∨ s = 4 ∨ s = 5 ∨ s = 6) with h | h | h | h | h | h <;> subst h
  · exact con0 (node1 x y ⟨n, ch, 0, k, ky, vl, hi, lo, ro, ml, ba, se, su, pa, mx⟩)
  · exact con0 (node2 x y ⟨n, ch, 0, k, ky, vl, hi, lo, ro, ml, ba, se, su, pa, mx⟩)
  · exact con0 (node3 x y ⟨n, ch, 0, k, ky, vl, hi, lo, ro, ml, ba, se, su, pa, mx⟩)
  · exact con0 (node4 x y ⟨n, ch, 0, k, ky, vl, hi, lo, ro, ml, ba, se, su, pa, mx⟩)
  · exact con0 (node5 x y ⟨n, ch, 0, k, ky, vl, hi, lo, ro, ml, ba, se, su, pa, mx⟩)
  · exact con0 (node6 x y ⟨n, ch, 0, k, ky, vl, hi, lo, ro, ml, ba, se, su, pa, mx⟩)
theorem kNode_ok : kNode.Ok PG := by
  intro args hp A e hg
  cases hp with
  | cons x r => cases e
  | nil =>
    unfold kNode at e
    simp only [] at e
    split at e
    · rename_i m cf
      cases ho : okN m cf with
      | false => rw [ho] at e; cases e
      | true =>
        rw [ho] at e
        cases e
        unfold okN at ho
        simp only [Bool.and_eq_true, decide_eq_true_eq] at ho
        obtain ⟨h1, h2, h3, h4, h5, h6⟩ := ho
        have h1 := Nat.eq_of_beq_eq_true h1
        have h2 := Nat.eq_of_beq_eq_true h2
        have e1 := allI_eq h3
        have e2 := cfL_eq h4 h2
        have e3 : m = [.int .i64 (vI (m.getD 0 .undef)), .int .i64 (vI (m.getD 1 .undef))] := by
          match m, h1 with
          | [a, b], _ => exact e1
        refine ⟨?_, Nat.le_refl _⟩
        have := node_con (vI (m.getD 0 .undef)) (vI (m.getD 1 .undef)) (cfL cf) h5 h6
        unfold nodeA at this
        rw [← e2, ← e3] at this
        exact this
    · cases e
def okT (a b : AV) (sz : Nat) (es : List (List AV)) : Bool := isI a && (isI b && (Nat.beq sz 23 && (Nat.ble 1 es.length && (Nat.ble es.length 6 && trlAll (subT 9) es (deskL (vI a) (vI b) 0 es.length)))))
noncomputable def kTwin : Known :=
  { f := F_twin_Home, ans := fun args hp => match hp with
      | [] => match args with
        | [.agg [a, b, .trl sz es]] => bif okT a b sz es then ansV (homeV es.length (vI a) (vI b)) else none
        | _ => none
      | _ => none }
theorem twin_con (n : Nat) (x y : Int) (h1 : 1 ≤ n) (h2 : n ≤ 6) : Contract PG F_twin_Home [homeV n x y] [] (homeV n x y) [] := by
  rcases (by omega : n = 1 ∨ n = 2 ∨ n = 3 ∨ n = 4 ∨ n = 5 ∨ n = 6) with h | h | h | h | h | h <;> subst h
  · exact con0 (twin1 x y)
  · exact con0 (twin2 x y)
  · exact con0 (twin3 x y)
  · exact con0 (twin4 x y)
  · exact con0 (twin5 x y)
  · exact con0 (twin6 x y)
theorem kTwin_ok : kTwin.Ok PG := by
  intro args hp A e hg
  cases hp with
  | cons x r => cases e
  | nil =>
    unfold kTwin at e
    simp only [] at e
    split at e
    · rename_i a b sz es
      cases ho : okT a b sz es with
      | false => rw [ho] at e; cases e
      | true =>
        rw [ho] at e
        cases e
        unfold okT at ho
        simp only [Bool.and_eq_true] at ho
        obtain ⟨h1, h2, h3, h4, h5, h6⟩ := ho
        have h3 := Nat.eq_of_beq_eq_true h3
        subst h3
        have e1 := isI_eq h1
        have e2 := isI_eq h2
        obtain ⟨h7, h8⟩ := trlAll_ok (subT_ok 9) h6
        refine ⟨?_, Nat.le_refl _⟩
        refine (twin_con es.length (vI a) (vI b) (Nat.le_of_ble_eq_true h4) (Nat.le_of_ble_eq_true h5)).args ?_
        refine .cons (.agg (.cons (e1 ▸ .refl _) (.cons (e2 ▸ .refl _) (.cons (SubV.trlL h7 h8) .nil)))) .nil
    · cases e
end Go.Wk
end

section
/- A bureau of a book that holds nothing: opened, copied. -/
open Go Go.AM Go.Md
namespace Go.Wk
set_option maxRecDepth 100000
set_option maxHeartbeats 0
def planV : List AV := [.int .i64 0, .int .i64 0, .int .i64 0, .bool false, .int .i64 0, .int .i64 0, .nils, .nils]
def workV : List AV := [.bool false, .nils, .nils, .bool false]
def bookV (s : Nat) : AV := .agg [.int .i64 0, .int .i64 0, .trl 8 (List.replicate s planV)]
def burV (s : Nat) : AV := .agg [.int .i64 0, .int .i64 0, .trl 8 (List.replicate s planV), .nils, .trl 4 (List.replicate s workV), .nils, .nils]
def bt (s : Nat) : Prop := isAns (callT env0 40 F_twin_Bureau [burV s]) (burV s) = true
def co (s : Nat) : Prop := isAns (callT env0 40 F_coord_Open [bookV s]) (burV s) = true
theorem bt1 : bt 1 := by unfold bt; kernel_rfl
theorem bt2 : bt 2 := by unfold bt; kernel_rfl
theorem bt3 : bt 3 := by unfold bt; kernel_rfl
theorem bt4 : bt 4 := by unfold bt; kernel_rfl
theorem bt5 : bt 5 := by unfold bt; kernel_rfl
theorem bt6 : bt 6 := by unfold bt; kernel_rfl
theorem co1 : co 1 := by unfold co; kernel_rfl
theorem co2 : co 2 := by unfold co; kernel_rfl
theorem co3 : co 3 := by unfold co; kernel_rfl
theorem co4 : co 4 := by unfold co; kernel_rfl
theorem co5 : co 5 := by unfold co; kernel_rfl
theorem co6 : co 6 := by unfold co; kernel_rfl
theorem bt_con {s : Nat} (h : bt s) : Contract PG F_twin_Bureau [burV s] [] (burV s) [] := con_tab (md := fun _ => none) ank h
theorem co_con {s : Nat} (h : co s) : Contract PG F_coord_Open [bookV s] [] (burV s) [] := con_tab (md := fun _ => none) ank h
def btR : List Rw := [([burV 1], burV 1), ([burV 2], burV 2), ([burV 3], burV 3), ([burV 4], burV 4), ([burV 5], burV 5), ([burV 6], burV 6)]
def coR : List Rw := [([bookV 1], burV 1), ([bookV 2], burV 2), ([bookV 3], burV 3), ([bookV 4], burV 4), ([bookV 5], burV 5), ([bookV 6], burV 6)]
noncomputable def kBt : Known := Known.tab F_twin_Bureau btR
noncomputable def kCo : Known := Known.tab F_coord_Open coR
theorem kBt_ok : kBt.Ok PG := Known.tab_ok fun r hr => by
  simp only [btR, List.mem_cons, List.not_mem_nil, or_false] at hr
  rcases hr with rfl | rfl | rfl | rfl | rfl | rfl
  · exact bt_con bt1
  · exact bt_con bt2
  · exact bt_con bt3
  · exact bt_con bt4
  · exact bt_con bt5
  · exact bt_con bt6
theorem kCo_ok : kCo.Ok PG := Known.tab_ok fun r hr => by
  simp only [coR, List.mem_cons, List.not_mem_nil, or_false] at hr
  rcases hr with rfl | rfl | rfl | rfl | rfl | rfl
  · exact co_con co1
  · exact co_con co2
  · exact co_con co3
  · exact co_con co4
  · exact co_con co5
  · exact co_con co6
end Go.Wk
end

section
open Go Go.AM Go.Md
namespace Go.Wk
set_option maxRecDepth 100000
set_option maxHeartbeats 0
def mdL (f : Nat) : Option Nat := bif nmem f [F_slices_Clone_byte, F_world_World_Homes, F_world_World_Calls] then some 5 else bif Nat.beq f F_world_World_Up then some 3 else none
noncomputable def envL (l : List Known) : Env := envM mdL (orcOf l)
def pT (c : CF) : Prop := rightB c = true
noncomputable def kT1 : Known := .spec F_world_Right dCF pT eCF (fun _ => .bool true)
noncomputable def kT2 : Known := .spec F_lockgateref25_Right dCF pT eCF (fun _ => .bool true)
noncomputable def kAwk : Known := Known.tab F_lockgatelaw25_awake [([], .bool true)]
noncomputable def knL : List Known := [kAwk, kT1, kT2, kNode, kTwin, kBt, kCo]
noncomputable abbrev gA {R X : Type} (g : Prop) (a : X) (k : X → Option R) : Option R := Bool.rec (motive := fun _ => Option R) none (appX k a) (cd g)
noncomputable abbrev gK {R : Type} (c : CF) (k : CF → Option R) : Option R := gA (gP dCF pT eCF (eCF c)) (dCF (eCF c)) k
noncomputable abbrev gB {R : Type} (b : Bool) (t e : Option R) : Option R := Bool.rec (motive := fun _ => Option R) e t b
end Go.Wk
end
