/- Part 3 of the texts that the proof needs: the abstract machine, plain laws, contracts of the program's functions. No statement is claimed here. -/
import Derived.Test.YtjhfgaadinklhaaGreatPart2
import GoSem.Core.Float
import Derived.Test.YtjhfgaadinklhaaGreatProg
import Derived.KernelRfl
set_option linter.unusedVariables false
set_option linter.unusedSimpArgs false
section
/- From the abstract machine's 'true' to a law's contract. -/
set_option linter.unusedVariables false
set_option linter.unusedSimpArgs false
namespace Go.AM

def argOf (P : Program) (t : TypeId) (av : List AV) : AV :=
  match P.underlying t with
  | some (.struct _) => .agg av
  | _ => av.headD .undef

/-- the arguments of a law -/
def Args (P : Program) (N : Nat) : List TypeId → List AV → Prop
  | [], vs => vs = []
  | t :: ts, vs => ∃ av r, Shape P N t av ∧ vs = argOf P t av :: r ∧ Args P N ts r

section
variable {H : Type} {enc : TypeId × Value → H} {P : Program} {W W' : World} {I : Nat → Prop}

theorem arg_ok (hI : ∀ B, B < W.heap.size → I B) {N base : Nat} {t : TypeId} {v : Value} {d : DataW H} {ps : List MemPlace} (hg : goodT P N t = true) (hval : Value.okWide P W .any base t v)
    (h : DataW.Trod enc P W 0 (fun _ => true) true t v d ps) : ∃ av, Shape P N t av ∧ RV W I Phi.no (argOf P t av) v := by
  obtain ⟨m, hm⟩ := h
  cases N with
  | zero => cases hg
  | succ N =>
    have hlen : v.cells.toList.length = P.cellsOf t ∧ ((∃ fs, P.underlying t = some (.struct fs)) → ∃ cs, v = .agg cs) ∧ ((∀ fs, P.underlying t ≠ some (.struct fs)) → v.cells.toList = [v]) := by
      have hg' := hg
      unfold goodT at hg'
      unfold Value.okWide at hval
      cases hu : P.underlying t with
      | none => rw [hu] at hg'; cases hg'
      | some u =>
        rw [hu] at hg' hval
        cases u <;> simp only at hg' hval <;> try (cases hg'; done)
        case struct fs =>
          obtain ⟨cs, rfl, hs, _⟩ := hval
          refine ⟨by simpa [Value.cells] using hs, fun _ => ⟨cs, rfl⟩, fun h => absurd rfl (h fs)⟩
        case slice e =>
          have := Nat.eq_of_beq_eq_true (and_true' hg').1
          unfold Cell.okWide Cell.ok at hval
          rw [hu] at hval
          cases v <;> simp at hval <;> exact ⟨by simp [Value.cells, this], fun ⟨fs, e⟩ => (by cases e), fun _ => by simp [Value.cells]⟩
        all_goals
          have := Nat.eq_of_beq_eq_true hg'
          unfold Cell.okWide Cell.ok at hval
          rw [hu] at hval
          cases v <;> simp at hval <;> exact ⟨by simp [Value.cells, this], fun ⟨fs, e⟩ => (by cases e), fun _ => by simp [Value.cells]⟩
    obtain ⟨h1, h2, h3⟩ := hlen
    obtain ⟨av, g1, g2, g3⟩ := read_ok hI (N + 1) t _ hg h1 ⟨m, _, hm⟩
    refine ⟨av, g1, ?_⟩
    unfold argOf
    by_cases hs : ∃ fs, P.underlying t = some (.struct fs)
    · obtain ⟨cs, rfl⟩ := h2 hs
      obtain ⟨fs, hfs⟩ := hs
      rw [hfs]
      simp only [Value.cells] at g2 g3
      refine .agg _ _ (by simpa using g2) (fun k u e => ?_) (fun k c u e e' => ?_)
      · have hk : k < av.length := by
          rw [g2]; simpa using (Array.getElem?_eq_some_iff.1 e).1
        exact (g3 k av[k] u (List.getElem?_eq_getElem hk) (by rw [Array.getElem?_toList]; exact e)).2
      · exact (g3 k c u e (by rw [Array.getElem?_toList]; exact e')).1
    · have hs : ∀ fs, P.underlying t ≠ some (.struct fs) := fun fs e => hs ⟨fs, e⟩
      have h3 := h3 hs
      rw [h3] at g2 g3
      have : ∃ c, av = [c] := by
        match av, g2 with
        | [c], _ => exact ⟨c, rfl⟩
      obtain ⟨c, rfl⟩ := this
      have := (g3 0 c v rfl rfl).1
      split
      · rename_i fs e; exact absurd e (hs fs)
      · exact this

theorem args_ok (hI : ∀ B, B < W.heap.size → I B) {N base : Nat} : ∀ {ts : List TypeId} {vs : List Value} {ds : List (DataW H)} {ps : List MemPlace}, (∀ t ∈ ts, goodT P N t = true) →
    (∀ (j : Nat) t v, ts[j]? = some t → vs[j]? = some v → Value.okWide P W .any base t v) → DataW.TrodAll enc P W 0 (fun _ => true) true ts vs ds ps →
    ∃ avs, Args P N ts avs ∧ avs.length = vs.length ∧ ∀ (k : Nat) c u, avs[k]? = some c → vs[k]? = some u → RV W I Phi.no c u
  | [], [], [], ps, _, _, _ => ⟨[], rfl, rfl, fun k c u e => by simp at e⟩
  | t :: ts, v :: vs, d :: ds, ps, hg, hval, ⟨p, q, h1, h2, _⟩ => by
    obtain ⟨avs, g1, g2, g3⟩ := args_ok hI (fun t ht => hg t (by simp [ht])) (fun j t v e e' => hval (j + 1) t v (by simpa using e) (by simpa using e')) h2
    obtain ⟨av, g4, g5⟩ := arg_ok hI (hg t (by simp)) (hval 0 t v rfl rfl) h1
    refine ⟨argOf P t av :: avs, ⟨av, avs, g4, rfl, g1⟩, by simp [g2], fun k c u e e' => ?_⟩
    cases k with
    | zero => simp at e e'; subst e; subst e'; exact g5
    | succ k => exact g3 k c u (by simpa using e) (by simpa using e')
  | [], [], _ :: _, _, _, _, h => h.elim
  | [], _ :: _, _, _, _, _, h => h.elim
  | _ :: _, [], _, _, _, _, h => h.elim
  | _ :: _, _ :: _, [], _, _, _, h => h.elim

/-- as 'post_of_same', but for new memory, which may be frozen -/
theorem post_of_old {f : Func} {s : ChangeSpec} {apart fresh handsOn again : Bool} {args : Array Value} {v : Value} {ds gs : List (DataW H)} {before pa pv : List MemPlace}
    (hW : DataW.Whole enc P f.params.toList s.vars apart W args.toList ds gs before)
    (hres : ∀ (b : Nat) (sp : Nat → Bool) (hd : Bool), DataW.TrodAll enc P W' b sp hd f.resultTypes.toList (v.resultList f.resultTypes.size) (s.fn H (ds ++ gs)).results [])
    (hargs : ∀ sp : Nat → Bool, (∀ p ∈ before, sp p.block = true) → DataW.TrodAll enc P W' 0 sp true f.params.toList args.toList (s.fn H (ds ++ gs)).args pa)
    (hvars : ∀ sp : Nat → Bool, (∀ p ∈ before, sp p.block = true) → DataW.TrodVars enc P W' sp s.vars (s.fn H (ds ++ gs)).vars pv)
    (hps : before = pa ++ pv) (hb : RowKit.Below W.heap.size W W')
    (hok : ∀ (j : Nat) (t : TypeId) (r : Value), f.resultTypes[j]? = some t → (v.resultList f.resultTypes.size)[j]? = some r → Value.okWide P W' .any 0 t r) :
    s.post enc P f apart fresh handsOn again W args v W' := by
  have hold : ∀ p ∈ before, (fun b => decide (b < W.heap.size)) p.block = true := fun p hp => by simpa using hW.lt p hp
  have hlt := hW.lt
  refine ⟨ds, gs, before, [], pa, pv, hW, hres _ _ _, hargs _ hold, hvars _ hold, World.keptBut_mono (fun p hp => ⟨hp, ?_⟩) (hb.frame (· ∈ before)), fun _ => ?_⟩
  · rw [hps, List.mem_append] at hp
    exact Or.inr hp
  · obtain ⟨_, _, _, _, _, hz, hn⟩ := hW
    refine ⟨hok, _, _, ([] ++ pa) ++ pv, ⟨[] ++ pa, pv, ChangeShapes.trodAll_append (hargs _ (fun _ _ => rfl)) (hres _ _ _), hvars _ (fun _ _ => rfl), rfl, ?_, ?_⟩, ?_⟩
    · intro b off hp
      have hp' : MemPlace.cell b off ∈ before := by rw [hps]; simpa using hp
      rw [hb.frozen (p := ⟨b, off, none⟩) (hlt _ hp')]
      exact hz b off hp'
    · intro ha
      have := hn ha
      rw [hps] at this
      simpa using this
    · intro p hp _
      rw [hps]
      simpa using hp

theorem trodAll_stays (hl : laidOutB P = true) (hb : RowKit.Below W.heap.size W W') {sp : Nat → Bool} : ∀ {ts : List TypeId} {vs : List Value} {ds : List (DataW H)} {ps : List MemPlace}, (∀ t ∈ ts, P.readableRec t = true ∧ t < P.types.size) →
    DataW.TrodAll enc P W 0 (fun _ => true) true ts vs ds ps → (∀ x ∈ ps, x.block < W.heap.size) → (∀ x ∈ ps, sp x.block = true) → DataW.TrodAll enc P W' 0 sp true ts vs ds ps
  | [], [], [], ps, _, h, _, _ => h
  | t :: ts, v :: vs, d :: ds, ps, hr, ⟨p, q, h1, h2, e⟩, hlt, hsp => by
    subst e
    refine ⟨p, q, WideElems.Trod_stays hl (hr t (by simp)).1 (hr t (by simp)).2 h1 (fun x hx => hb.same (hlt x (by simp [hx]))) (fun x hx => hsp x (by simp [hx])),
      trodAll_stays hl hb (fun t ht => hr t (by simp [ht])) h2 (fun x hx => hlt x (by simp [hx])) (fun x hx => hsp x (by simp [hx])), rfl⟩
  | [], [], _ :: _, _, _, h, _, _ => h.elim
  | [], _ :: _, _, _, _, h, _, _ => h.elim
  | _ :: _, [], _, _, _, h, _, _ => h.elim
  | _ :: _, _ :: _, [], _, _, h, _, _ => h.elim

/-- every value that reads as the one reads as the other -/
def SubV (c c' : AV) : Prop := ∀ (w : World) (I : Nat → Prop) (u : Value), RV w I Phi.no c u → RV w I Phi.no c' u
def SubC (cs cs' : List AV) : Prop := cs.length = cs'.length ∧ ∀ (k : Nat) c c', cs[k]? = some c → cs'[k]? = some c' → SubV c c'

theorem SubV.refl (c : AV) : SubV c c := fun _ _ _ h => h
theorem SubC.refl (cs : List AV) : SubC cs cs := ⟨rfl, fun k c c' e e' => by rw [e] at e'; cases e'; exact .refl _⟩
theorem SubC.nil : SubC [] [] := .refl _
theorem SubC.cons {c c' : AV} {cs cs' : List AV} (h : SubV c c') (h' : SubC cs cs') : SubC (c :: cs) (c' :: cs') := by
  refine ⟨by simp [h'.1], fun k x x' e e' => ?_⟩
  cases k with
  | zero => simp at e e'; subst e; subst e'; exact h
  | succ k => exact h'.2 k x x' (by simpa using e) (by simpa using e')

theorem SubC.get {cs cs' : List AV} (h : SubC cs cs') {k : Nat} {c' : AV} (e : cs'[k]? = some c') : ∃ c, cs[k]? = some c ∧ SubV c c' := by
  have hk : k < cs.length := by rw [h.1]; exact (List.getElem?_eq_some_iff.1 e).1
  exact ⟨cs[k], List.getElem?_eq_getElem hk, h.2 k _ c' (List.getElem?_eq_getElem hk) e⟩

theorem SubV.tr {sz : Nat} {es : List (List AV)} {f : Nat → List AV} (h : ∀ i, i < es.length → SubC (es.getD i []) (f i)) : SubV (.trl sz es) (.tr sz es.length f) := by
  intro w I u hv
  cases hv with
  | trl _ _ _ hv hz =>
    generalize hn : es.length = n at *
    generalize hf : (fun i => es.getD i []) = g at hv
    have hg : ∀ i, g i = es.getD i [] := fun i => by rw [← hf]
    cases hv with
    | tr _ _ _ B o cap uf hI hn' hlen hc h1 hr =>
      refine .tr sz n f B o cap uf hI hn' (fun i hi => ?_) (fun i k c hi e => ?_) (fun i k c hi e => ?_) (fun i k c hi e => ?_)
      · rw [← (h i hi).1, ← hg]; exact hlen i hi
      · obtain ⟨c0, e0, _⟩ := (h i hi).get e
        rw [← hg] at e0; exact hc i k c0 hi e0
      · obtain ⟨c0, e0, _⟩ := (h i hi).get e
        rw [← hg] at e0; exact h1 i k c0 hi e0
      · obtain ⟨c0, e0, hs⟩ := (h i hi).get e
        rw [← hg] at e0; exact hs _ _ _ (hr i k c0 hi e0)
    | trn => exact .trn _ _ _

theorem SubV.agg {cs cs' : List AV} (h : SubC cs cs') : SubV (.agg cs) (.agg cs') := by
  intro w I u hv
  cases hv with
  | agg _ vs hl h1 hr =>
    refine .agg _ _ (h.1.symm.trans hl) h1 fun k c u e e' => ?_
    obtain ⟨c0, e0, hs⟩ := h.get e
    exact hs _ _ _ (hr k c0 u e0 e')

/-- the abstract machine says 'true', at whatever arguments of the types -/
def LawOk (P : Program) (env : Env) (N f : Nat) (ts : List TypeId) : Prop :=
  ∀ avs, Args P N ts avs → ∃ avs' n hp, SubC avs avs' ∧ evFn (R := AV × Heap) env n f avs' [] (fun r h => some (r, h)) = some (.bool true, hp)

theorem law_post {env : Env} {N base f tb : Nat} {fn : Func} {s : ChangeSpec} (henv : EnvOk P env) (hcode : CodeOk P env) (hm : P.follows .mixedOrders = true) (hfn : P.funcs[f]? = some fn) (hbody : fn.body.isNone = false)
    (hname : (fn.name == "runtime.NumGoroutine") = false)
    (hvars : s.vars = []) (hrt : fn.resultTypes = #[tb]) (hbool : P.underlying tb = some .bool)
    (hspec : ∀ ds : List (DataW H), ds.length = fn.params.toList.length → s.fn H ds = { results := [.lit (.bool true)], args := ds })
    (hlaid : laidOutB P = true) (hread : ∀ t ∈ fn.params.toList, P.readableRec t = true ∧ t < P.types.size) (hgood : ∀ t ∈ fn.params.toList, goodT P N t = true)
    (hlaw : LawOk P env N f fn.params.toList) {args : Array Value} {ds gs : List (DataW H)} {before : List MemPlace}
    (hval : ∀ (j : Nat) t v, fn.params[j]? = some t → args[j]? = some v → Value.okWide P W .any base t v) (hW : DataW.Whole enc P fn.params.toList s.vars false W args.toList ds gs before) :
    Calls P f args W fun e W' => ∃ v, e = .returned v ∧ s.post enc P fn false true false false W args v W' := by
  have hW' := hW
  obtain ⟨p, q, hA, hV, rfl, hfz, hnd⟩ := hW
  rw [hvars] at hV
  have hgs : gs = [] ∧ q = [] := by
    cases gs with
    | nil => exact ⟨rfl, hV⟩
    | cons g gs => exact hV.elim
  obtain ⟨rfl, rfl⟩ := hgs
  have hlt := hW'.lt
  simp only [List.append_nil] at hlt hW'
  let I : Nat → Prop := fun B => B < W.heap.size
  obtain ⟨avs, h1, h2, h3⟩ := args_ok (I := I) (fun _ h => h) hgood (fun j t v e e' => hval j t v (by rwa [Array.getElem?_toList] at e) (by rwa [Array.getElem?_toList] at e')) hA
  obtain ⟨avs', n, hp, hsub, hrun⟩ := hlaw avs h1
  obtain ⟨res, hp', k1, _, hc⟩ := ev_ok henv hcode hm n f avs' [] _ _ hrun
  cases k1
  have hans := hc W I Phi.no args (RH.empty W I fun _ h => h) ⟨by rw [← hsub.1]; simpa using h2, fun k x u e e' => by
    obtain ⟨c0, e0, hs⟩ := hsub.get e
    exact hs _ _ _ (h3 k c0 u e0 (by rw [Array.getElem?_toList]; exact e'))⟩
  have hpost : ∀ u W', (∃ φ' I', RV W' I' φ' (.bool true) u ∧ RH W' I' φ' (hget hp) ∧ Step ([] : Heap).length (hget []) Phi.no I W (hget hp) φ' I' W') → s.post enc P fn false true false false W args u W' := by
    rintro u W' ⟨φ', I', g1, _, g2⟩
    cases g1
    have hb : RowKit.Below W.heap.size W W' := ⟨g2.ext.os, g2.ext.tape, g2.ext.output, g2.ext.size, fun k hk => g2.ext.keep k hk fun hm => not_mut_nil hm⟩
    have hds : ds.length = fn.params.toList.length := by
      have : ∀ {ts : List TypeId} {vs : List Value} {ds : List (DataW H)} {ps : List MemPlace}, DataW.TrodAll enc P W 0 (fun _ => true) true ts vs ds ps → ds.length = ts.length := by
        intro ts
        induction ts with
        | nil => intro vs ds ps h; cases vs <;> cases ds <;> first | rfl | exact h.elim
        | cons t ts ih => intro vs ds ps h; cases vs <;> cases ds <;> first | exact h.elim | (obtain ⟨_, _, _, h, _⟩ := h; simp [ih h])
      exact this hA
    have hsp := hspec ds hds
    have hone : (Value.bool true).resultList 1 = [.bool true] := rfl
    refine post_of_old (pa := p) (pv := []) hW' (fun b sp hd => ?_) (fun sp hs => ?_) (fun _ _ => ?_) (by simp) hb (RowKit.ok_one hrt rfl (RowKit.okWide_bool_mk hbool _))
    · rw [List.append_nil, hsp, hrt]
      exact ⟨[], [], ⟨1, by simp [DataW.trod, hbool, Value.cells]⟩, rfl, rfl⟩
    · rw [List.append_nil, hsp]
      exact trodAll_stays hlaid hb hread hA hlt hs
    · rw [List.append_nil, hsp, hvars]
      rfl
  rcases hans with ⟨_, h⟩ | ⟨u, W', h, _⟩
  · exact Calls.mono h fun e W' ⟨u, he, hu⟩ => ⟨u, he, hpost u W' hu⟩
  · simp only [callFunc, Sem.run_bind, run_program, Result.andThen_ok, hfn, hname, hbody, Bool.false_eq_true, if_false, Sem.run_pure] at h
    cases h

end
end Go.AM
end

section
/- Environments over a program: the code is let by where it is sound, one function at a time. -/
set_option linter.unusedVariables false
set_option linter.unusedSimpArgs false
namespace Go.AM

def codeGood (fn : Func) : Bool :=
  match fn.body with
  | some c => okCode c && !(fn.name == "runtime.NumGoroutine")
  | none => false

/-- the program's code, where the abstract machine may run it -/
def codeOf (P : Program) (f : Nat) : Option Func :=
  match P.funcs[f]? with
  | some fn => bif codeGood fn then some fn else none
  | none => none

theorem codeOf_ok {P : Program} {env : Env} (h : env.code = codeOf P) : CodeOk P env := by
  intro f fn hf
  rw [h] at hf
  unfold codeOf at hf
  cases e : P.funcs[f]? with
  | none => rw [e] at hf; cases hf
  | some fn' =>
    rw [e] at hf
    obtain ⟨hg, hf⟩ := cond_some hf
    cases hf
    unfold codeGood at hg
    cases hb : fn.body with
    | none => rw [hb] at hg; cases hg
    | some c =>
      rw [hb] at hg
      obtain ⟨h1, h2⟩ := and_true' hg
      refine ⟨rfl, rfl, by simpa using h2, fun c' e' => ?_⟩
      cases e'
      exact h1

theorem tt_ok {P : Program} {env : Env} (h : env.tt = tiOf P) : TTok P env.tt := fun t x e => by rw [h] at e; exact e

def nmem (x : Nat) : List Nat → Bool
  | [] => false
  | y :: r => bif Nat.beq x y then true else nmem x r

def liveOf (f b : Nat) : List (Nat × Nat × List Nat) → List Nat
  | [] => []
  | (f', b', l) :: r => bif Nat.beq f f' && Nat.beq b b' then l else liveOf f b r

/-- contracts that are known -/
structure Known where
  f : Nat
  ans : List AV → Heap → Option Answer

def orcOf : List Known → Nat → List AV → Heap → Option Answer
  | [], _, _, _ => none
  | k :: r, f, args, hp => bif Nat.beq k.f f then k.ans args hp else orcOf r f args hp

def Known.Ok (P : Program) (k : Known) : Prop := ∀ args hp A, k.ans args hp = some A → A.g = true → Contract P k.f args hp (A.r A.a).1 (A.r A.a).2 ∧ hp.length ≤ (A.r A.a).2.length

theorem orc_ok {P : Program} : ∀ {l : List Known}, (∀ k ∈ l, k.Ok P) → ∀ f args hp A, orcOf l f args hp = some A → A.g = true → Contract P f args hp (A.r A.a).1 (A.r A.a).2 ∧ hp.length ≤ (A.r A.a).2.length
  | [], _, f, args, hp, A, h => by cases h
  | k :: l, hl, f, args, hp, A, h => by
    unfold orcOf at h
    cases e : Nat.beq k.f f with
    | true =>
      rw [e] at h
      have e := Nat.eq_of_beq_eq_true e
      subst e
      exact hl k (by simp) args hp A h
    | false =>
      rw [e] at h
      exact orc_ok (fun k hk => hl k (by simp [hk])) f args hp A h

/-- a run of the abstract machine is a contract -/
theorem contract_of {P : Program} {env : Env} (henv : EnvOk P env) (hcode : CodeOk P env) (hm : P.follows .mixedOrders = true) {n f : Nat} {args : List AV} {r : AV} {hp : Heap}
    (h : evFn (R := AV × Heap) env n f args [] (fun r h => some (r, h)) = some (r, hp)) : Contract P f args [] r hp := by
  obtain ⟨res, hp', k1, _, hc⟩ := ev_ok henv hcode hm n f args [] _ _ h
  cases k1
  exact hc

/-- a value that leads nowhere: the blocks are let go -/
theorem Contract.bare {P : Program} {f : Nat} {args : List AV} {r : AV} {hp : Heap} (h : Contract P f args [] r hp) (hf : refFree r = true) (ht : hasTree r = false) : Contract P f args [] r [] := by
  intro w I φ ra hh hx
  refine (h w I φ ra hh hx).mono fun u w' ⟨φ', I', h1, h2, h3⟩ => ?_
  refine ⟨Phi.no, I, (h1.free hf).treeless I ht, RH.empty w' I fun B hB => Nat.lt_of_lt_of_le (hh.lt B hB) h3.ext.size, fun b p hb => absurd hb (Nat.not_lt_zero b), fun _ h => h, fun _ h => .inl h, fun B hB => (not_mut_nil hB).elim, h3.ext⟩

end Go.AM
end

section
/- Answers as trees; weaker contracts; points of a function's code, from which a run is told by equations. -/
set_option linter.unusedVariables false
set_option linter.unusedSimpArgs false
namespace Go.AM

/-- the answer as a tree -/
def snK (r : AV) (h : Heap) : Option AV :=
  match snapG depth (hget h) r with
  | some (r, _, g) => bif g then some r else .none
  | .none => .none

theorem Contract.snapped {P : Program} {f : Nat} {args : List AV} {res r : AV} {hp' : Heap} (hc : Contract P f args [] res hp') (h : snK res hp' = some r) : Contract P f args [] r [] := by
  unfold snK at h
  split at h
  · rename_i r1 l1 g1 hs1
    obtain ⟨hg, h⟩ := cond_some h
    subst hg
    cases h
    replace hs1 := ungard_some.2 hs1
    intro w I φ ra hh hx
    refine (hc w I φ ra hh hx).mono fun u w' ⟨φ', I', h1, h2, h3⟩ => ?_
    obtain ⟨s1, s2⟩ := (snap_ok h2 depth).1 _ _ _ hs1
    have hr := s2 (fun B => I' B ∨ InL φ' l1 B) (fun B hB => .inl hB) (fun B hB => .inr hB) u h1
    refine ⟨Phi.no, fun B => I' B ∨ InL φ' l1 B, hr, RH.empty w' _ fun B hB => hB.elim (h2.lt B) (inL_lt h2 s1), fun b p hb => absurd hb (Nat.not_lt_zero b), fun B hB => .inl (h3.Ile B hB), ?_, fun B hB => (not_mut_nil hB).elim, h3.ext⟩
    rintro B (hB | ⟨b, hb, o, sz, e⟩)
    · exact h3.Inew B hB
    · cases hm : mutable (hget hp' b) with
      | true => exact .inr ((h3.mt B ⟨b, o, sz, hm, e⟩).imp id id)
      | false => exact h3.Inew B (h2.imm b B o sz (s1 b hb) hm e)
  · cases h

/-- a call on a heap of its own, the answer a tree -/
def callT (env : Env) (n f : Nat) (args : List AV) : Option AV := evFn (R := AV) env n f args [] snK

theorem callT_ok {P : Program} {env : Env} (henv : EnvOk P env) (hcode : CodeOk P env) (hm : P.follows .mixedOrders = true) {n f : Nat} {args : List AV} {r : AV}
    (h : callT env n f args = some r) : Contract P f args [] r [] := by
  obtain ⟨res, hp', k1, _, hc⟩ := ev_ok henv hcode hm n f args [] _ _ h
  exact hc.snapped k1

theorem phi_nil {w : World} {I : Nat → Prop} {φ : Phi} (h : RH w I φ (hget [])) : φ = Phi.no := by
  funext b
  exact h.none b (hget_nil b)

theorem Contract.args {P : Program} {f : Nat} {args args' : List AV} {r : AV} {bs : Heap} (h : Contract P f args' [] r bs) (hs : SubC args args') : Contract P f args [] r bs := by
  intro w I φ ra hh hx
  have := phi_nil hh
  subst this
  refine h w I Phi.no ra hh ⟨by rw [← hs.1]; exact hx.1, fun k x u e e' => ?_⟩
  obtain ⟨c0, e0, hv⟩ := hs.get e
  exact hv _ _ _ (hx.2 k c0 u e0 e')

theorem Contract.res {P : Program} {f : Nat} {args : List AV} {r r' : AV} (h : Contract P f args [] r []) (hs : SubV r r') : Contract P f args [] r' [] := by
  intro w I φ ra hh hx
  refine (h w I φ ra hh hx).mono fun u w' ⟨φ', I', h1, h2, h3⟩ => ?_
  have := phi_nil h2
  subst this
  exact ⟨Phi.no, I', hs _ _ _ h1, h2, h3⟩

theorem SubV.trans {a b c : AV} (h : SubV a b) (h' : SubV b c) : SubV a c := fun w I u hv => h' w I u (h w I u hv)
theorem SubC.trans {a b c : List AV} (h : SubC a b) (h' : SubC b c) : SubC a c := by
  refine ⟨h.1.trans h'.1, fun k x z e e' => ?_⟩
  obtain ⟨y, e1, h1⟩ := h'.get e'
  exact (h.2 k x y e e1).trans h1

/-- no elements: whatever stands behind -/
theorem SubV.nils {sz : Nat} {f : Nat → List AV} : SubV .nils (.tr sz 0 f) := by
  intro w I u hv
  cases hv with
  | nils => exact .trn sz f none

theorem SubV.trs {sz n : Nat} {f g : Nat → List AV} (h : ∀ i, i < n → SubC (f i) (g i)) : SubV (.tr sz n f) (.tr sz n g) := by
  intro w I u hv
  cases hv with
  | tr _ _ _ B o cap uf hI hn' hlen hc h1 hr =>
    refine .tr sz n g B o cap uf hI hn' (fun i hi => ?_) (fun i k c hi e => ?_) (fun i k c hi e => ?_) (fun i k c hi e => ?_)
    · rw [← (h i hi).1]; exact hlen i hi
    · obtain ⟨c0, e0, _⟩ := (h i hi).get e
      exact hc i k c0 hi e0
    · obtain ⟨c0, e0, _⟩ := (h i hi).get e
      exact h1 i k c0 hi e0
    · obtain ⟨c0, e0, hs⟩ := (h i hi).get e
      exact hs _ _ _ (hr i k c0 hi e0)
  | trn _ _ a => exact .trn sz g a

theorem SubV.tup {cs cs' : List AV} (h : SubC cs cs') : SubV (.tup cs) (.tup cs') := by
  intro w I u hv
  cases hv with
  | tup _ vs hl hr =>
    refine .tup _ _ (h.1.symm.trans hl) fun k c u e e' => ?_
    obtain ⟨c0, e0, hs⟩ := h.get e
    exact hs _ _ _ (hr k c0 u e0 e')

/-! ### points of a function's code -/

/-- steps into a code: into the first or the second part, a body; into a loop's body, with so much fuel behind it -/
inductive PE where
  | L
  | R
  | lp (m : Nat)

def sub : Code → List PE → Code
  | c, [] => c
  | .seq a _, .L :: p => sub a p
  | .seq _ b, .R :: p => sub b p
  | .cond _ a _, .L :: p => sub a p
  | .cond _ _ b, .R :: p => sub b p
  | .block _ a, _ :: p => sub a p
  | .loop a, _ :: p => sub a p
  | .scope a, _ :: p => sub a p
  | c, _ :: _ => c

def curAt : Nat → Code → List PE → Nat
  | cur, _, [] => cur
  | cur, .seq a _, .L :: p => curAt cur a p
  | cur, .seq _ b, .R :: p => curAt cur b p
  | cur, .cond _ a _, .L :: p => curAt cur a p
  | cur, .cond _ _ b, .R :: p => curAt cur b p
  | _, .block id a, _ :: p => curAt id a p
  | cur, .loop a, _ :: p => curAt cur a p
  | cur, .scope a, _ :: p => curAt cur a p
  | cur, _, _ :: _ => cur

section
variable {R : Type} (env : Env) (run : CallK R) (fn nt n base : Nat) (jump : Code → Nat → CodeK R)

/-- what follows behind the point p of a code -/
def contOf : Nat → Code → List PE → (AX → St → Option R) → AX → St → Option R
  | _, _, [], k => k
  | cur, .seq a b, .L :: p, k => contOf cur a p fun e s' => match e with
    | .normal => evC1 env run fn nt n base jump cur b k s'
    | e => k e s'
  | cur, .seq _ b, .R :: p, k => contOf cur b p k
  | cur, .cond _ a _, .L :: p, k => contOf cur a p k
  | cur, .cond _ _ b, .R :: p, k => contOf cur b p k
  | _, .block id a, _ :: p, k => contOf id a p fun e s' => match e with
    | .exit id' => bif Nat.beq id' id then k .normal s' else k (.exit id') s'
    | e => k e s'
  | cur, .loop a, .lp m :: p, k => contOf cur a p fun e s' => match e with
    | .normal => loopK (norm base (env.live fn cur)) (evC1 env run fn nt n base jump cur a) m k (norm base (env.live fn cur) s')
    | e => k e s'
  | cur, .scope a, _ :: p, k => contOf cur a p fun e s' => match e with
    | .goto l => match findLabel a l with
      | some _ => jump a l k (norm base (env.live fn (1000 + l)) s')
      | .none => k (.goto l) s'
    | e => k e s'
  | _, _, _ :: _, k => k

end

/-- what becomes of a run at a function's end -/
def endK {R : Type} (env : Env) (fn : Func) (k : AV → Heap → Option R) (e : AX) (s : St) : Option R :=
  match e with
  | .normal | .ret => resultsK env.tt s fn.results.toList fun vs => k (tupled vs) s.hp
  | _ => .none

def bodyOf (env : Env) (f : Nat) : Code := match env.code f with
  | some fn => match fn.body with
    | some c => c
    | .none => .skip
  | .none => .skip

def ntOf (env : Env) (f : Nat) : Nat := match env.code f with
  | some fn => fn.ntmps
  | .none => 0

def finK {R : Type} (env : Env) (f : Nat) (k : AV → Heap → Option R) (e : AX) (s : St) : Option R := match env.code f with
  | some fn => endK env fn k e s
  | .none => .none

/-- a run from the point p of the function f on (n: the fuel of calls and of loops; base: the blocks that stood there at its beginning) -/
def pt {R : Type} (env : Env) (n base f : Nat) (k : AV → Heap → Option R) (p : List PE) (s : St) : Option R :=
  evC1 env (evFn env n) f (ntOf env f) n base (jumpK env (evFn env n) f (ntOf env f) n base n) (curAt 0 (bodyOf env f) p) (sub (bodyOf env f) p)
    (contOf env (evFn env n) f (ntOf env f) n base (jumpK env (evFn env n) f (ntOf env f) n base n) 0 (bodyOf env f) p (finK env f k)) s

/-- the loop at the point p, with the fuel m, at its head -/
def lpt {R : Type} (env : Env) (n base f : Nat) (k : AV → Heap → Option R) (p : List PE) (m : Nat) (s : St) : Option R :=
  match sub (bodyOf env f) p with
  | .loop a => loopK (norm base (env.live f (curAt 0 (bodyOf env f) p))) (evC1 env (evFn env n) f (ntOf env f) n base (jumpK env (evFn env n) f (ntOf env f) n base n) (curAt 0 (bodyOf env f) p) a) m
      (contOf env (evFn env n) f (ntOf env f) n base (jumpK env (evFn env n) f (ntOf env f) n base n) 0 (bodyOf env f) p (finK env f k)) s
  | _ => .none

/-- the way to the loop of the block b, through loops with the fuels fs left -/
def findL (b : Nat) : Code → Nat → List Nat → Option (List PE)
  | .loop a, cur, fs => bif Nat.beq cur b then some [] else match fs with
    | m :: fs => match findL b a cur fs with
      | some p => some (.lp m :: p)
      | .none => .none
    | [] => .none
  | .seq x y, cur, fs => match findL b x cur fs with
    | some p => some (.L :: p)
    | .none => match findL b y cur fs with
      | some p => some (.R :: p)
      | .none => .none
  | .cond _ x y, cur, fs => match findL b x cur fs with
    | some p => some (.L :: p)
    | .none => match findL b y cur fs with
      | some p => some (.R :: p)
      | .none => .none
  | .block id a, _, fs => match findL b a id fs with
    | some p => some (.L :: p)
    | .none => .none
  | .scope a, cur, fs => match findL b a cur fs with
    | some p => some (.L :: p)
    | .none => .none
  | _, _, _ => .none

/-- the loop of the block b of the function f, at its head, with the fuel m -/
def LP {R : Type} (env : Env) (n base f : Nat) (k : AV → Heap → Option R) (b : Nat) (fs : List Nat) (m : Nat) (s : St) : Option R :=
  match findL b (bodyOf env f) 0 fs with
  | some p => lpt env n base f k p m s
  | .none => .none

end Go.AM
end

section
/- Contracts that are told by a function on decoded arguments, under a guard. -/
set_option linter.unusedVariables false
set_option linter.unusedSimpArgs false
namespace Go.AM

noncomputable def cd (g : Prop) : Bool := @decide g (Classical.propDecidable g)

theorem cd_iff {g : Prop} : cd g = true ↔ g := by exact @decide_eq_true_iff g (Classical.propDecidable g)

/-- the guard of a contract -/
def gP {X : Type} (dec : List AV → X) (pre : X → Prop) (enc : X → List AV) (args : List AV) : Prop := pre (dec args) ∧ SubC args (enc (dec args))

noncomputable def Known.spec {X : Type} (f : Nat) (dec : List AV → X) (pre : X → Prop) (enc : X → List AV) (out : X → AV) : Known :=
  { f := f, ans := fun args hp => match hp with
      | [] => some { X := X, g := cd (gP dec pre enc args), a := dec args, r := fun x => (out x, []) }
      | _ => none }

theorem Known.spec_ok {P : Program} {X : Type} {f : Nat} {dec : List AV → X} {pre : X → Prop} {enc : X → List AV} {out : X → AV}
    (h : ∀ x, pre x → Contract P f (enc x) [] (out x) []) : (Known.spec f dec pre enc out).Ok P := by
  intro args hp A e hg
  cases hp with
  | nil =>
    cases e
    obtain ⟨h1, h2⟩ := cd_iff.1 hg
    exact ⟨(h _ h1).args h2, Nat.le_refl _⟩
  | cons x r => cases e

/-- at one point -/
noncomputable def Known.one (f : Nat) (args : List AV) (r : AV) : Known := Known.spec (X := Unit) f (fun _ => ()) (fun _ => True) (fun _ => args) (fun _ => r)

theorem Known.one_ok {P : Program} {f : Nat} {args : List AV} {r : AV} (h : Contract P f args [] r []) : (Known.one f args r).Ok P := Known.spec_ok fun _ _ => h

/-- a guard, and what is done of what is known behind it -/
noncomputable def gX {R : Type} {X : Type} (g : Prop) (a : X) (k : X → Option R) : Option R := bif cd g then appX k a else .none

theorem gX_of {R : Type} {X : Type} {g : Prop} {a : X} {k : X → Option R} (h : g) : gX g a k = k a := by
  unfold gX; rw [cd_iff.2 h]; rfl

theorem gX_eq {R : Type} {X : Type} {dec : List AV → X} {pre : X → Prop} {enc : X → List AV} {A : List AV} {k : X → Option R} (x : X) (h1 : dec A = x) (h2 : pre x) (h3 : SubC A (enc x)) :
    gX (gP dec pre enc A) (dec A) k = k x := by
  subst h1; exact gX_of ⟨h2, h3⟩

/-- a call that is known -/
noncomputable def gC {R : Type} {X : Type} (dec : List AV → X) (pre : X → Prop) (enc : X → List AV) (A : List AV) (k : X → Option R) : Option R := gX (gP dec pre enc A) (dec A) k

theorem gC_eq {R : Type} {X : Type} {dec : List AV → X} {pre : X → Prop} {enc : X → List AV} {A : List AV} {k : X → Option R} (x : X) (h1 : dec A = x) (h2 : pre x) (h3 : SubC A (enc x)) :
    gC dec pre enc A k = k x := gX_eq x h1 h2 h3

def unD : List AV → Unit := fun _ => ()
def unP : Unit → Prop := fun _ => True
theorem gC_one {R : Type} {B A : List AV} {k : Unit → Option R} (h : SubC A B) : gC unD unP (fun _ => B) A k = k () := gC_eq () rfl trivial h

/-! ### decoding -/

def getI (cs : List AV) (i : Nat) : Int := match cs[i]? with
  | some (.int _ n) => n
  | _ => 0
def getB (cs : List AV) (i : Nat) : Bool := match cs[i]? with
  | some (.bool b) => b
  | _ => false
def getS (cs : List AV) (i : Nat) : List UInt8 := match cs[i]? with
  | some (.str s) => s
  | _ => []
def getC (cs : List AV) (i : Nat) : Nat × Nat := match cs[i]? with
  | some (.cplx _ a b) => (a, b)
  | _ => (0, 0)
/-- the cells of an argument -/
def argC (args : List AV) (i : Nat) : List AV := match args[i]? with
  | some v => v.cells
  | .none => []
def decL {X : Type} (d : List AV → X) : AV → List X
  | .tr _ n f => (List.range n).map fun i => d (f i)
  | .trl _ es => es.map d
  | _ => []
def getL {X : Type} (d : List AV → X) (cs : List AV) (i : Nat) : List X := decL d (cs.getD i .nils)

/-- a list as a tree -/
def encL {X : Type} (sz : Nat) (e : X → List AV) (z : X) (l : List X) : AV := .tr sz l.length fun i => e (l.getD i z)

theorem decL_encL {X : Type} {sz : Nat} {e : X → List AV} {d : List AV → X} {z : X} (h : ∀ x, d (e x) = x) (l : List X) : decL d (encL sz e z l) = l := by
  simp only [decL, encL, h]
  refine List.ext_getElem (by simp) fun i h1 h2 => ?_
  simp [List.getD, List.getElem?_eq_getElem h2]

theorem SubV.toTrl {sz : Nat} {f : Nat → List AV} {es : List (List AV)} (hne : 0 < es.length) (h : ∀ i, i < es.length → SubC (f i) (es.getD i [])) : SubV (.tr sz es.length f) (.trl sz es) := by
  intro w I u hv
  refine .trl _ _ _ (SubV.trs h w I u hv) ?_
  rintro rfl
  generalize es.length = n at *
  cases hv with
  | trn => cases hne

theorem SubV.encL_trl {X : Type} {sz : Nat} {e : X → List AV} {z : X} (l : List X) (hne : l ≠ []) : SubV (encL sz e z l) (.trl sz (l.map e)) := by
  have := SubV.toTrl (sz := sz) (f := fun i => e (l.getD i z)) (es := l.map e) (by simpa [List.length_pos_iff] using hne) fun i hi => by
    have hi : i < l.length := by simpa using hi
    have : (l.map e).getD i [] = e (l.getD i z) := by simp [List.getD, List.getElem?_eq_getElem hi]
    rw [this]; exact .refl _
  rwa [List.length_map] at this

/-! ### either or -/

def OrV (c c1 c2 : AV) : Prop := ∀ (w : World) (I : Nat → Prop) (u : Value), RV w I Phi.no c u → RV w I Phi.no c1 u ∨ RV w I Phi.no c2 u
def OrC (c c1 c2 : List AV) : Prop := c1.length = c.length ∧ c2.length = c.length ∧ ∀ (w : World) (I : Nat → Prop) (ra : Array Value), RVs w I Phi.no c ra → RVs w I Phi.no c1 ra ∨ RVs w I Phi.no c2 ra

theorem OrV.nil {sz : Nat} {f : Nat → List AV} : OrV (.tr sz 0 f) .nils (.trl sz []) := by
  intro w I u hv
  cases hv with
  | tr _ _ _ B o cap uf hI hn' hlen hc h1 hr =>
    exact .inr (.trl _ _ _ (.tr sz 0 _ B o cap uf hI hn' (fun i hi => by omega) (fun i k c hi => by omega) (fun i k c hi => by omega) (fun i k c hi => by omega)) (by simp))
  | trn _ _ a => cases a with
    | none => exact .inl .nils
    | some a => exact .inr (.trl _ _ _ (.trn _ _ _) (by simp))

theorem rvs_cells {w : World} {I : Nat → Prop} {φ : Phi} {c c1 : AV} {a b : List AV} {vs : Array Value} (h : RVs w I φ (a ++ c :: b) vs) (hc : ∀ u, RV w I φ c u → RV w I φ c1 u) : RVs w I φ (a ++ c1 :: b) vs := by
  refine ⟨by rw [← h.1]; simp, fun k x u e e' => ?_⟩
  rw [List.getElem?_append] at e
  split at e
  · rename_i hk; exact h.2 k x u (by rw [List.getElem?_append_left hk]; exact e) e'
  · rename_i hk
    have hk : a.length ≤ k := Nat.le_of_not_lt hk
    cases hd : k - a.length with
    | zero =>
      rw [hd] at e; simp at e; subst e
      exact hc u (h.2 k c u (by rw [List.getElem?_append_right hk, hd]; rfl) e')
    | succ m =>
      rw [hd] at e
      exact h.2 k x u (by rw [List.getElem?_append_right hk, hd]; exact e) e'

theorem rvs_at {w : World} {I : Nat → Prop} {φ : Phi} {c : AV} {a b : List AV} {vs : Array Value} (h : RVs w I φ (a ++ c :: b) vs) : ∃ u, RV w I φ c u ∧ vs[a.length]? = some u := by
  have hl : a.length < vs.size := by rw [← h.1]; simp
  exact ⟨vs[a.length], h.2 a.length c _ (by simp) (Array.getElem?_eq_getElem hl), Array.getElem?_eq_getElem hl⟩

theorem OrC.of {c c1 c2 : AV} (a b : List AV) (h : OrV c c1 c2) : OrC (a ++ c :: b) (a ++ c1 :: b) (a ++ c2 :: b) := by
  refine ⟨by simp, by simp, fun w I ra hx => ?_⟩
  obtain ⟨u, hu, he⟩ := rvs_at hx
  have key : ∀ c', RV w I Phi.no c' u → RVs w I Phi.no (a ++ c' :: b) ra := by
    intro c' hc'
    refine ⟨by rw [← hx.1]; simp, fun k x v e e' => ?_⟩
    by_cases hk : k = a.length
    · subst hk
      rw [he] at e'; cases e'
      simp at e; subst e; exact hc'
    · refine hx.2 k x v ?_ e'
      rw [List.getElem?_append] at e ⊢
      split at e
      · rename_i h; rw [if_pos h]; exact e
      · rename_i h
        rw [if_neg h]
        obtain ⟨m, hm⟩ : ∃ m, k - a.length = m + 1 := ⟨k - a.length - 1, by omega⟩
        rw [hm] at e ⊢; exact e
  exact (h w I u hu).imp (key c1) (key c2)

theorem OrV.agg {cs c1 c2 : List AV} (h : OrC cs c1 c2) : OrV (.agg cs) (.agg c1) (.agg c2) := by
  intro w I u hv
  cases hv with
  | agg _ vs hl h1 hr =>
    refine (h.2.2 w I vs ⟨hl, hr⟩).imp (fun g => .agg _ _ (h.1.trans hl) h1 g.2) (fun g => .agg _ _ (h.2.1.trans hl) h1 g.2)

theorem Contract.split {P : Program} {f : Nat} {args args1 args2 : List AV} {r : AV} {bs : Heap} (hs : OrC args args1 args2) (h1 : Contract P f args1 [] r bs) (h2 : Contract P f args2 [] r bs) : Contract P f args [] r bs := by
  intro w I φ ra hh hx
  have := phi_nil hh
  subst this
  rcases hs.2.2 w I ra hx with hx | hx
  · exact h1 w I Phi.no ra hh hx
  · exact h2 w I Phi.no ra hh hx

theorem SubV.trl_encL {X : Type} {sz : Nat} {e : X → List AV} {z : X} (l : List X) : SubV (.trl sz (l.map e)) (encL sz e z l) := by
  have := SubV.tr (sz := sz) (es := l.map e) (f := fun i => e (l.getD i z)) fun i hi => by
    have hi : i < l.length := by simpa using hi
    have : (l.map e).getD i [] = e (l.getD i z) := by simp [List.getD, List.getElem?_eq_getElem hi]
    rw [this]; exact .refl _
  rwa [List.length_map] at this

/-- a list that is shown as cells, as it is told -/
theorem SubV.trl_of {X : Type} {sz : Nat} {e : X → List AV} {z : X} {es : List (List AV)} (l : List X) (h : es = l.map e) : SubV (.trl sz es) (encL sz e z l) := by
  subst h; exact trl_encL l

end Go.AM
end

section
/- A law's contract as the kit asks for it. -/
set_option linter.unusedVariables false
set_option linter.unusedSimpArgs false
namespace Go.AM

section
variable {H : Type} {enc : TypeId × Value → H} {P : Program} {W W' : World} {I : Nat → Prop}

/-- the contract of a law: 'true', at whatever arguments of the types -/
def LawC (P : Program) (N f : Nat) (ts : List TypeId) : Prop := ∀ avs, Args P N ts avs → Contract P f avs [] (.bool true) []

theorem law_postC {N base f tb : Nat} {fn : Func} {s : ChangeSpec} (hfn : P.funcs[f]? = some fn) (hbody : fn.body.isNone = false)
    (hname : (fn.name == "runtime.NumGoroutine") = false)
    (hvars : s.vars = []) (hrt : fn.resultTypes = #[tb]) (hbool : P.underlying tb = some .bool)
    (hspec : ∀ ds : List (DataW H), ds.length = fn.params.toList.length → s.fn H ds = { results := [.lit (.bool true)], args := ds })
    (hlaid : laidOutB P = true) (hread : ∀ t ∈ fn.params.toList, P.readableRec t = true ∧ t < P.types.size) (hgood : ∀ t ∈ fn.params.toList, goodT P N t = true)
    (hlaw : LawC P N f fn.params.toList) {args : Array Value} {ds gs : List (DataW H)} {before : List MemPlace}
    (hval : ∀ (j : Nat) t v, fn.params[j]? = some t → args[j]? = some v → Value.okWide P W .any base t v) (hW : DataW.Whole enc P fn.params.toList s.vars false W args.toList ds gs before) :
    Calls P f args W fun e W' => ∃ v, e = .returned v ∧ s.post enc P fn false true false false W args v W' := by
  have hW' := hW
  obtain ⟨p, q, hA, hV, rfl, hfz, hnd⟩ := hW
  rw [hvars] at hV
  have hgs : gs = [] ∧ q = [] := by
    cases gs with
    | nil => exact ⟨rfl, hV⟩
    | cons g gs => exact hV.elim
  obtain ⟨rfl, rfl⟩ := hgs
  have hlt := hW'.lt
  simp only [List.append_nil] at hlt hW'
  let I : Nat → Prop := fun B => B < W.heap.size
  obtain ⟨avs, h1, h2, h3⟩ := args_ok (I := I) (fun _ h => h) hgood (fun j t v e e' => hval j t v (by rwa [Array.getElem?_toList] at e) (by rwa [Array.getElem?_toList] at e')) hA
  have hans := hlaw avs h1 W I Phi.no args (RH.empty W I fun _ h => h) ⟨by simpa using h2, fun k x u e e' => h3 k x u e (by rw [Array.getElem?_toList]; exact e')⟩
  have hpost : ∀ u W', (∃ φ' I', RV W' I' φ' (.bool true) u ∧ RH W' I' φ' (hget []) ∧ Step ([] : Heap).length (hget []) Phi.no I W (hget []) φ' I' W') → s.post enc P fn false true false false W args u W' := by
    rintro u W' ⟨φ', I', g1, _, g2⟩
    cases g1
    have hb : RowKit.Below W.heap.size W W' := ⟨g2.ext.os, g2.ext.tape, g2.ext.output, g2.ext.size, fun k hk => g2.ext.keep k hk fun hm => not_mut_nil hm⟩
    have hds : ds.length = fn.params.toList.length := by
      have : ∀ {ts : List TypeId} {vs : List Value} {ds : List (DataW H)} {ps : List MemPlace}, DataW.TrodAll enc P W 0 (fun _ => true) true ts vs ds ps → ds.length = ts.length := by
        intro ts
        induction ts with
        | nil => intro vs ds ps h; cases vs <;> cases ds <;> first | rfl | exact h.elim
        | cons t ts ih => intro vs ds ps h; cases vs <;> cases ds <;> first | exact h.elim | (obtain ⟨_, _, _, h, _⟩ := h; simp [ih h])
      exact this hA
    have hsp := hspec ds hds
    have hone : (Value.bool true).resultList 1 = [.bool true] := rfl
    refine post_of_old (pa := p) (pv := []) hW' (fun b sp hd => ?_) (fun sp hs => ?_) (fun _ _ => ?_) (by simp) hb (RowKit.ok_one hrt rfl (RowKit.okWide_bool_mk hbool _))
    · rw [List.append_nil, hsp, hrt]
      exact ⟨[], [], ⟨1, by simp [DataW.trod, hbool, Value.cells]⟩, rfl, rfl⟩
    · rw [List.append_nil, hsp]
      exact trodAll_stays hlaid hb hread hA hlt hs
    · rw [List.append_nil, hsp, hvars]
      rfl
  rcases hans with ⟨_, h⟩ | ⟨u, W', h, _⟩
  · exact Calls.mono h fun e W' ⟨u, he, hu⟩ => ⟨u, he, hpost u W' hu⟩
  · simp only [callFunc, Sem.run_bind, run_program, Result.andThen_ok, hfn, hname, hbody, Bool.false_eq_true, if_false, Sem.run_pure] at h
    cases h


end
/-- an argument that is a slice, as a tree -/
theorem Shape.list {P : Program} {n : Nat} {t e : TypeId} {av : List AV} (hu : P.underlying t = some (.slice e)) (h : Shape P (n + 1) t av) :
    ∃ c m f, av = [c] ∧ SubV c (.tr (P.cellsOf e) m f) ∧ m ≤ maxLen ∧ ∀ i, i < m → Shape P n e (f i) := by
  unfold Shape at h
  rw [hu] at h
  rcases h with rfl | ⟨es, rfl, h1, h2⟩
  · exact ⟨_, 0, fun _ => [], rfl, .nils, Nat.zero_le _, fun i hi => absurd hi (Nat.not_lt_zero i)⟩
  · refine ⟨_, es.length, fun i => es.getD i [], rfl, .tr fun i _ => .refl _, h1, fun i hi => ?_⟩
    have : es.getD i [] = es[i] := by simp [List.getD, List.getElem?_eq_getElem hi]
    simp only [this]; exact h2 _ (List.getElem_mem hi)

theorem Shape.num {P : Program} {n : Nat} {t : TypeId} {k : IntKind} {av : List AV} (hu : P.underlying t = some (.int k)) (h : Shape P (n + 1) t av) : av = [.int k (getI av 0)] ∧ k.min ≤ getI av 0 ∧ getI av 0 ≤ k.max := by
  unfold Shape at h
  rw [hu] at h
  obtain ⟨i, rfl, h⟩ := h
  exact ⟨rfl, h⟩

theorem Shape.nums {P : Program} {n : Nat} {t e : TypeId} {k : IntKind} {av : List AV} (hu : P.underlying t = some (.slice e)) (hk : P.underlying e = some (.int k)) (hc : P.cellsOf e = 1) (h : Shape P (n + 2) t av) :
    ∃ (c : AV) (m : Nat) (g : Nat → Int), av = [c] ∧ SubV c (.tr 1 m fun i => [.int k (g i)]) ∧ m ≤ maxLen ∧ ∀ i, i < m → k.min ≤ g i ∧ g i ≤ k.max := by
  obtain ⟨c, m, f, rfl, h1, h2, h3⟩ := Shape.list hu h
  rw [hc] at h1
  refine ⟨c, m, fun i => getI (f i) 0, rfl, h1.trans (.trs fun i hi => ?_), h2, fun i hi => (Shape.num hk (h3 i hi)).2⟩
  simp only [← (Shape.num hk (h3 i hi)).1]; exact .refl _

theorem wrap64 {x : Int} (h : -9223372036854775808 ≤ x ∧ x ≤ 9223372036854775807) : IntKind.i64.wrap x = x := by
  simp [IntKind.wrap, IntKind.signed, IntKind.bits, Int.bmod]; omega

theorem wrapu8 {x : Int} (h : 0 ≤ x ∧ x ≤ 255) : IntKind.u8.wrap x = x := by
  simp [IntKind.wrap, IntKind.signed, IntKind.bits]; omega

end Go.AM
end

section
/- Contracts on heaps, told by functions; lists that grow. -/
set_option linter.unusedVariables false
set_option linter.unusedSimpArgs false
namespace Go.AM

/-- a call on a heap: the answer and the heap behind it, numbered anew -/
def hnK (base : Nat) (r : AV) (h : Heap) : Option (AV × Heap) :=
  let s := norm base [0] { fr := [(0, r)], hp := h }
  some (fget s.fr 0, s.hp)

def callH (env : Env) (n f : Nat) (args : List AV) (hp : Heap) : Option (AV × Heap) := evFn (R := AV × Heap) env n f args hp (hnK hp.length)

theorem callH_ok {P : Program} {env : Env} (henv : EnvOk P env) (hcode : CodeOk P env) (hm : P.follows .mixedOrders = true) {n f : Nat} {args : List AV} {hp : Heap} {r : AV} {h : Heap}
    (e : callH env n f args hp = some (r, h)) : Contract P f args hp r h ∧ hp.length ≤ h.length := by
  obtain ⟨res, hp', k1, k2, hc⟩ := ev_ok henv hcode hm n f args hp _ _ e
  cases k1
  refine ⟨fun w I φ ra hh hx => (hc w I φ ra hh hx).mono fun u w' ⟨φ', I', a1, a2, a3⟩ => ?_, norm_base (s := { fr := [(0, res)], hp := hp' }) k2⟩
  have hs : StOk w' I' φ' { fr := [(0, res)], hp := hp' } { tmps := #[u], defers := [] } := by
    refine ⟨a2, fun t => ?_⟩
    cases t with
    | zero => exact a1
    | succ t => exact .undef _
  obtain ⟨_, φ2, n2, n3⟩ := norm_ok hp.length [0] hs k2
  exact ⟨φ2, I', n2.fr 0, n2.hh, a3.trans n3⟩

def gPH {X : Type} (dec : List AV → Heap → X) (pre : X → Prop) (enc : X → List AV × Heap) (args : List AV) (hp : Heap) : Prop := pre (dec args hp) ∧ enc (dec args hp) = (args, hp)

noncomputable def Known.specH {X : Type} (f : Nat) (dec : List AV → Heap → X) (pre : X → Prop) (enc : X → List AV × Heap) (out : X → AV × Heap) : Known :=
  { f := f, ans := fun args hp => some { X := X, g := cd (gPH dec pre enc args hp), a := dec args hp, r := out } }

theorem Known.specH_ok {P : Program} {X : Type} {f : Nat} {dec : List AV → Heap → X} {pre : X → Prop} {enc : X → List AV × Heap} {out : X → AV × Heap}
    (h : ∀ x, pre x → Contract P f (enc x).1 (enc x).2 (out x).1 (out x).2 ∧ (enc x).2.length ≤ (out x).2.length) : (Known.specH f dec pre enc out).Ok P := by
  intro args hp A e hg
  cases e
  obtain ⟨h1, h2⟩ := cd_iff.1 hg
  have := h _ h1
  rw [h2] at this
  exact this

/-- a call that is known, on a heap -/
noncomputable def gCH {R : Type} {X : Type} (dec : List AV → Heap → X) (pre : X → Prop) (enc : X → List AV × Heap) (A : List AV) (H : Heap) (k : X → Option R) : Option R := gX (gPH dec pre enc A H) (dec A H) k

theorem gCH_eq {R : Type} {X : Type} {dec : List AV → Heap → X} {pre : X → Prop} {enc : X → List AV × Heap} {A : List AV} {H : Heap} {k : X → Option R} (x : X) (h1 : dec A H = x) (h2 : pre x) (h3 : enc x = (A, H)) :
    gCH dec pre enc A H k = k x := by
  subst h1; exact gX_of ⟨h2, h3⟩

/-! ### lists that grow -/

/-- the elements of two, one behind the other, as 'append' has them -/
def appF (n : Nat) (f : Nat → List AV) (m : Nat) (g : Nat → List AV) : Nat → List AV :=
  fun i => bif Nat.blt i n then f i else bif Nat.blt i (n + m) then g (i - n) else f n

theorem appF_enc {X : Type} (e : X → List AV) (z : X) (l k : List X) : appF l.length (fun i => e (l.getD i z)) k.length (fun i => e (k.getD i z)) = fun i => e ((l ++ k).getD i z) := by
  funext i
  unfold appF
  by_cases h : i < l.length
  · have : Nat.blt i l.length = true := by rw [Nat.blt_eq]; exact h
    rw [this, cond_true]
    simp [List.getD, List.getElem?_append_left h]
  · have h0 : Nat.blt i l.length = false := by
      cases hb : Nat.blt i l.length with
      | false => rfl
      | true => rw [Nat.blt_eq] at hb; exact absurd hb h
    rw [h0, cond_false]
    by_cases h1 : i < l.length + k.length
    · have : Nat.blt i (l.length + k.length) = true := by rw [Nat.blt_eq]; exact h1
      rw [this, cond_true]
      simp [List.getD, List.getElem?_append_right (Nat.le_of_not_lt h)]
    · have : Nat.blt i (l.length + k.length) = false := by
        cases hb : Nat.blt i (l.length + k.length) with
        | false => rfl
        | true => rw [Nat.blt_eq] at hb; exact absurd hb h1
      rw [this, cond_false]
      have e1 : l[l.length]? = none := List.getElem?_eq_none (Nat.le_refl _)
      have e2 : (l ++ k)[i]? = none := List.getElem?_eq_none (by simp; omega)
      simp [List.getD, e1, e2]

/-- the same where the new ones are written out -/
theorem appF_lit {X : Type} (e : X → List AV) (z : X) (l k : List X) : appF l.length (fun i => e (l.getD i z)) k.length (fun i => (k.map e).getD i []) = fun i => e ((l ++ k).getD i z) := by
  rw [← appF_enc e z l k]
  funext i
  unfold appF
  cases h0 : Nat.blt i l.length with
  | true => rfl
  | false =>
    cases h1 : Nat.blt i (l.length + k.length) with
    | false => rfl
    | true =>
      simp only [cond_false, cond_true]
      rw [Nat.blt_eq] at h1
      have hi : l.length ≤ i := by
        rcases Nat.lt_or_ge i l.length with h | h
        · rw [show Nat.blt i l.length = true by rw [Nat.blt_eq]; exact h] at h0; cases h0
        · exact h
      have : i - l.length < k.length := by omega
      simp [List.getD, List.getElem?_eq_getElem this]

theorem drop_cons {X : Type} {l : List X} {i : Nat} {z : X} (h : i < l.length) : l.drop i = l.getD i z :: l.drop (i + 1) := by
  rw [List.drop_eq_getElem_cons h]
  simp [List.getD, List.getElem?_eq_getElem h]

theorem decL_encL' {X : Type} {sz : Nat} {e : X → List AV} {d : List AV → X} {z : X} {l : List X} (h : ∀ x ∈ l, d (e x) = x) : decL d (encL sz e z l) = l := by
  simp only [decL, encL]
  refine List.ext_getElem (by simp) fun i h1 h2 => ?_
  simp [List.getD, List.getElem?_eq_getElem h2, h _ (List.getElem_mem h2)]

theorem blt_true {a b : Nat} (h : a < b) : Nat.blt a b = true := by rw [Nat.blt_eq]; exact h
theorem blt_false {a b : Nat} (h : b ≤ a) : Nat.blt a b = false := by
  cases hb : Nat.blt a b with
  | false => rfl
  | true => rw [Nat.blt_eq] at hb; omega
theorem ble_true {a b : Nat} (h : a ≤ b) : Nat.ble a b = true := by rw [Nat.ble_eq]; exact h
theorem beq_false {a b : Nat} (h : a ≠ b) : Nat.beq a b = false := by
  cases hb : Nat.beq a b with
  | false => rfl
  | true => exact absurd (Nat.eq_of_beq_eq_true hb) h
theorem beq_true {a b : Nat} (h : a = b) : Nat.beq a b = true := by subst h; exact Nat.beq_refl a

end Go.AM
end

section
/- Contracts whose answers are blocks of their own. -/
set_option linter.unusedVariables false
set_option linter.unusedSimpArgs false
namespace Go.AM

noncomputable def Known.specB {X : Type} (f : Nat) (dec : List AV → X) (pre : X → Prop) (enc : X → List AV) (out : X → AV × Heap) : Known :=
  { f := f, ans := fun args hp => match hp with
      | [] => some { X := X, g := cd (gP dec pre enc args), a := dec args, r := out }
      | _ => none }

theorem Known.specB_ok {P : Program} {X : Type} {f : Nat} {dec : List AV → X} {pre : X → Prop} {enc : X → List AV} {out : X → AV × Heap}
    (h : ∀ x, pre x → Contract P f (enc x) [] (out x).1 (out x).2) : (Known.specB f dec pre enc out).Ok P := by
  intro args hp A e hg
  cases hp with
  | nil =>
    cases e
    obtain ⟨h1, h2⟩ := cd_iff.1 hg
    exact ⟨(h _ h1).args h2, Nat.zero_le _⟩
  | cons x r => cases e

/-- a list in a block of its own -/
def outBlk {X : Type} (sz : Nat) (e : X → List AV) (z : X) (l : List X) : AV × Heap := (.sl sz 0 0 l.length 0, [.seq true sz l.length fun i => e (l.getD i z)])

theorem hget_one (x : BS) (b : Nat) : hget [x] b = if b = 0 then x else .none := by
  cases b with
  | zero => rfl
  | succ b => simp [hget]

/-- one block is told in other words -/
theorem Contract.reblk {P : Program} {f : Nat} {args : List AV} {v v' : AV} {x x' : BS} (h : Contract P f args [] v [x]) (hm : mutable x' = true) (hm' : mutable x = true)
    (hv : ∀ w I φ u, RV w I φ v u → RV w I φ v' u) (hb : ∀ w I φ B o sz, RB w I φ B o sz x → RB w I φ B o sz x') : Contract P f args [] v' [x'] := by
  intro w I φ ra hh hx
  refine (h w I φ ra hh hx).mono fun u w' ⟨φ', I', a1, a2, a3⟩ => ?_
  have hl := live_of_mutable hm
  have hl' := live_of_mutable hm'
  have at0 : ∀ b, live (hget [x'] b) = true → b = 0 := by
    intro b hb
    rw [hget_one] at hb
    split at hb
    · assumption
    · cases hb
  have key : ∀ b, mutable (hget [x'] b) = true → mutable (hget [x] b) = true := by
    intro b hb
    have := at0 b (live_of_mutable hb)
    subst this
    exact hm'
  refine ⟨φ', I', hv _ _ _ _ a1, ⟨fun b e => ?_, fun b e => ?_, fun b b' B o sz o' sz' e e' => a2.inj b b' B o sz o' sz' (key b e) (key b' e'), fun b B o sz e => a2.disj b B o sz (key b e), fun b B o sz e e2 => ?_, a2.lt⟩,
    ⟨a3.le, a3.Ile, a3.Inew, fun B ⟨b, o, sz, e, e2⟩ => a3.mt B ⟨b, o, sz, key b e, e2⟩, a3.ext⟩⟩
  · rw [hget_one] at e
    split at e
    · subst e; cases hl
    · rename_i hb0
      exact a2.none b (by rw [hget_one, if_neg hb0])
  · have := at0 b e
    subst this
    obtain ⟨B, o, sz, e1, r⟩ := a2.blk 0 hl'
    exact ⟨B, o, sz, e1, hb _ _ _ _ _ _ r⟩
  · have := at0 b e
    subst this
    have e2 : mutable x' = false := e2
    rw [hm] at e2; cases e2

theorem RV.slack {w : World} {I : Nat → Prop} {φ : Phi} {sz b off len cm : Nat} {u : Value} (h : RV w I φ (.sl sz b off len cm) u) : RV w I φ (.sl sz b off len 0) u := by
  cases h with
  | sl _ _ B o _ _ _ cap q h1 h2 h3 h4 h5 => exact .sl sz b B o off len 0 cap q h1 h2 h3 (Nat.zero_le _) h5
  | sle => exact .sle sz b off _

/-- a block that was written out -/
theorem Contract.blkArr {P : Program} {f : Nat} {args : List AV} {X : Type} {sz cm : Nat} {e : X → List AV} {z : X} (l : List X) (hf : ∀ x, (e x).all refFree = true)
    (h : Contract P f args [] (.sl sz 0 0 l.length cm) [.arr true sz (l.map e)]) : Contract P f args [] (outBlk sz e z l).1 (outBlk sz e z l).2 := by
  refine h.reblk rfl rfl (fun w I φ u h => h.slack) (fun w I φ B o s h => ?_)
  obtain ⟨h1, h2, h3, h4⟩ := h
  have at' : ∀ i, i < l.length → (l.map e)[i]? = some (e (l.getD i z)) := fun i hi => by simp [List.getD, List.getElem?_eq_getElem hi]
  refine ⟨h1, h2, fun i hi => h3 i _ (at' i hi), fun i k c hi hc => ?_⟩
  obtain ⟨u, g1, g2, g3⟩ := h4 i _ k c (at' i hi) hc
  exact ⟨u, g1, g2, g3.free (by simpa using (List.all_eq_true.1 (hf (l.getD i z))) c (List.mem_of_getElem? hc))⟩

/-- a block that was told by a function -/
theorem Contract.blkSeq {P : Program} {f : Nat} {args : List AV} {X : Type} {sz cm n : Nat} {g : Nat → List AV} {e : X → List AV} {z : X} (l : List X) (hn : n = l.length) (hg : ∀ i, i < l.length → g i = e (l.getD i z))
    (h : Contract P f args [] (.sl sz 0 0 n cm) [.seq true sz n g]) : Contract P f args [] (outBlk sz e z l).1 (outBlk sz e z l).2 := by
  subst hn
  refine h.reblk rfl rfl (fun w I φ u h => h.slack) (fun w I φ B o s h => ?_)
  obtain ⟨h1, h2, h3, h4⟩ := h
  exact ⟨h1, h2, fun i hi => by show (e (l.getD i z)).length = _; rw [← hg i hi]; exact h3 i hi, fun i k c hi hc => h4 i k c hi (by rw [hg i hi]; exact hc)⟩

end Go.AM
end

section
/- Lists that grow from nothing, as the abstract machine has them; loops that pick elements. -/
set_option linter.unusedVariables false
namespace Go.AM

section
variable {X : Type} (sz : Nat) (e : X → List AV) (z : X)
/-- the elements of a grown list; behind its end stands the first one -/
def canF (l : List X) : Nat → List AV := fun i => e (l.getD i (l.getD 0 z))
/-- a grown list in the block b -/
def gSl (b : Nat) : List X → AV
  | [] => .nils
  | [_] => .sl sz b 0 1 1
  | l => .sl sz b 0 l.length 0
def gBl : List X → Heap
  | [] => []
  | l => [.seq true sz l.length (canF e z l)]
/-- a grown list, read -/
def gTr : List X → AV
  | [] => .nils
  | l => .tr sz l.length (canF e z l)
end
section
variable {X : Type} {sz : Nat} {e : X → List AV} {z : X}
theorem canF_at {l : List X} {i : Nat} (h : i < l.length) : canF e z l i = e (l.getD i z) := by
  unfold canF; simp [List.getD, List.getElem?_eq_getElem h]
theorem canF_one (x : X) : (fun i => [e x].getD i ([e x].getD 0 [])) = canF e z [x] := by
  funext i
  unfold canF
  cases i with
  | zero => rfl
  | succ i => simp [List.getD]
theorem canF_oneS (x : X) : (fun i => [e x].getD i (e x)) = canF e z [x] := canF_one x
theorem canF_app {l : List X} (h : l ≠ []) (x : X) :
    (fun i => bif Nat.blt i l.length then canF e z l i else bif Nat.blt i (l.length + 1) then [e x].getD (i - l.length) [] else canF e z l l.length) = canF e z (l ++ [x]) := by
  funext i
  have h0 : 0 < l.length := List.length_pos_iff.2 h
  have hh : (l ++ [x]).getD 0 z = l.getD 0 z := by unfold List.getD; rw [List.getElem?_append_left h0]
  by_cases h1 : i < l.length
  · rw [blt_true h1, cond_true]
    unfold canF
    rw [hh]
    simp [List.getD, List.getElem?_append_left h1]
  · rw [blt_false (Nat.le_of_not_lt h1), cond_false]
    by_cases h2 : i < l.length + 1
    · have : i = l.length := by omega
      subst this
      rw [blt_true h2, cond_true]
      unfold canF
      simp [List.getD]
    · rw [blt_false (by omega), cond_false]
      unfold canF
      rw [hh]
      have e1 : l[l.length]? = none := List.getElem?_eq_none (Nat.le_refl _)
      have e2 : (l ++ [x])[i]? = none := List.getElem?_eq_none (by simp; omega)
      simp [List.getD, e1, e2]
/-- an append of one to a grown list of one -/
theorem canF_app1 (a x : X) : (fun i => bif Nat.blt i 1 then canF e z [a] i else bif Nat.blt i 2 then [e x].getD (i - 1) [] else canF e z [a] 1) = canF e z [a, x] := canF_app (l := [a]) (by simp) x
theorem gSl_app {b : Nat} {l : List X} (h : l ≠ []) (x : X) : gSl sz b (l ++ [x]) = .sl sz b 0 (l.length + 1) 0 := by
  match l, h with
  | [a], _ => rfl
  | a :: c :: r, _ =>
    show AV.sl sz b 0 ((a :: c :: (r ++ [x])).length) 0 = _
    simp
theorem gBl_app {l : List X} (h : l ≠ []) (x : X) : gBl sz e z (l ++ [x]) = [.seq true sz (l.length + 1) (canF e z (l ++ [x]))] := by
  match l, h with
  | a :: r, _ =>
    show [BS.seq true sz ((a :: (r ++ [x])).length) _] = _
    simp
theorem gTr_sub (l : List X) : SubV (gTr sz e z l) (encL sz e z l) := by
  match l with
  | [] => exact .nils
  | a :: r => exact SubV.trs fun i hi => by rw [canF_at hi]; exact .refl _
theorem dec_gTr {d : List AV → X} (hd : ∀ x, d (e x) = x) (l : List X) : decL d (gTr sz e z l) = l := by
  match l with
  | [] => rfl
  | a :: r =>
    show (List.range (a :: r).length).map (fun i => d (canF e z (a :: r) i)) = a :: r
    refine List.ext_getElem (by simp) fun i h1 h2 => ?_
    simp only [List.getElem_map, List.getElem_range]
    rw [canF_at h2, hd]
    simp [List.getD, List.getElem?_eq_getElem h2]
end

/-- the tests of an append of one to a list of n elements of b bytes -/
def room1 {R : Type} (n b : Nat) (k : Option R) : Option R :=
  bif Nat.beq n 0 || Nat.ble n n then bif Nat.ble ((n + 1) * b) 140737488355328 && Nat.ble (n + 1) 140737488355328 then k else none else none
theorem room1_eq {R : Type} {n b : Nat} {k : Option R} (hb : b ≤ 1000) (h : n ≤ 1000000) : room1 n b k = k := by
  unfold room1
  have h1 : (n + 1) * b ≤ 140737488355328 := by
    have : (n + 1) * b ≤ 1000001 * 1000 := Nat.mul_le_mul (by omega) hb
    omega
  rw [ble_true (Nat.le_refl n), ble_true h1, ble_true (by omega : n + 1 ≤ 140737488355328)]
  simp

theorem orU (n : Nat) : (Nat.beq n 0 || Nat.ble n n) = true := by rw [ble_true (Nat.le_refl n)]; simp
theorem roomU {n b : Nat} (hb : b ≤ 1000) (h : n ≤ 1000000) : (Nat.ble ((n + 1) * b) 140737488355328 && Nat.ble (n + 1) 140737488355328) = true := by
  have h1 : (n + 1) * b ≤ 140737488355328 := by
    have : (n + 1) * b ≤ 1000001 * 1000 := Nat.mul_le_mul (by omega) hb
    omega
  rw [ble_true h1, ble_true (by omega : n + 1 ≤ 140737488355328)]; rfl

/-- a loop that goes up, and picks elements -/
theorem pick_loop {X : Type} {R : Type} {l : List X} {z : X} {keep : X → Bool} {G : Nat → Int → List X → Option R} {fin : List X → Option R}
    (hend : ∀ m acc, acc.length ≤ l.length → G (m + 1) (l.length : Int) acc = fin acc)
    (hstep : ∀ m (i : Nat) acc, i < l.length → acc.length ≤ i → G (m + 1) (i : Int) acc = bif keep (l.getD i z) then G m ((i + 1 : Nat) : Int) (acc ++ [l.getD i z]) else G m ((i + 1 : Nat) : Int) acc) :
    ∀ (d i m : Nat) (acc : List X), i + d = l.length → d < m → acc.length ≤ i → G m (i : Int) acc = fin (acc ++ (l.drop i).filter keep) := by
  intro d
  induction d with
  | zero =>
    intro i m acc hi hm ha
    obtain ⟨m, rfl⟩ : ∃ k, m = k + 1 := ⟨m - 1, by omega⟩
    have : i = l.length := by omega
    subst this
    rw [hend m acc ha]; simp
  | succ d ih =>
    intro i m acc hi hm ha
    obtain ⟨m, rfl⟩ : ∃ k, m = k + 1 := ⟨m - 1, by omega⟩
    rw [hstep m i acc (by omega) ha, drop_cons (z := z) (by omega : i < l.length), List.filter_cons]
    cases hk : keep (l.getD i z) with
    | true =>
      rw [cond_true, if_pos rfl, ih (i + 1) m _ (by omega) (by omega) (by simp; omega), List.append_assoc]; rfl
    | false =>
      rw [cond_false, if_neg (by simp), ih (i + 1) m _ (by omega) (by omega) (by omega)]
end Go.AM
end

section
/- Points of a function's jumps, from which a run is told by equations. -/
set_option linter.unusedVariables false
namespace Go.AM
/-- the way to the scope of the label l -/
def findS (l : Nat) : Code → Option (List PE)
  | .scope a => match findLabel a l with
    | some _ => some []
    | .none => match findS l a with
      | some p => some (.L :: p)
      | .none => .none
  | .seq x y => match findS l x with
    | some p => some (.L :: p)
    | .none => match findS l y with
      | some p => some (.R :: p)
      | .none => .none
  | .cond _ x y => match findS l x with
    | some p => some (.L :: p)
    | .none => match findS l y with
      | some p => some (.R :: p)
      | .none => .none
  | .block _ a => match findS l a with
    | some p => some (.L :: p)
    | .none => .none
  | _ => .none
/-- a run of the function f from the label l on, with m jumps left -/
def JP {R : Type} (env : Env) (n base f : Nat) (k : AV → Heap → Option R) (l m : Nat) (s : St) : Option R :=
  match findS l (bodyOf env f) with
  | some p => match sub (bodyOf env f) p with
    | .scope a => jumpK env (evFn env n) f (ntOf env f) n base m a l (contOf env (evFn env n) f (ntOf env f) n base (jumpK env (evFn env n) f (ntOf env f) n base n) 0 (bodyOf env f) p (finK env f k)) s
    | _ => .none
  | .none => .none
end Go.AM
end

section
/- A value that is written out is of another's kind: decided. -/
namespace Go.AM
def subB : Nat → AV → AV → Bool
  | 0, _, _ => false
  | n + 1, a, b => match a with
    | .bool x => match b with
      | .bool y => decide (x = y)
      | _ => false
    | .int k x => match b with
      | .int j y => decide (k = j) && decide (x = y)
      | _ => false
    | .cplx k x x' => match b with
      | .cplx j y y' => decide (k = j) && (decide (x = y) && decide (x' = y'))
      | _ => false
    | .str x => match b with
      | .str y => decide (x = y)
      | _ => false
    | .nils => match b with
      | .nils => true
      | .tr _ m _ => Nat.beq m 0
      | _ => false
    | .trl s es => match b with
      | .tr t m f => decide (s = t) && (decide (es.length = m) && (List.range m).all fun i => decide ((es.getD i []).length = (f i).length) && (List.range (f i).length).all fun k => subB n ((es.getD i []).getD k .undef) ((f i).getD k .undef))
      | _ => false
    | .agg cs => match b with
      | .agg ds => decide (cs.length = ds.length) && (List.range ds.length).all fun k => subB n (cs.getD k .undef) (ds.getD k .undef)
      | _ => false
    | .tup cs => match b with
      | .tup ds => decide (cs.length = ds.length) && (List.range ds.length).all fun k => subB n (cs.getD k .undef) (ds.getD k .undef)
      | _ => false
    | _ => false
theorem subC_of {n : Nat} {cs ds : List AV} (ih : ∀ a b, subB n a b = true → SubV a b) (h : cs.length = ds.length) (h2 : ((List.range ds.length).all fun k => subB n (cs.getD k .undef) (ds.getD k .undef)) = true) : SubC cs ds := by
  refine ⟨h, fun k c c' e e' => ih _ _ ?_⟩
  have hk : k < ds.length := by
    rcases Nat.lt_or_ge k ds.length with h | h
    · exact h
    · rw [List.getElem?_eq_none h] at e'; cases e'
  have := (List.all_eq_true.1 h2) k (List.mem_range.2 hk)
  simp only [List.getD, e, e', Option.getD_some] at this
  exact this
theorem subB_ok : ∀ (n : Nat) (a b : AV), subB n a b = true → SubV a b
  | 0, a, b, h => by cases h
  | n + 1, a, b, h => by
    have ih := subB_ok n
    cases a <;> cases b
    all_goals first | (exact absurd h Bool.false_ne_true) | skip
    all_goals simp only [subB, Bool.and_eq_true, decide_eq_true_eq] at h
    case bool.bool => subst h; exact .refl _
    case int.int => obtain ⟨rfl, rfl⟩ := h; exact .refl _
    case cplx.cplx => obtain ⟨rfl, rfl, rfl⟩ := h; exact .refl _
    case str.str => subst h; exact .refl _
    case nils.nils => exact .refl _
    case nils.tr => have := Nat.eq_of_beq_eq_true h; subst this; exact .nils
    case trl.tr =>
      obtain ⟨rfl, rfl, h3⟩ := h
      refine SubV.tr fun i hi => ?_
      have := (List.all_eq_true.1 h3) i (List.mem_range.2 hi)
      simp only [Bool.and_eq_true, decide_eq_true_eq] at this
      exact subC_of ih this.1 this.2
    case agg.agg => exact .agg (subC_of ih h.1 h.2)
    case tup.tup => exact .tup (subC_of ih h.1 h.2)
end Go.AM
end

section
/- Whole numbers as floats of 64 bits: they are read as they were written, and stand in their order. -/
namespace Go.Fl
open Ieee

def fl (n : Nat) : Nat := double.nearest false n 0

theorem log2_mul_pow {n : Nat} (h : n ≠ 0) (s : Nat) : (n * 2 ^ s).log2 = n.log2 + s := by
  have h1 := (Nat.le_log2 h).1 (Nat.le_refl _)
  have h2 : n < 2 ^ (n.log2 + 1) := Nat.lt_log2_self
  have hne : n * 2 ^ s ≠ 0 := Nat.mul_ne_zero h (by simp)
  apply Nat.le_antisymm
  · refine Nat.lt_succ_iff.1 ((Nat.log2_lt hne).2 ?_)
    calc n * 2 ^ s < 2 ^ (n.log2 + 1) * 2 ^ s := Nat.mul_lt_mul_of_pos_right h2 (Nat.two_pow_pos s)
      _ = 2 ^ (n.log2 + s + 1) := by rw [← Nat.pow_add]; congr 1; omega
  · refine (Nat.le_log2 hne).2 ?_
    rw [Nat.pow_add]; exact Nat.mul_le_mul_right _ h1

theorem cut_even (n d : Nat) : Toward.even.cut false (n * 2 ^ d) d = n := by
  unfold Toward.cut
  by_cases h : n = 0
  · subst h; simp
  · have hm : min d ((n * 2 ^ d).log2 + 2) = d := by rw [log2_mul_pow h]; omega
    simp only [hm, Nat.one_shiftLeft]
    have h1 : n * 2 ^ d / 2 ^ d = n := Nat.mul_div_cancel _ (Nat.two_pow_pos d)
    have h2 : n * 2 ^ d % 2 ^ d = 0 := Nat.mul_mod_left n (2 ^ d)
    rw [h1, h2]
    have : (2 ^ d == 0) = false := by simp
    simp [this]

theorem cut_zero (n d : Nat) : Toward.zero.cut false (n * 2 ^ d) d = n := by
  unfold Toward.cut
  by_cases h : n = 0
  · subst h; simp
  · have hm : min d ((n * 2 ^ d).log2 + 2) = d := by rw [log2_mul_pow h]; omega
    simp only [hm, Nat.one_shiftLeft]
    rw [Nat.mul_div_cancel _ (Nat.two_pow_pos d)]
    simp

theorem log2_lt53 {n : Nat} (h : n ≠ 0) (hn : n < 2 ^ 53) : n.log2 ≤ 52 := by
  have := (Nat.log2_lt h).2 hn
  omega

/-- the word of a number that is written with u digits more -/
theorem nearest_up {n : Nat} (h : n ≠ 0) (hn : n < 2 ^ 53) {u : Nat} (hu : u ≤ 1074) :
    double.nearest false (n * 2 ^ u) (-(u : Int)) = (n.log2 + 1022) * 2 ^ 52 + n * 2 ^ (52 - n.log2) := by
  have hl := log2_lt53 h hn
  unfold Format.nearest
  have hne : n * 2 ^ u ≠ 0 := Nat.mul_ne_zero h (by simp)
  have hlp : double.leastPlace = -1074 := by decide
  have hfb : double.fractionBits = 52 := rfl
  have hbi : double.binade = 2 ^ 52 := rfl
  rw [if_neg hne, log2_mul_pow h, hlp, hfb, hbi]
  have hlast : max (-(u : Int) + ((n.log2 + u : Nat) : Int) - (52 : Nat)) (-1074) = (n.log2 : Int) - 52 := by omega
  simp only [hlast]
  have hk : Toward.even.cut false ((n * 2 ^ u) <<< (-(u : Int) - ((n.log2 : Int) - 52)).toNat) ((n.log2 : Int) - 52 - -(u : Int)).toNat = n * 2 ^ (52 - n.log2) := by
    rcases Nat.le_total u (52 - n.log2) with hc | hc
    · have e1 : (-(u : Int) - ((n.log2 : Int) - 52)).toNat = 52 - n.log2 - u := by omega
      have e2 : ((n.log2 : Int) - 52 - -(u : Int)).toNat = 0 := by omega
      rw [e1, e2, Nat.shiftLeft_eq, Nat.mul_assoc, ← Nat.pow_add, show u + (52 - n.log2 - u) = 52 - n.log2 by omega]
      have := cut_even (n * 2 ^ (52 - n.log2)) 0
      simpa using this
    · have e1 : (-(u : Int) - ((n.log2 : Int) - 52)).toNat = 0 := by omega
      have e2 : ((n.log2 : Int) - 52 - -(u : Int)).toNat = u - (52 - n.log2) := by omega
      rw [e1, e2]
      have e3 : (n * 2 ^ u) <<< 0 = n * 2 ^ (52 - n.log2) * 2 ^ (u - (52 - n.log2)) := by
        rw [Nat.shiftLeft_zero, Nat.mul_assoc, ← Nat.pow_add, show 52 - n.log2 + (u - (52 - n.log2)) = u by omega]
      rw [e3, cut_even]
  rw [hk]
  have e4 : ((n.log2 : Int) - 52 - -1074).toNat = n.log2 + 1022 := by omega
  rw [e4]
  have hinf : double.infRung = 2047 * 2 ^ 52 := by decide
  rw [hinf]
  have hlt : n * 2 ^ (52 - n.log2) < 2 ^ 53 := by
    calc n * 2 ^ (52 - n.log2) < 2 ^ (n.log2 + 1) * 2 ^ (52 - n.log2) := Nat.mul_lt_mul_of_pos_right Nat.lt_log2_self (Nat.two_pow_pos _)
      _ = 2 ^ 53 := by rw [← Nat.pow_add]; congr 1; omega
  have : (n.log2 + 1022) * 2 ^ 52 + n * 2 ^ (52 - n.log2) ≤ 2047 * 2 ^ 52 := by omega
  rw [Nat.min_eq_left this]
  rfl

theorem nearest_zero (u : Int) : double.nearest false 0 u = 0 := by simp [Format.nearest, Format.word]

theorem nearest_fl {n : Nat} (hn : n < 2 ^ 53) {u : Nat} (hu : u ≤ 1074) : double.nearest false (n * 2 ^ u) (-(u : Int)) = fl n := by
  by_cases h : n = 0
  · subst h; simp [fl, nearest_zero]
  · rw [nearest_up h hn hu]
    have := nearest_up h hn (u := 0) (by omega)
    simp at this
    exact this.symm

set_option maxRecDepth 100000 in
/-- a number is read as it was written -/
theorem read_fl {n : Nat} (hn : n < 2 ^ 53) : ∃ s : Nat, s ≤ 1074 ∧ double.read (fl n) = .number false (n * 2 ^ s) (-(s : Int)) := by
  have hlp : double.leastPlace = -1074 := by decide
  have hbi : double.binade = 2 ^ 52 := rfl
  have hsw : double.signWeight = 2 ^ 63 := rfl
  have hinf : double.infRung = 2047 * 2 ^ 52 := by decide
  by_cases h : n = 0
  · subst h
    have h0 : ∀ s : Nat, s = 1074 → double.read (fl 0) = .number false (0 * 2 ^ s) (-(s : Int)) := by
      intro s hs
      rw [Nat.zero_mul]
      simp [fl, nearest_zero, Format.read, hlp, hbi, hsw, hs]
    obtain ⟨s, hs⟩ : ∃ s : Nat, s = 1074 := ⟨_, rfl⟩
    exact ⟨s, by rw [hs]; exact Nat.le_refl _, h0 s hs⟩
  · have hl := log2_lt53 h hn
    refine ⟨52 - n.log2, by omega, ?_⟩
    have hw : fl n = (n.log2 + 1022) * 2 ^ 52 + n * 2 ^ (52 - n.log2) := by
      have := nearest_up h hn (u := 0) (by omega)
      simp at this
      exact this
    rw [hw]
    have hlt : n * 2 ^ (52 - n.log2) < 2 ^ 53 := by
      calc n * 2 ^ (52 - n.log2) < 2 ^ (n.log2 + 1) * 2 ^ (52 - n.log2) := Nat.mul_lt_mul_of_pos_right Nat.lt_log2_self (Nat.two_pow_pos _)
        _ = 2 ^ 53 := by rw [← Nat.pow_add]; congr 1; omega
    have hge : 2 ^ 52 ≤ n * 2 ^ (52 - n.log2) := by
      calc 2 ^ 52 = 2 ^ n.log2 * 2 ^ (52 - n.log2) := by rw [← Nat.pow_add]; congr 1; omega
        _ ≤ n * 2 ^ (52 - n.log2) := Nat.mul_le_mul_right _ ((Nat.le_log2 h).1 (Nat.le_refl _))
    generalize n * 2 ^ (52 - n.log2) = M at hlt hge ⊢
    generalize n.log2 = L at hl ⊢
    have p52 : (2 : Nat) ^ 52 = 4503599627370496 := by decide
    have p53 : (2 : Nat) ^ 53 = 9007199254740992 := by decide
    have p63 : (2 : Nat) ^ 63 = 9223372036854775808 := by decide
    rw [p53] at hlt
    rw [p52] at hge
    obtain ⟨r, rfl⟩ : ∃ r, M = 4503599627370496 + r := ⟨M - 4503599627370496, by omega⟩
    have hr : r < 4503599627370496 := by omega
    unfold Format.read
    simp only [hsw, hbi, hinf, hlp, p52, p63]
    have e1 : ((L + 1022) * 4503599627370496 + (4503599627370496 + r)) / 9223372036854775808 % 2 = 0 := by
      rw [Nat.div_eq_of_lt (by omega)]
    have e2 : ((L + 1022) * 4503599627370496 + (4503599627370496 + r)) % 9223372036854775808 = (L + 1022) * 4503599627370496 + (4503599627370496 + r) := Nat.mod_eq_of_lt (by omega)
    rw [e1, e2, if_neg (by omega), if_pos (by omega)]
    have e3 : ((L + 1022) * 4503599627370496 + (4503599627370496 + r)) % 4503599627370496 = r := by omega
    have e4 : ((L + 1022) * 4503599627370496 + (4503599627370496 + r)) / 4503599627370496 = L + 1023 := by omega
    rw [e3, e4]
    congr 1
    omega

theorem signed_up {n s t : Nat} : signed false (n * 2 ^ s) (-(s : Int) - min (-(s : Int)) (-(t : Int))).toNat = (n * 2 ^ max s t : Nat) := by
  unfold signed
  simp only [Bool.false_eq_true, if_false, Nat.shiftLeft_eq]
  congr 1
  rw [Nat.mul_assoc, ← Nat.pow_add]
  congr 2
  omega

theorem signed_up' {n s t : Nat} : signed false (n * 2 ^ t) (-(t : Int) - min (-(s : Int)) (-(t : Int))).toNat = (n * 2 ^ max s t : Nat) := by
  unfold signed
  simp only [Bool.false_eq_true, if_false, Nat.shiftLeft_eq]
  congr 1
  rw [Nat.mul_assoc, ← Nat.pow_add]
  congr 2
  omega

theorem order_fl {n m : Nat} (hn : n < 2 ^ 53) (hm : m < 2 ^ 53) : double.order (fl n) (fl m) = some (compare n m) := by
  obtain ⟨s, _, e1⟩ := read_fl hn
  obtain ⟨t, _, e2⟩ := read_fl hm
  unfold Format.order
  rw [e1, e2]
  unfold Datum.order
  simp only [signed_up, signed_up']
  have hp : 0 < 2 ^ max s t := Nat.two_pow_pos _
  congr 1
  rcases Nat.lt_trichotomy n m with h | h | h
  · have : n * 2 ^ max s t < m * 2 ^ max s t := Nat.mul_lt_mul_of_pos_right h hp
    rw [Nat.compare_eq_lt.2 h, Int.compare_eq_lt.2 (by exact_mod_cast this)]
  · subst h; rw [Nat.compare_eq_eq.2 rfl, Int.compare_eq_eq.2 rfl]
  · have : m * 2 ^ max s t < n * 2 ^ max s t := Nat.mul_lt_mul_of_pos_right h hp
    rw [Nat.compare_eq_gt.2 h, Int.compare_eq_gt.2 (by exact_mod_cast this)]

theorem toInt_fl {n : Nat} (hn : n < 2 ^ 53) : (double.read (fl n)).toInt .zero = some n := by
  obtain ⟨s, _, e1⟩ := read_fl hn
  rw [e1]
  unfold Datum.toInt Datum.integral
  simp only
  have e2 : (-(s : Int)).toNat = 0 := by omega
  have e3 : (- -(s : Int)).toNat = s := by omega
  rw [e2, e3, Nat.shiftLeft_zero, cut_zero]
  simp [signed]

theorem add_fl {n m : Nat} (h : n + m < 2 ^ 53) : double.add (fl n) (fl m) = some (fl (n + m)) := by
  obtain ⟨s, hs, e1⟩ := read_fl (n := n) (by omega)
  obtain ⟨t, ht, e2⟩ := read_fl (n := m) (by omega)
  unfold Format.add
  rw [e1, e2]
  unfold Datum.sum
  simp only [signed_up, signed_up', Option.map_some]
  unfold Format.write
  have hsum : ((n * 2 ^ max s t : Nat) : Int) + ((m * 2 ^ max s t : Nat) : Int) = (((n + m) * 2 ^ max s t : Nat) : Int) := by rw [Nat.add_mul]; simp
  have hb : min (-(s : Int)) (-(t : Int)) = -((max s t : Nat) : Int) := by omega
  rw [hsum, hb]
  have hneg : (if (((n + m) * 2 ^ max s t : Nat) : Int) = 0 then false && false else decide ((((n + m) * 2 ^ max s t : Nat) : Int) < 0)) = false := by
    split
    · rfl
    · rw [decide_eq_false (by omega)]
  rw [hneg, Int.natAbs_natCast]
  show some (double.nearest false ((n + m) * 2 ^ max s t) (-((max s t : Nat) : Int))) = _
  rw [nearest_fl h (by omega)]

theorem fl_inj {n m : Nat} (hn : n < 2 ^ 53) (hm : m < 2 ^ 53) (h : fl n = fl m) : n = m := by
  have h1 := toInt_fl hn
  rw [h, toInt_fl hm] at h1
  have : (m : Int) = n := by simpa using h1
  omega

end Go.Fl
end

section
/- The program's types as plain structures, with their cells: as they are written, and read back. By program (gen_md.py). -/
namespace Go.Md
open Go.AM

structure Ver where
  re : Nat
  im : Nat
deriving DecidableEq, Inhabited
def encBool (b : Bool) : List AV := [.bool b]
def decBool (cs : List AV) : Bool := getB cs 0
def encBools (l : List Bool) : AV := encL 1 encBool default l
theorem decBools (l : List Bool) : decL decBool (encBools l) = l := decL_encL (fun _ => rfl) l

structure Member where
  node : Int
  boot : Int
deriving DecidableEq, Inhabited
def encMember (x : Member) : List AV := [.int .i64 x.node, .int .i64 x.boot]
def decMember (cs : List AV) : Member := ⟨getI cs 0, getI cs 1⟩
theorem dec_encMember (x : Member) : decMember (encMember x) = x := rfl
def encMembers (l : List Member) : AV := encL 2 encMember default l
theorem decMembers (l : List Member) : decL decMember (encMembers l) = l := decL_encL dec_encMember l

structure Entry where
  ver : Ver
  kind : Int
  key : List UInt8
  val : List UInt8
  write : Bool
  del : Bool
  sess : Int
  num : Int
  code : Int
  res : List UInt8
  hasRes : Bool
deriving DecidableEq, Inhabited
def encEntry (x : Entry) : List AV := [.cplx .f64 x.ver.re x.ver.im, .int .i64 x.kind, .str x.key, .str x.val, .bool x.write, .bool x.del, .int .i64 x.sess, .int .i64 x.num, .int .i64 x.code, .str x.res, .bool x.hasRes]
def decEntry (cs : List AV) : Entry := ⟨⟨(getC cs 0).1, (getC cs 0).2⟩, getI cs 1, getS cs 2, getS cs 3, getB cs 4, getB cs 5, getI cs 6, getI cs 7, getI cs 8, getS cs 9, getB cs 10⟩
theorem dec_encEntry (x : Entry) : decEntry (encEntry x) = x := rfl
def encEntrys (l : List Entry) : AV := encL 11 encEntry default l
theorem decEntrys (l : List Entry) : decL decEntry (encEntrys l) = l := decL_encL dec_encEntry l

structure Seen where
  sess : Int
  num : Int
  ver : Ver
  kind : Int
  code : Int
  res : List UInt8
  hasRes : Bool
deriving DecidableEq, Inhabited
def encSeen (x : Seen) : List AV := [.int .i64 x.sess, .int .i64 x.num, .cplx .f64 x.ver.re x.ver.im, .int .i64 x.kind, .int .i64 x.code, .str x.res, .bool x.hasRes]
def decSeen (cs : List AV) : Seen := ⟨getI cs 0, getI cs 1, ⟨(getC cs 2).1, (getC cs 2).2⟩, getI cs 3, getI cs 4, getS cs 5, getB cs 6⟩
theorem dec_encSeen (x : Seen) : decSeen (encSeen x) = x := rfl
def encSeens (l : List Seen) : AV := encL 7 encSeen default l
theorem decSeens (l : List Seen) : decL decSeen (encSeens l) = l := decL_encL dec_encSeen l

structure View where
  shard : Int
  epoch : Int
  gen : Int
  phase : Int
  chain : List Member
deriving DecidableEq, Inhabited
def encView (x : View) : List AV := [.int .i64 x.shard, .int .i64 x.epoch, .int .i64 x.gen, .int .i64 x.phase, encMembers x.chain]
def decView (cs : List AV) : View := ⟨getI cs 0, getI cs 1, getI cs 2, getI cs 3, getL decMember cs 4⟩
theorem dec_encView (x : View) : decView (encView x) = x := by
  show (⟨x.shard, x.epoch, x.gen, x.phase, decL decMember (encMembers x.chain)⟩ : View) = x
  rw [decMembers]
def encViews (l : List View) : AV := encL 5 encView default l
theorem decViews (l : List View) : decL decView (encViews l) = l := decL_encL dec_encView l

structure Tail where
  floor : Ver
  last : Ver
  log : List Entry
deriving DecidableEq, Inhabited
def encTail (x : Tail) : List AV := [.cplx .f64 x.floor.re x.floor.im, .cplx .f64 x.last.re x.last.im, encEntrys x.log]
def decTail (cs : List AV) : Tail := ⟨⟨(getC cs 0).1, (getC cs 0).2⟩, ⟨(getC cs 1).1, (getC cs 1).2⟩, getL decEntry cs 2⟩
theorem dec_encTail (x : Tail) : decTail (encTail x) = x := by
  show (⟨⟨x.floor.re, x.floor.im⟩, ⟨x.last.re, x.last.im⟩, decL decEntry (encEntrys x.log)⟩ : Tail) = x
  rw [decEntrys]
def encTails (l : List Tail) : AV := encL 3 encTail default l
theorem decTails (l : List Tail) : decL decTail (encTails l) = l := decL_encL dec_encTail l

structure Op where
  kind : Int
  key : List UInt8
  val : List UInt8
  old : List UInt8
  hasOld : Bool
deriving DecidableEq, Inhabited
def encOp (x : Op) : List AV := [.int .i64 x.kind, .str x.key, .str x.val, .str x.old, .bool x.hasOld]
def decOp (cs : List AV) : Op := ⟨getI cs 0, getS cs 1, getS cs 2, getS cs 3, getB cs 4⟩
theorem dec_encOp (x : Op) : decOp (encOp x) = x := rfl
def encOps (l : List Op) : AV := encL 5 encOp default l
theorem decOps (l : List Op) : decL decOp (encOps l) = l := decL_encL dec_encOp l

structure Image where
  floor : Ver
  last : Ver
  gen : Int
  log : List Entry
  seen : List Seen
deriving DecidableEq, Inhabited
def encImage (x : Image) : List AV := [.cplx .f64 x.floor.re x.floor.im, .cplx .f64 x.last.re x.last.im, .int .i64 x.gen, encEntrys x.log, encSeens x.seen]
def decImage (cs : List AV) : Image := ⟨⟨(getC cs 0).1, (getC cs 0).2⟩, ⟨(getC cs 1).1, (getC cs 1).2⟩, getI cs 2, getL decEntry cs 3, getL decSeen cs 4⟩
theorem dec_encImage (x : Image) : decImage (encImage x) = x := by
  show (⟨⟨x.floor.re, x.floor.im⟩, ⟨x.last.re, x.last.im⟩, x.gen, decL decEntry (encEntrys x.log), decL decSeen (encSeens x.seen)⟩ : Image) = x
  rw [decEntrys, decSeens]
def encImages (l : List Image) : AV := encL 5 encImage default l
theorem decImages (l : List Image) : decL decImage (encImages l) = l := decL_encL dec_encImage l

structure Msg where
  kind : Int
  src : Int
  dst : Int
  boot : Int
  sboot : Int
  shard : Int
  epoch : Int
  gen : Int
  sess : Int
  num : Int
  a : Int
  code : Int
  has : Bool
  fresh : Bool
  key : List UInt8
  val : List UInt8
  ver : Ver
  floor : Ver
  op : Op
  entries : List Entry
  chain : List Member
  views : List View
  image : Image
deriving DecidableEq, Inhabited
def encMsg (x : Msg) : List AV := [.int .i64 x.kind, .int .i64 x.src, .int .i64 x.dst, .int .i64 x.boot, .int .i64 x.sboot, .int .i64 x.shard, .int .i64 x.epoch, .int .i64 x.gen, .int .i64 x.sess, .int .i64 x.num, .int .i64 x.a, .int .i64 x.code, .bool x.has, .bool x.fresh, .str x.key, .str x.val, .cplx .f64 x.ver.re x.ver.im, .cplx .f64 x.floor.re x.floor.im, .int .i64 x.op.kind, .str x.op.key, .str x.op.val, .str x.op.old, .bool x.op.hasOld, encEntrys x.entries, encMembers x.chain, encViews x.views, .cplx .f64 x.image.floor.re x.image.floor.im, .cplx .f64 x.image.last.re x.image.last.im, .int .i64 x.image.gen, encEntrys x.image.log, encSeens x.image.seen]
def decMsg (cs : List AV) : Msg := ⟨getI cs 0, getI cs 1, getI cs 2, getI cs 3, getI cs 4, getI cs 5, getI cs 6, getI cs 7, getI cs 8, getI cs 9, getI cs 10, getI cs 11, getB cs 12, getB cs 13, getS cs 14, getS cs 15, ⟨(getC cs 16).1, (getC cs 16).2⟩, ⟨(getC cs 17).1, (getC cs 17).2⟩, ⟨getI cs 18, getS cs 19, getS cs 20, getS cs 21, getB cs 22⟩, getL decEntry cs 23, getL decMember cs 24, getL decView cs 25, ⟨⟨(getC cs 26).1, (getC cs 26).2⟩, ⟨(getC cs 27).1, (getC cs 27).2⟩, getI cs 28, getL decEntry cs 29, getL decSeen cs 30⟩⟩
theorem dec_encMsg (x : Msg) : decMsg (encMsg x) = x := by
  show (⟨x.kind, x.src, x.dst, x.boot, x.sboot, x.shard, x.epoch, x.gen, x.sess, x.num, x.a, x.code, x.has, x.fresh, x.key, x.val, ⟨x.ver.re, x.ver.im⟩, ⟨x.floor.re, x.floor.im⟩, ⟨x.op.kind, x.op.key, x.op.val, x.op.old, x.op.hasOld⟩, decL decEntry (encEntrys x.entries), decL decMember (encMembers x.chain), decL decView (encViews x.views), ⟨⟨x.image.floor.re, x.image.floor.im⟩, ⟨x.image.last.re, x.image.last.im⟩, x.image.gen, decL decEntry (encEntrys x.image.log), decL decSeen (encSeens x.image.seen)⟩⟩ : Msg) = x
  simp only [decEntrys, decMembers, decViews, decSeens]
def encMsgs (l : List Msg) : AV := encL 31 encMsg default l
theorem decMsgs (l : List Msg) : decL decMsg (encMsgs l) = l := decL_encL dec_encMsg l

structure Rep where
  shard : Int
  self : Member
  view : View
  frozen : Int
  tail : Tail
  seen : List Seen
  got : Ver
  synced : List Bool
deriving DecidableEq, Inhabited
def encRep (x : Rep) : List AV := [.int .i64 x.shard, .int .i64 x.self.node, .int .i64 x.self.boot, .int .i64 x.view.shard, .int .i64 x.view.epoch, .int .i64 x.view.gen, .int .i64 x.view.phase, encMembers x.view.chain, .int .i64 x.frozen, .cplx .f64 x.tail.floor.re x.tail.floor.im, .cplx .f64 x.tail.last.re x.tail.last.im, encEntrys x.tail.log, encSeens x.seen, .cplx .f64 x.got.re x.got.im, encBools x.synced]
def decRep (cs : List AV) : Rep := ⟨getI cs 0, ⟨getI cs 1, getI cs 2⟩, ⟨getI cs 3, getI cs 4, getI cs 5, getI cs 6, getL decMember cs 7⟩, getI cs 8, ⟨⟨(getC cs 9).1, (getC cs 9).2⟩, ⟨(getC cs 10).1, (getC cs 10).2⟩, getL decEntry cs 11⟩, getL decSeen cs 12, ⟨(getC cs 13).1, (getC cs 13).2⟩, getL decBool cs 14⟩
theorem dec_encRep (x : Rep) : decRep (encRep x) = x := by
  show (⟨x.shard, ⟨x.self.node, x.self.boot⟩, ⟨x.view.shard, x.view.epoch, x.view.gen, x.view.phase, decL decMember (encMembers x.view.chain)⟩, x.frozen, ⟨⟨x.tail.floor.re, x.tail.floor.im⟩, ⟨x.tail.last.re, x.tail.last.im⟩, decL decEntry (encEntrys x.tail.log)⟩, decL decSeen (encSeens x.seen), ⟨x.got.re, x.got.im⟩, decL decBool (encBools x.synced)⟩ : Rep) = x
  rw [decMembers, decEntrys, decSeens, decBools]
def encReps (l : List Rep) : AV := encL 15 encRep default l
theorem decReps (l : List Rep) : decL decRep (encReps l) = l := decL_encL dec_encRep l

structure Plan where
  epoch : Int
  gen : Int
  phase : Int
  fresh : Bool
  base : Int
  reset : Int
  chain : List Member
  valid : List Member
deriving DecidableEq, Inhabited
def encPlan (x : Plan) : List AV := [.int .i64 x.epoch, .int .i64 x.gen, .int .i64 x.phase, .bool x.fresh, .int .i64 x.base, .int .i64 x.reset, encMembers x.chain, encMembers x.valid]
def decPlan (cs : List AV) : Plan := ⟨getI cs 0, getI cs 1, getI cs 2, getB cs 3, getI cs 4, getI cs 5, getL decMember cs 6, getL decMember cs 7⟩
theorem dec_encPlan (x : Plan) : decPlan (encPlan x) = x := by
  show (⟨x.epoch, x.gen, x.phase, x.fresh, x.base, x.reset, decL decMember (encMembers x.chain), decL decMember (encMembers x.valid)⟩ : Plan) = x
  simp only [decMembers]
def encPlans (l : List Plan) : AV := encL 8 encPlan default l
theorem decPlans (l : List Plan) : decL decPlan (encPlans l) = l := decL_encL dec_encPlan l

structure Book where
  sess : Int
  gen : Int
  shards : List Plan
deriving DecidableEq, Inhabited
def encBook (x : Book) : List AV := [.int .i64 x.sess, .int .i64 x.gen, encPlans x.shards]
def decBook (cs : List AV) : Book := ⟨getI cs 0, getI cs 1, getL decPlan cs 2⟩
theorem dec_encBook (x : Book) : decBook (encBook x) = x := by
  show (⟨x.sess, x.gen, decL decPlan (encPlans x.shards)⟩ : Book) = x
  rw [decPlans]
def encBooks (l : List Book) : AV := encL 3 encBook default l
theorem decBooks (l : List Book) : decL decBook (encBooks l) = l := decL_encL dec_encBook l

structure Alive where
  member : Member
  missed : Int
deriving DecidableEq, Inhabited
def encAlive (x : Alive) : List AV := [.int .i64 x.member.node, .int .i64 x.member.boot, .int .i64 x.missed]
def decAlive (cs : List AV) : Alive := ⟨⟨getI cs 0, getI cs 1⟩, getI cs 2⟩
theorem dec_encAlive (x : Alive) : decAlive (encAlive x) = x := rfl
def encAlives (l : List Alive) : AV := encL 3 encAlive default l
theorem decAlives (l : List Alive) : decL decAlive (encAlives l) = l := decL_encL dec_encAlive l

structure Work where
  fenced : Bool
  keep : List Member
  froze : List Msg
  heard : Bool
deriving DecidableEq, Inhabited
def encWork (x : Work) : List AV := [.bool x.fenced, encMembers x.keep, encMsgs x.froze, .bool x.heard]
def decWork (cs : List AV) : Work := ⟨getB cs 0, getL decMember cs 1, getL decMsg cs 2, getB cs 3⟩
theorem dec_encWork (x : Work) : decWork (encWork x) = x := by
  show (⟨x.fenced, decL decMember (encMembers x.keep), decL decMsg (encMsgs x.froze), x.heard⟩ : Work) = x
  rw [decMembers, decMsgs]
def encWorks (l : List Work) : AV := encL 4 encWork default l
theorem decWorks (l : List Work) : decL decWork (encWorks l) = l := decL_encL dec_encWork l

structure Bureau where
  book : Book
  nodes : List Alive
  work : List Work
  opens : List Msg
  asks : List Msg
deriving DecidableEq, Inhabited
def encBureau (x : Bureau) : List AV := [.int .i64 x.book.sess, .int .i64 x.book.gen, encPlans x.book.shards, encAlives x.nodes, encWorks x.work, encMsgs x.opens, encMsgs x.asks]
def decBureau (cs : List AV) : Bureau := ⟨⟨getI cs 0, getI cs 1, getL decPlan cs 2⟩, getL decAlive cs 3, getL decWork cs 4, getL decMsg cs 5, getL decMsg cs 6⟩
theorem dec_encBureau (x : Bureau) : decBureau (encBureau x) = x := by
  show (⟨⟨x.book.sess, x.book.gen, decL decPlan (encPlans x.book.shards)⟩, decL decAlive (encAlives x.nodes), decL decWork (encWorks x.work), decL decMsg (encMsgs x.opens), decL decMsg (encMsgs x.asks)⟩ : Bureau) = x
  simp only [decPlans, decAlives, decWorks, decMsgs]
def encBureaus (l : List Bureau) : AV := encL 7 encBureau default l
theorem decBureaus (l : List Bureau) : decL decBureau (encBureaus l) = l := decL_encL dec_encBureau l

end Go.Md
end

section
/- Versions as pairs of whole numbers, told plainly. -/
open Go Go.AM Go.Md Go.Fl
open Ieee (double)
namespace Go.Wk
set_option maxRecDepth 100000
set_option maxHeartbeats 1000000
/-- how long a list may be -/
def LB : Nat := 1000000

/-- a version that equals itself -/
def VOk (v : Ver) : Prop := fEq .f64 v.re v.re = true ∧ fEq .f64 v.im v.im = true

def I64 (n : Int) : Prop := -9223372036854775808 ≤ n ∧ n ≤ 9223372036854775807
/-- the whole numbers of a version -/
def fI (b : Nat) : Option Int := (FloatKind.f64.decode b).toInt .zero
def vE (v : Ver) : Int := (fI v.re).getD 0
def vN (v : Ver) : Int := (fI v.im).getD 0
def okI (b : Nat) : Prop := (fI b).isSome = true ∧ IntKind.i64.min ≤ (fI b).getD 0 ∧ (fI b).getD 0 ≤ IntKind.i64.max
def VInt (v : Ver) : Prop := okI v.re ∧ okI v.im
theorem okI64 {b : Nat} (h : okI b) : I64 ((fI b).getD 0) := by
  obtain ⟨_, h1, h2⟩ := h
  have e1 : IntKind.i64.min = -9223372036854775808 := by decide
  have e2 : IntKind.i64.max = 9223372036854775807 := by decide
  rw [e1] at h1; rw [e2] at h2
  exact ⟨h1, h2⟩

def eV (v : Ver) : AV := .cplx .f64 v.re v.im
def vr (e n : Nat) : Ver := ⟨fl e, fl n⟩
theorem fEq_fl {n m : Nat} (hn : n < 2 ^ 53) (hm : m < 2 ^ 53) : fEq .f64 (fl n) (fl m) = decide (n = m) := by
  have : FloatKind.f64.format.order (fl n) (fl m) = some (compare n m) := order_fl hn hm
  unfold fEq; rw [this]
  rcases Nat.lt_trichotomy n m with h | h | h
  · rw [Nat.compare_eq_lt.2 h, decide_eq_false (by omega)]; rfl
  · rw [Nat.compare_eq_eq.2 h, decide_eq_true h]; rfl
  · rw [Nat.compare_eq_gt.2 h, decide_eq_false (by omega)]; rfl
theorem fLt_fl {n m : Nat} (hn : n < 2 ^ 53) (hm : m < 2 ^ 53) : fLt .f64 (fl n) (fl m) = decide (n < m) := by
  have : FloatKind.f64.format.order (fl n) (fl m) = some (compare n m) := order_fl hn hm
  unfold fLt; rw [this]
  rcases Nat.lt_trichotomy n m with h | h | h
  · rw [Nat.compare_eq_lt.2 h, decide_eq_true h]; rfl
  · rw [Nat.compare_eq_eq.2 h, decide_eq_false (by omega)]; rfl
  · rw [Nat.compare_eq_gt.2 h, decide_eq_false (by omega)]; rfl
theorem fI_fl {n : Nat} (hn : n < 2 ^ 53) : fI (fl n) = some (n : Int) := toInt_fl hn
theorem okI_fl {n : Nat} (hn : n < 2 ^ 53) : okI (fl n) := by
  unfold okI; rw [fI_fl hn]
  have e1 : IntKind.i64.min = -9223372036854775808 := by decide
  have e2 : IntKind.i64.max = 9223372036854775807 := by decide
  rw [e1, e2]
  refine ⟨rfl, ?_, ?_⟩ <;> simp only [Option.getD_some] <;> omega
theorem near_fl (n : Nat) : FloatKind.f64.nearest (n : Int) = fl n := by
  show double.nearest (decide ((n : Int) < 0)) (n : Int).natAbs 0 = fl n
  rw [decide_eq_false (by omega), Int.natAbs_natCast]; rfl
theorem one_fl : fl 1 = 4607182418800017408 := by decide
theorem next_fl {n : Nat} (h : n + 1 < 2 ^ 53) : FloatKind.f64.format.add (fl n) 4607182418800017408 = some (fl (n + 1)) := by
  rw [← one_fl]; exact add_fl h
/-- a version of two small numbers -/
def VNum (v : Ver) : Prop := ∃ e n : Nat, e < 2 ^ 40 ∧ n < 2 ^ 40 ∧ v = vr e n
theorem VNum.int {v : Ver} (h : VNum v) : VInt v := by
  obtain ⟨e, n, he, hn, rfl⟩ := h
  exact ⟨okI_fl (by omega), okI_fl (by omega)⟩
theorem VNum.ok {v : Ver} (h : VNum v) : VOk v := by
  obtain ⟨e, n, he, hn, rfl⟩ := h
  exact ⟨by rw [vr, fEq_fl (by omega) (by omega)]; simp, by rw [vr, fEq_fl (by omega) (by omega)]; simp⟩
/-- the numbers of a version -/
def ep (v : Ver) : Nat := (vE v).toNat
def nu (v : Ver) : Nat := (vN v).toNat
theorem ep_vr {e n : Nat} (h : e < 2 ^ 40) : ep (vr e n) = e := by
  show ((fI (fl e)).getD 0).toNat = e; rw [fI_fl (by omega)]; rfl
theorem nu_vr {e n : Nat} (h : n < 2 ^ 40) : nu (vr e n) = n := by
  show ((fI (fl n)).getD 0).toNat = n; rw [fI_fl (by omega)]; rfl
theorem VNum.eta {v : Ver} (h : VNum v) : v = vr (ep v) (nu v) := by
  obtain ⟨e, n, he, hn, rfl⟩ := h
  rw [ep_vr he, nu_vr hn]
theorem VNum.lt {v : Ver} (h : VNum v) : ep v < 2 ^ 40 ∧ nu v < 2 ^ 40 := by
  obtain ⟨e, n, he, hn, rfl⟩ := h
  rw [ep_vr he, nu_vr hn]; exact ⟨he, hn⟩
/-- is b ahead of a? -/
def vlt (a b : Ver) : Bool := bif decide (ep a = ep b) then decide (nu a < nu b) else decide (ep a < ep b)
def vmax (a b : Ver) : Ver := bif vlt a b then b else a
theorem vmax_comm_of {a b : Ver} (ha : VNum a) (hb : VNum b) (h : vlt a b = false) (h' : vlt b a = false) : a = b := by
  rw [ha.eta, hb.eta]
  unfold vlt at h h'
  by_cases e : ep a = ep b
  · rw [decide_eq_true e, cond_true] at h
    rw [decide_eq_true e.symm, cond_true] at h'
    have h1 := of_decide_eq_false h
    have h2 := of_decide_eq_false h'
    have : nu a = nu b := by omega
    rw [e, this]
  · rw [decide_eq_false e, cond_false] at h
    rw [decide_eq_false fun x => e x.symm, cond_false] at h'
    have h1 := of_decide_eq_false h
    have h2 := of_decide_eq_false h'
    omega
theorem vlt_vr {e n f m : Nat} (he : e < 2 ^ 40) (hn : n < 2 ^ 40) (hf : f < 2 ^ 40) (hm : m < 2 ^ 40) : vlt (vr e n) (vr f m) = bif decide (e = f) then decide (n < m) else decide (e < f) := by
  unfold vlt; rw [ep_vr he, ep_vr hf, nu_vr hn, nu_vr hm]
theorem bif_some {X : Type} (c : Bool) (a b : X) : (bif c then some a else some b) = some (bif c then a else b) := by cases c <;> rfl
theorem bif_not {X : Type} (c : Bool) (a b : X) : (bif !c then a else b) = bif c then b else a := by cases c <;> rfl
theorem fvlt {a b : Ver} (ha : VNum a) (hb : VNum b) : (bif fEq .f64 a.re b.re then fLt .f64 a.im b.im else fLt .f64 a.re b.re) = vlt a b := by
  obtain ⟨e, n, he, hn, rfl⟩ := ha
  obtain ⟨f, m, hf, hm, rfl⟩ := hb
  rw [vlt_vr he hn hf hm]
  show (bif fEq .f64 (fl e) (fl f) then fLt .f64 (fl n) (fl m) else fLt .f64 (fl e) (fl f)) = _
  rw [fEq_fl (by omega) (by omega), fLt_fl (by omega) (by omega), fLt_fl (by omega) (by omega)]
theorem vmax_swap {a b : Ver} (ha : VNum a) (hb : VNum b) : (bif vlt b a then a else b) = vmax a b := by
  unfold vmax
  by_cases h : vlt b a = true
  · have : vlt a b = false := by
      unfold vlt at h ⊢
      by_cases e : ep a = ep b
      · rw [decide_eq_true e.symm, cond_true] at h
        rw [decide_eq_true e, cond_true]
        have := of_decide_eq_true h
        exact decide_eq_false (by omega)
      · rw [decide_eq_false fun x => e x.symm, cond_false] at h
        rw [decide_eq_false e, cond_false]
        have := of_decide_eq_true h
        exact decide_eq_false (by omega)
    rw [h, this]; rfl
  · have h := Bool.eq_false_iff.2 h
    rw [h, cond_false]
    by_cases h' : vlt a b = true
    · rw [h']; rfl
    · have h' := Bool.eq_false_iff.2 h'
      rw [h', cond_false]; exact (vmax_comm_of ha hb h' h).symm
theorem vE_ep {v : Ver} (h : VNum v) : vE v = (ep v : Int) := by
  obtain ⟨e, n, he, hn, rfl⟩ := h
  rw [ep_vr he]; show (fI (fl e)).getD 0 = _; rw [fI_fl (by omega)]; rfl
theorem vN_nu {v : Ver} (h : VNum v) : vN v = (nu v : Int) := by
  obtain ⟨e, n, he, hn, rfl⟩ := h
  rw [nu_vr hn]; show (fI (fl n)).getD 0 = _; rw [fI_fl (by omega)]; rfl
theorem dec_int (a b : Nat) : decide ((a : Int) = (b : Int)) = decide (a = b) := by
  by_cases h : a = b
  · rw [h]; simp
  · rw [decide_eq_false h, decide_eq_false (by omega)]
theorem dec_ilt (a b : Nat) : decide ((a : Int) < (b : Int)) = decide (a < b) := by simp

end Go.Wk
end

section
/- Readers of bytes, told plainly. -/
open Go Go.AM Go.Md
namespace Go.Wk
/-- what a reader tells: a thing, the place behind it, and whether it stood there -/
abbrev PR (X : Type) := X × Int × Bool
def pb {X Y : Type} (z : Y) (p : PR X) (f : X → Int → PR Y) : PR Y := bif p.2.2 then f p.1 p.2.1 else (z, 0, false)
theorem pb_some {X Y : Type} {z : Y} {p : PR X} {x : X} {a : Int} {f : X → Int → PR Y} (h : p = (x, a, true)) : pb z p f = f x a := by subst h; rfl
theorem pb_none {X Y : Type} {z : Y} {p : PR X} {f : X → Int → PR Y} (h : p.2.2 = false) : pb z p f = (z, 0, false) := by unfold pb; rw [h]; rfl
abbrev Rd (X : Type) := List Int → Int → PR X
section
variable (gI : Rd Int)
def gBoolP (b : List Int) (at_ : Int) : PR Bool := bif decide (at_ < 0) then (false, 0, false) else bif decide ((b.length : Int) ≤ at_) then (false, 0, false) else
  bif decide (1 < b.getD at_.toNat 0) then (false, 0, false) else (decide (b.getD at_.toNat 0 = 1), at_ + 1, true)
/-- the letters of bytes -/
def strP (l : List Int) : List UInt8 := l.map fun x => UInt8.ofNat x.toNat
def gTextP (b : List Int) (at_ : Int) : PR (List UInt8) := pb [] (gI b at_) fun n a => bif decide (n < 0) || (decide (65536 < n) || decide ((b.length : Int) - a < n)) then ([], 0, false) else (strP ((b.drop a.toNat).take n.toNat), a + n, true)
def gVerP (b : List Int) (at_ : Int) : PR Ver := pb ⟨0, 0⟩ (gI b at_) fun e a => bif decide (e < 0) || decide (1099511627776 < e) then (⟨0, 0⟩, 0, false) else
  pb ⟨0, 0⟩ (gI b a) fun n a2 => bif decide (n < 0) || decide (1099511627776 < n) then (⟨0, 0⟩, 0, false) else (vr e.toNat n.toNat, a2, true)
def gMemP (b : List Int) (at_ : Int) : PR Member := pb default (gI b at_) fun n a => pb default (gI b a) fun o a => (⟨n, o⟩, a, true)
/-- a list's things, so many, behind those that are had -/
def gItems {X : Type} (g : Rd X) (b : List Int) : Nat → Int → List X → PR (List X)
  | 0, a, acc => (acc, a, true)
  | n + 1, a, acc => pb [] (g b a) fun x a2 => gItems g b n a2 (acc ++ [x])
def gListP {X : Type} (g : Rd X) (b : List Int) (at_ : Int) : PR (List X) := pb [] (gI b at_) fun n a => bif decide (n < 0) || decide (4096 < n) then ([], 0, false) else gItems g b n.toNat a []
def gViewP (b : List Int) (at_ : Int) : PR Md.View := pb default (gI b at_) fun s a => pb default (gI b a) fun e a => pb default (gI b a) fun g a => pb default (gI b a) fun p a => pb default (gListP gI (gMemP gI) b a) fun c a => (⟨s, e, g, p, c⟩, a, true)
def gSeenP (b : List Int) (at_ : Int) : PR Seen := pb default (gI b at_) fun s a => pb default (gI b a) fun n a => pb default (gVerP gI b a) fun v a => pb default (gI b a) fun k a => pb default (gI b a) fun c a => pb default (gTextP gI b a) fun r a => pb default (gBoolP b a) fun h a => (⟨s, n, v, k, c, r, h⟩, a, true)
def gOpP (b : List Int) (at_ : Int) : PR Md.Op := pb default (gI b at_) fun k a => pb default (gTextP gI b a) fun y a => pb default (gTextP gI b a) fun v a => pb default (gTextP gI b a) fun o a => pb default (gBoolP b a) fun h a => (⟨k, y, v, o, h⟩, a, true)
def gEntP (b : List Int) (at_ : Int) : PR Entry := pb default (gVerP gI b at_) fun v a => pb default (gI b a) fun k a => pb default (gTextP gI b a) fun y a => pb default (gTextP gI b a) fun x a => pb default (gBoolP b a) fun w a => pb default (gBoolP b a) fun d a =>
  pb default (gI b a) fun s a => pb default (gI b a) fun n a => pb default (gI b a) fun c a => pb default (gTextP gI b a) fun r a => pb default (gBoolP b a) fun h a => (⟨v, k, y, x, w, d, s, n, c, r, h⟩, a, true)
def gImgP (b : List Int) (at_ : Int) : PR Image := pb default (gVerP gI b at_) fun f a => pb default (gVerP gI b a) fun l a => pb default (gI b a) fun g a => pb default (gListP gI (gEntP gI) b a) fun o a => pb default (gListP gI (gSeenP gI) b a) fun s a => (⟨f, l, g, o, s⟩, a, true)
def gMsgP (b : List Int) : PR Msg := pb default (gI b 0) fun k a => pb default (gI b a) fun f a => pb default (gI b a) fun t a => pb default (gI b a) fun o a => pb default (gI b a) fun so a => pb default (gI b a) fun s a => pb default (gI b a) fun e a => pb default (gI b a) fun g a =>
  pb default (gI b a) fun se a => pb default (gI b a) fun n a => pb default (gI b a) fun aa a => pb default (gI b a) fun c a => pb default (gBoolP b a) fun h a => pb default (gBoolP b a) fun fr a => pb default (gTextP gI b a) fun ky a => pb default (gTextP gI b a) fun vl a =>
  pb default (gVerP gI b a) fun ve a => pb default (gVerP gI b a) fun fl a => pb default (gOpP gI b a) fun op a => pb default (gListP gI (gEntP gI) b a) fun en a => pb default (gListP gI (gMemP gI) b a) fun ch a => pb default (gListP gI (gViewP gI) b a) fun vi a => pb default (gImgP gI b a) fun im a =>
  (⟨k, f, t, o, so, s, e, g, se, n, aa, c, h, fr, ky, vl, ve, fl, op, en, ch, vi, im⟩, a, true)
def gMsgF (b : List Int) : Msg × Bool := bif (gMsgP gI b).2.2 && decide ((gMsgP gI b).2.1 = (b.length : Int)) then ((gMsgP gI b).1, true) else (default, false)
end
end Go.Wk
end

section
/- Bits and groups of seven bits: plain arithmetic. -/
namespace Go.Wk
def orE' (m c : Int) (w : Int) : Int := IntKind.u64.wrap ((BitVec.ofInt 64 m ||| BitVec.ofInt 64 (IntKind.u64.wrap (IntKind.u64.wrap (IntKind.u8.wrap ((BitVec.ofInt 8 c &&& BitVec.ofInt 8 127).toNat : Int)) * w))).toNat : Int)
theorem wu64 {x : Int} (h : 0 ≤ x ∧ x ≤ 18446744073709551615) : IntKind.u64.wrap x = x := by
  simp [IntKind.wrap, IntKind.signed, IntKind.bits]; omega
theorem wu8 {x : Int} (h : 0 ≤ x ∧ x ≤ 255) : IntKind.u8.wrap x = x := by
  simp [IntKind.wrap, IntKind.signed, IntKind.bits]; omega
theorem and127 (c : Nat) (h : c ≤ 255) : (BitVec.ofInt 8 (c : Int) &&& BitVec.ofInt 8 127).toNat = c % 128 := by
  rw [BitVec.toNat_and]
  have e1 : (BitVec.ofInt 8 (c : Int)).toNat = c := by
    simp [BitVec.toNat_ofInt]; omega
  have e2 : (BitVec.ofInt 8 127).toNat = 127 := by decide
  rw [e1, e2]
  exact Nat.and_two_pow_sub_one_eq_mod c 7
theorem and1 (m : Nat) (h : m < 2 ^ 64) : (BitVec.ofInt 64 (m : Int) &&& BitVec.ofInt 64 1).toNat = m % 2 := by
  rw [BitVec.toNat_and]
  have e1 : (BitVec.ofInt 64 (m : Int)).toNat = m := by
    simp [BitVec.toNat_ofInt]; omega
  have e2 : (BitVec.ofInt 64 1).toNat = 1 := by decide
  rw [e1, e2]
  exact Nat.and_two_pow_sub_one_eq_mod m 1
theorem or_add (m a i : Nat) (hm : m < 2 ^ i) (h : m + a * 2 ^ i < 2 ^ 64) : (BitVec.ofInt 64 (m : Int) ||| BitVec.ofInt 64 ((a * 2 ^ i : Nat) : Int)).toNat = m + a * 2 ^ i := by
  rw [BitVec.toNat_or]
  have e1 : (BitVec.ofInt 64 (m : Int)).toNat = m := by
    simp [BitVec.toNat_ofInt]; omega
  have e2 : (BitVec.ofInt 64 ((a * 2 ^ i : Nat) : Int)).toNat = a * 2 ^ i := by
    rw [BitVec.toNat_ofInt]
    generalize a * 2 ^ i = x at h
    omega
  rw [e1, e2, Nat.or_comm]
  have := Nat.shiftLeft_add_eq_or_of_lt hm a
  rw [Nat.shiftLeft_eq] at this
  omega
theorem orE_eq (m c t : Nat) (hc : c ≤ 255) (hm : m < 2 ^ (7 * t)) (h : m + (c % 128) * 2 ^ (7 * t) < 2 ^ 64) : orE' (m : Int) (c : Int) (2 ^ (7 * t)) = ((m + (c % 128) * 2 ^ (7 * t) : Nat) : Int) := by
  unfold orE'
  have hc' : c % 128 < 128 := Nat.mod_lt _ (by decide)
  rw [and127 c hc, wu8 (by omega), wu64 (x := ((c % 128 : Nat) : Int)) (by omega)]
  have e : ((c % 128 : Nat) : Int) * 2 ^ (7 * t) = ((c % 128 * 2 ^ (7 * t) : Nat) : Int) := by
    rw [Int.natCast_mul, Int.natCast_pow]; rfl
  rw [e]
  generalize hp : c % 128 * 2 ^ (7 * t) = p at h
  rw [wu64 (x := (p : Int)) (by omega), ← hp, or_add m _ _ hm (by rw [hp]; exact h), hp, wu64 (by omega)]
end Go.Wk
end

section
/- The head of a seat: the environment of the abstract machine, live slots, modes of calls, the functions' numbers. By program (mkhead.py). -/
open Go Go.AM Go.Proofs
namespace Go.Wk
set_option maxRecDepth 100000
noncomputable def PG : Program := Tryz.prog
def liveTab : List (Nat × Nat × List Nat) := [
(5, 0, [0, 3, 4, 5]),
(5, 2, [0, 3, 4, 5, 8, 9]),
(5, 4, [0, 3, 4, 5, 8, 9, 10, 11]),
(5, 6, [0, 3, 4, 5, 8, 12]),
(7, 0, [1, 3]),
(8, 0, [3, 13, 14, 15]),
(9, 0, [0, 4, 6, 8, 9]),
(10, 0, [0, 1, 5]),
(11, 0, [1, 3, 4]),
(12, 0, [2, 3, 5]),
(21, 0, [1, 3, 30, 31]),
(22, 0, [0, 2, 4, 5, 22, 23]),
(25, 0, [0, 1, 5]),
(33, 0, [4, 6, 19, 20]),
(33, 2, [4, 6, 42, 43]),
(34, 0, [1, 2, 18, 19]),
(35, 0, [0, 5]),
(40, 0, [0, 2, 13, 14, 15]),
(42, 0, [0, 2, 13, 14, 15]),
(44, 0, [0, 2, 13, 14, 15]),
(68, 0, [0, 3, 4]),
(70, 0, [0, 3, 4]),
(73, 0, [0, 3, 4]),
(74, 0, [0, 3, 4]),
(75, 0, [0, 3, 4]),
(78, 1001, [0, 4, 6]),
(78, 1000, [4, 6]),
(81, 0, [22, 23, 24]),
(82, 0, [1, 2, 10, 11]),
(89, 1, [0, 1, 4, 5, 57, 58, 59]),
(92, 0, [0, 7, 8, 9]),
(95, 0, [0, 2, 13, 14, 15]),
(97, 1001, [0, 1, 7, 8]),
(97, 1002, [1, 7]),
(97, 1000, []),
(102, 0, [0, 2, 9, 11, 32, 33]),
(104, 0, [0, 2, 9, 11, 32, 33]),
(106, 0, [0, 2, 9, 11, 32, 33]),
(112, 0, [3, 4]),
(113, 0, [0, 3, 4]),
(118, 0, [0, 3, 4]),
(121, 0, [0, 3, 4]),
(122, 0, [0, 3, 4]),
(123, 0, [0, 1, 7, 8]),
(128, 0, [0, 12, 13, 14]),
(133, 0, [0, 3, 4, 13, 14, 15]),
(134, 0, [0, 4, 67, 68, 69]),
(137, 0, [0, 3, 4, 5, 6, 29, 30, 31]),
(138, 0, [3, 5, 9, 10, 11]),
(144, 0, [3, 4, 9, 10, 11]),
(148, 0, [0, 2, 9, 11, 32, 33]),
(155, 0, [0, 1, 7, 8]),
(159, 0, [0, 1, 2, 8, 9, 10]),
(164, 0, [1, 5, 8, 9, 10]),
(169, 0, [0, 1, 12, 13]),
(172, 0, [2, 5, 6, 65, 66, 67]),
(173, 0, [1, 2, 4, 6, 7, 8, 14, 15, 16]),
(174, 0, [1, 3, 9, 16, 17, 18]),
(176, 0, [0, 3, 10, 11, 12]),
(179, 0, [0, 7, 8]),
(183, 0, [3, 7, 8, 9]),
(184, 0, [0, 1, 7, 8]),
(188, 0, [0, 1, 5, 9, 10]),
(190, 0, [0, 1, 5, 6]),
(196, 0, [0, 2, 3]),
(197, 0, [0, 1, 7, 8])]
def modes1 : List Nat := [14, 20, 34, 82, 87, 90, 91, 92, 131, 146, 147, 151, 178, 179, 180, 192]
def modes2 : List Nat := [13, 17, 18, 19, 26, 29, 30, 32, 40, 42, 44, 47, 49, 51, 53, 55, 57, 58, 60, 61, 63, 64, 66, 77, 81, 83, 84, 85, 86, 88, 89, 95, 99, 100, 101, 102, 103, 104, 105, 106, 107, 108, 109, 111, 119, 120, 124, 125, 126, 127, 128, 129, 130, 132, 133, 134, 135, 136, 137, 139, 140, 141, 142, 143, 145, 148, 149, 152, 153, 154, 155, 156, 157, 158, 159, 161, 162, 163, 165, 166, 168, 169, 170, 171, 172, 176, 181, 182, 184, 185, 186, 189, 190, 191, 193, 194, 195, 196, 197, 206, 207, 208, 209, 210, 213]
def modes3 : List Nat := []
def modes4 : List Nat := [35, 36, 37, 38, 39, 41, 43, 45, 46, 79, 96, 123]
noncomputable def envM (md : Nat → Option Nat) (o : Nat → List AV → Heap → Option Answer) : Env where
  tt := tiOf PG
  code := codeOf PG
  mode f := match md f with
    | some k => k
    | none => bif nmem f modes1 then 1 else bif nmem f modes2 then 2 else bif nmem f modes4 then 4 else bif nmem f modes3 then 3 else 0
  live f b := liveOf f b liveTab
  orc := o
noncomputable def envO (l : List Known) : Env := envM (fun _ => none) (orcOf l)
theorem envM_ok {md : Nat → Option Nat} {l : List Known} (h : ∀ k ∈ l, k.Ok PG) : EnvOk PG (envM md (orcOf l)) := ⟨tt_ok rfl, orc_ok h⟩
theorem envM_code {md : Nat → Option Nat} {o : Nat → List AV → Heap → Option Answer} : CodeOk PG (envM md o) := codeOf_ok rfl
theorem mixed : PG.follows .mixedOrders = true := by kernel_rfl
theorem con_of {md : Nat → Option Nat} {l : List Known} (h : ∀ k ∈ l, k.Ok PG) {n f : Nat} {args : List AV} {r : AV} (e : callT (envM md (orcOf l)) n f args = some r) : Contract PG f args [] r [] :=
  callT_ok (envM_ok h) envM_code mixed e
def F_main_main : Nat := 0
def F_gosem_cut : Nat := 1
def F_gosem_cut_init : Nat := 2
def F_lockgatelaw22_KeeperBooks : Nat := 3
def F_lockgatelaw22_KeeperGets : Nat := 4
def F_lockgatelaw22_KeeperMemory : Nat := 5
def F_lockgatelaw22_awake : Nat := 6
def F_lockgateref22_Little : Nat := 7
def F_keeper_Put : Nat := 8
def F_keeper_Get : Nat := 9
def F_lockgateref03_Same : Nat := 10
def F_lockgateref22_Put : Nat := 11
def F_lockgateref21_SameBook : Nat := 12
def F_keeper_Open : Nat := 13
def F_disk_New : Nat := 14
def F_lockgateref22_Conf : Nat := 15
def F_lockgateref22_Msg : Nat := 16
def F_keeper_Keeper_Handle : Nat := 17
def F_keeper_Keeper_Tick : Nat := 18
def F_keeper_Keeper_Bureau : Nat := 19
def F_slices_Clone_api_Member : Nat := 20
def F_msg_Put : Nat := 21
def F_msg_Get : Nat := 22
def F_bytes_Equal : Nat := 23
def F_lockgateref06_Msg : Nat := 24
def F_lockgateref16_Same : Nat := 25
def F_wal_Open : Nat := 26
def F_coord_New : Nat := 27
def F_coord_Open : Nat := 28
def F_keeper_Keeper_do : Nat := 29
def F_keeper_Keeper_Handle_c1 : Nat := 30
def F_coord_Handle : Nat := 31
def F_keeper_Keeper_Tick_c1 : Nat := 32
def F_coord_Tick : Nat := 33
def F_twin_Bureau : Nat := 34
def F_wire_Int : Nat := 35
def F_wire_Bool : Nat := 36
def F_wire_Text : Nat := 37
def F_wire_Ver : Nat := 38
def F_entry_PutOp : Nat := 39
def F_msg_putList_api_Entry : Nat := 40
def F_entry_Put : Nat := 41
def F_msg_putList_api_Member : Nat := 42
def F_msg_putMember : Nat := 43
def F_msg_putList_api_View : Nat := 44
def F_msg_putView : Nat := 45
def F_msg_putImage : Nat := 46
def F_msg_into_int : Nat := 47
def F_wire_GetInt : Nat := 48
def F_msg_into_bool : Nat := 49
def F_wire_GetBool : Nat := 50
def F_msg_into_string : Nat := 51
def F_wire_GetText : Nat := 52
def F_msg_into_api_Ver : Nat := 53
def F_wire_GetVer : Nat := 54
def F_msg_into_api_Op : Nat := 55
def F_entry_GetOp : Nat := 56
def F_msg_into_api_Entry : Nat := 57
def F_msg_listOf_api_Entry : Nat := 58
def F_entry_Get : Nat := 59
def F_msg_into_api_Member : Nat := 60
def F_msg_listOf_api_Member : Nat := 61
def F_msg_getMember : Nat := 62
def F_msg_into_api_View : Nat := 63
def F_msg_listOf_api_View : Nat := 64
def F_msg_getView : Nat := 65
def F_msg_into_api_Image : Nat := 66
def F_msg_GetImage : Nat := 67
def F_lockgateref06_numbers : Nat := 68
def F_lockgateref06_bit : Nat := 69
def F_lockgateref03_Text : Nat := 70
def F_lockgateref05_Ver : Nat := 71
def F_lockgateref05_Op : Nat := 72
def F_lockgateref06_entries : Nat := 73
def F_lockgateref06_members : Nat := 74
def F_lockgateref06_Views : Nat := 75
def F_lockgateref06_Image : Nat := 76
def F_wal_inFront : Nat := 77
def F_frame_Scan : Nat := 78
def F_frame_Put : Nat := 79
def F_bytes_HasPrefix : Nat := 80
def F_wal_replace : Nat := 81
def F_twin_Book : Nat := 82
def F_wal_Log_Add : Nat := 83
def F_wal_Log_Flush : Nat := 84
def F_wal_Log_Size : Nat := 85
def F_wal_Log_Save : Nat := 86
def F_coord_deeds : Nat := 87
def F_coord_desk_look : Nat := 88
def F_coord_desk_again : Nat := 89
def F_slices_Clone_api_Alive : Nat := 90
def F_slices_Clone_api_Work : Nat := 91
def F_twin_Msgs : Nat := 92
def F_ver_Epoch : Nat := 93
def F_ver_Num : Nat := 94
def F_msg_putList_api_Seen : Nat := 95
def F_msg_putSeen : Nat := 96
def F_wire_groups : Nat := 97
def F_ver_Make : Nat := 98
def F_entry_into_int : Nat := 99
def F_entry_into_string : Nat := 100
def F_entry_into_bool : Nat := 101
def F_msg_listOf_api_Entry__c1 : Nat := 102
def F_entry_into_api_Ver : Nat := 103
def F_msg_listOf_api_Member__c1 : Nat := 104
def F_msg_done_api_Member : Nat := 105
def F_msg_listOf_api_View__c1 : Nat := 106
def F_msg_done_api_View : Nat := 107
def F_msg_into_api_Seen : Nat := 108
def F_msg_listOf_api_Seen : Nat := 109
def F_msg_getSeen : Nat := 110
def F_msg_done_api_Image : Nat := 111
def F_lockgateref03_Int : Nat := 112
def F_lockgateref05_cat : Nat := 113
def F_lockgateref01_Epoch : Nat := 114
def F_lockgateref01_Num : Nat := 115
def F_lockgateref05_bit : Nat := 116
def F_lockgateref05_Entry : Nat := 117
def F_lockgateref06_seens : Nat := 118
def F_disk_Disk_First : Nat := 119
def F_disk_Disk_Read : Nat := 120
def F_frame_number : Nat := 121
def F_hash_Sum : Nat := 122
def F_frame_low : Nat := 123
def F_wal_replace_c1 : Nat := 124
def F_disk_Disk_Wipe : Nat := 125
def F_wal_replace_c2 : Nat := 126
def F_disk_Disk_Append : Nat := 127
def F_disk_Disk_Sync : Nat := 128
def F_wal_replace_c3 : Nat := 129
def F_disk_Disk_Front : Nat := 130
def F_slices_Clone_api_Plan : Nat := 131
def F_coord_desk_open : Nat := 132
def F_coord_desk_askMap : Nat := 133
def F_coord_desk_beat : Nat := 134
def F_coord_desk_fenced : Nat := 135
def F_coord_desk_froze : Nat := 136
def F_coord_desk_reset : Nat := 137
def F_coord_Up : Nat := 138
def F_coord_desk_begin : Nat := 139
def F_coord_oneDown : Nat := 140
def F_coord_oneUp : Nat := 141
def F_coord_desk_grows : Nat := 142
def F_coord_desk_end : Nat := 143
def F_coord_frozen : Nat := 144
def F_coord_desk_activate : Nat := 145
def F_slices_Clone_api_Msg : Nat := 146
def F_twin_Msg : Nat := 147
def F_msg_listOf_api_Seen__c1 : Nat := 148
def F_msg_done_api_Seen : Nat := 149
def F_disk_isArea : Nat := 150
def F_slices_Clone_byte : Nat := 151
def F_disk_Disk_change : Nat := 152
def F_disk_state_do : Nat := 153
def F_disk_Disk_count : Nat := 154
def F_slices_IndexFunc_api_Msg : Nat := 155
def F_coord_desk_open_c1 : Nat := 156
def F_coord_desk_answer : Nat := 157
def F_slices_Delete_api_Msg : Nat := 158
def F_slices_BinarySearchFunc_int : Nat := 159
def F_coord_desk_beat_c1 : Nat := 160
def F_slices_Insert_api_Alive : Nat := 161
def F_coord_desk_has : Nat := 162
def F_coord_desk_notes : Nat := 163
def F_place_Both : Nat := 164
def F_slices_ContainsFunc_api_Member : Nat := 165
def F_coord_oneDown_c1 : Nat := 166
def F_coord_isUp : Nat := 167
def F_coord_oneUp_c1 : Nat := 168
def F_slices_Equal_api_Member : Nat := 169
def F_coord_desk_grows_c1 : Nat := 170
def F_coord_desk_grows_c1_c1 : Nat := 171
def F_coord_desk_may : Nat := 172
def F_coord_best : Nat := 173
def F_place_Chain : Nat := 174
def F_place_Lead : Nat := 175
def F_coord_desk_wasReset : Nat := 176
def F_view_Head : Nat := 177
def F_slices_Clone_api_Entry : Nat := 178
def F_twin_Views : Nat := 179
def F_slices_Clone_api_Seen : Nat := 180
def F_slices_overlaps_api_Alive : Nat := 181
def F_slices_rotateRight_api_Alive : Nat := 182
def F_view_Index : Nat := 183
def F_slices_IndexFunc_api_Member : Nat := 184
def F_coord_desk_may_c1 : Nat := 185
def F_coord_desk_gone : Nat := 186
def F_ver_Ahead : Nat := 187
def F_place_turn : Nat := 188
def F_place_Chain_c1 : Nat := 189
def F_slices_DeleteFunc_api_Msg : Nat := 190
def F_coord_desk_wasReset_c1 : Nat := 191
def F_slices_Clone_api_View : Nat := 192
def F_slices_rotateLeft_api_Alive : Nat := 193
def F_slices_ContainsFunc_api_Alive : Nat := 194
def F_coord_desk_gone_c1 : Nat := 195
def F_slices_Reverse_api_Alive : Nat := 196
def F_slices_IndexFunc_api_Alive : Nat := 197
def F_disk_state_clone : Nat := 213
end Go.Wk
end

section
/- Contracts of the library's Clone: a list's copy reads as the list. -/
open Go Go.AM Go.Md
namespace Go.Wk
set_option maxRecDepth 100000
set_option maxHeartbeats 1000000

noncomputable def env0 : Env := envO []
theorem con0 {n f : Nat} {args : List AV} {r : AV} (e : callT env0 n f args = some r) : Contract PG f args [] r [] := con_of (md := fun _ => none) (l := []) (fun k hk => by cases hk) e

theorem clone_of {X : Type} {F sz b : Nat} {e : X → List AV} {z : X} (hb : b ≤ 1000) (hn : callT env0 2 F [.nils] = some .nils) (he : callT env0 2 F [.trl sz []] = some (.trl sz []))
    (hs : ∀ n f, callT env0 2 F [.tr sz (n + 1) f] = bif Nat.ble ((0 + (n + 1)) * b) 140737488355328 && Nat.ble (0 + (n + 1)) 140737488355328 then bif Nat.ble (n + 1) (n + 1) then some (.tr sz (n + 1) f) else none else none)
    (l : List X) (hl : l.length ≤ LB) : Contract PG F [encL sz e z l] [] (encL sz e z l) [] := by
  unfold LB at hl
  cases l with
  | nil => exact Contract.split (OrC.of [] [] .nil) ((con0 hn).res .nils) ((con0 he).res (SubV.trl_encL (e := e) (z := z) []))
  | cons x r =>
    have h := hs r.length (fun i => e ((x :: r).getD i z))
    simp only [List.length_cons] at hl
    have h1 : (0 + (r.length + 1)) * b ≤ 140737488355328 := by
      have : (0 + (r.length + 1)) * b ≤ 1000000 * 1000 := Nat.mul_le_mul (by omega) hb
      omega
    rw [ble_true h1, ble_true (by omega), ble_true (Nat.le_refl _)] at h
    exact con0 h

theorem clone_Member_eq (n : Nat) (f : Nat → List AV) : callT env0 2 F_slices_Clone_api_Member [.tr 2 (n + 1) f] = bif Nat.ble ((0 + (n + 1)) * 16) 140737488355328 && Nat.ble (0 + (n + 1)) 140737488355328 then bif Nat.ble (n + 1) (n + 1) then some (.tr 2 (n + 1) f) else none else none := by kernel_rfl
theorem clone_Entry_eq (n : Nat) (f : Nat → List AV) : callT env0 2 F_slices_Clone_api_Entry [.tr 11 (n + 1) f] = bif Nat.ble ((0 + (n + 1)) * 112) 140737488355328 && Nat.ble (0 + (n + 1)) 140737488355328 then bif Nat.ble (n + 1) (n + 1) then some (.tr 11 (n + 1) f) else none else none := by kernel_rfl
theorem clone_Seen_eq (n : Nat) (f : Nat → List AV) : callT env0 2 F_slices_Clone_api_Seen [.tr 7 (n + 1) f] = bif Nat.ble ((0 + (n + 1)) * 72) 140737488355328 && Nat.ble (0 + (n + 1)) 140737488355328 then bif Nat.ble (n + 1) (n + 1) then some (.tr 7 (n + 1) f) else none else none := by kernel_rfl

theorem clone_Member (l : List Member) (h : l.length ≤ LB) : Contract PG F_slices_Clone_api_Member [encMembers l] [] (encMembers l) [] :=
  clone_of (b := 16) (by omega) (by kernel_rfl) (by kernel_rfl) clone_Member_eq l h
theorem clone_Entry (l : List Entry) (h : l.length ≤ LB) : Contract PG F_slices_Clone_api_Entry [encEntrys l] [] (encEntrys l) [] :=
  clone_of (b := 112) (by omega) (by kernel_rfl) (by kernel_rfl) clone_Entry_eq l h
theorem clone_Seen (l : List Seen) (h : l.length ≤ LB) : Contract PG F_slices_Clone_api_Seen [encSeens l] [] (encSeens l) [] :=
  clone_of (b := 72) (by omega) (by kernel_rfl) (by kernel_rfl) clone_Seen_eq l h

/-- a function of one list, that answers it -/
def dL {X : Type} (d : List AV → X) (a : List AV) : List X := decL d (a.getD 0 .nils)
def shortL {X : Type} (l : List X) : Prop := l.length ≤ LB

def eMems (l : List Member) : List AV := [encMembers l]
def eEnts (l : List Entry) : List AV := [encEntrys l]
def eSeens (l : List Seen) : List AV := [encSeens l]
def eBools (l : List Bool) : List AV := [encBools l]
theorem qMems {R : Type} {l : List Member} {k : List Member → Option R} (h : shortL l) : gC (dL decMember) shortL eMems [encMembers l] k = k l := gC_eq l (decMembers l) h (.refl _)
theorem qEnts {R : Type} {l : List Entry} {k : List Entry → Option R} (h : shortL l) : gC (dL decEntry) shortL eEnts [encEntrys l] k = k l := gC_eq l (decEntrys l) h (.refl _)
theorem qSeens {R : Type} {l : List Seen} {k : List Seen → Option R} (h : shortL l) : gC (dL decSeen) shortL eSeens [encSeens l] k = k l := gC_eq l (decSeens l) h (.refl _)
theorem qBools {R : Type} {l : List Bool} {k : List Bool → Option R} (h : shortL l) : gC (dL decBool) shortL eBools [encBools l] k = k l := gC_eq l (decBools l) h (.refl _)
noncomputable def kCloneMember : Known := .spec F_slices_Clone_api_Member (dL decMember) shortL eMems encMembers
noncomputable def kCloneEntry : Known := .spec F_slices_Clone_api_Entry (dL decEntry) shortL eEnts encEntrys
noncomputable def kCloneSeen : Known := .spec F_slices_Clone_api_Seen (dL decSeen) shortL eSeens encSeens
theorem kCloneMember_ok : kCloneMember.Ok PG := Known.spec_ok clone_Member
theorem kCloneEntry_ok : kCloneEntry.Ok PG := Known.spec_ok clone_Entry
theorem kCloneSeen_ok : kCloneSeen.Ok PG := Known.spec_ok clone_Seen
end Go.Wk
end

section
/- A member's place in a list, by both texts; two lists of members held against each other; two lists of flat things. -/
open Go Go.AM Go.Md
namespace Go.Wk
set_option maxRecDepth 100000
set_option maxHeartbeats 1000000

theorem wrapS {i : Nat} (h : i ≤ 2000000) : IntKind.i64.wrap ((i : Int) + 1) = ((i + 1 : Nat) : Int) := wrap64 (by omega)
theorem dec_nat {i n : Nat} : decide ((i : Int) < (n : Int)) = decide (i < n) := by simp
theorem dec_nonneg (i : Nat) : decide ((0 : Int) ≤ (i : Int)) = true := by simp

theorem mem_eq (x m : Member) : (decide (x.node = m.node) && decide (x.boot = m.boot)) = decide (x = m) := by
  cases x; cases m; simp [Bool.decide_and]

end Go.Wk
end

section
/- Lists held against themselves; a number's bytes. -/
open Go Go.AM Go.Md
namespace Go.Wk
set_option maxRecDepth 100000
set_option maxHeartbeats 1000000

/-- a loop that goes up -/
theorem up_loop {n : Nat} (P : Nat → Nat → Prop) (h0 : ∀ m, P n (m + 1)) (hs : ∀ i m, i < n → P (i + 1) m → P i (m + 1)) : ∀ i m, i ≤ n → n - i < m → P i m := by
  intro i m hi hm
  obtain ⟨d, hd⟩ : ∃ d, n - i = d := ⟨_, rfl⟩
  induction d generalizing i m with
  | zero =>
    have : i = n := by omega
    subst this
    obtain ⟨m, rfl⟩ : ∃ k, m = k + 1 := ⟨m - 1, by omega⟩
    exact h0 m
  | succ d ih =>
    obtain ⟨m, rfl⟩ : ∃ k, m = k + 1 := ⟨m - 1, by omega⟩
    exact hs i m (by omega) (ih (i + 1) m (by omega) (by omega) (by omega))

/-- a loop that holds two lists against each other -/
theorem scan_loop {n : Nat} (hn : n ≤ LB) {G : Nat → Int → Option AV} {C : Nat → Bool}
    (hs : ∀ m (i : Int), G (m + 1) i = bif decide (i < (n : Int)) then bif decide (0 ≤ i) && decide (i < (n : Int)) then bif decide (0 ≤ i) && decide (i < (n : Int)) then
      bif !(C i.toNat) then some (.bool false) else G m (IntKind.i64.wrap (i + 1)) else none else none else some (.bool true))
    (hC : ∀ i, i < n → C i = true) {m : Nat} (hm : n < m) : G m 0 = some (.bool true) := by
  unfold LB at hn
  refine up_loop (n := n) (fun i m => G m (i : Int) = some (.bool true)) (fun m => ?_) (fun i m hi ih => ?_) 0 m (Nat.zero_le _) (by omega)
  · rw [hs, dec_nat, decide_eq_false (by omega), cond_false]
  · rw [hs, dec_nat, decide_eq_true hi, dec_nonneg]
    simp only [cond_true, Bool.and_true, Int.toNat_natCast, hC i hi, Bool.not_true, cond_false]
    rw [wrapS (by omega)]; exact ih

theorem strBeq_self : ∀ s : List UInt8, strBeq s s = true
  | [] => rfl
  | a :: s => by simp [strBeq, strBeq_self s]
theorem cond_self (b : Bool) : (bif b then b else !b) = true := by cases b <;> rfl

theorem getD_mem {X : Type} {l : List X} {i : Nat} {z : X} (h : i < l.length) : l.getD i z ∈ l := by
  simp [List.getD, List.getElem?_eq_getElem h]

end Go.Wk
end

section
/- A number's bytes. -/
open Go Go.AM Go.Md
namespace Go.Wk
set_option maxRecDepth 100000
set_option maxHeartbeats 1000000

def encB (b : Int) : List AV := [.int .u8 b]
def decB (cs : List AV) : Int := getI cs 0
/-- bytes -/
def encBy (l : List Int) : AV := encL 1 encB 0 l

/-- a whole number's groups of seven bits -/
def natB : Nat → Int → List Int
  | 0, _ => []
  | k + 1, x => if 127 < x then (128 + x % 128) :: natB k (x / 128) else [x]
def zig (n : Int) : Int := if n < 0 then 2 * (-(n + 1)) + 1 else 2 * n
def intB (n : Int) : List Int := natB 11 (zig n)

def SInt (x : Int) (acc : List (List AV)) : St := { fr := [(3, .int .u64 x), (4, .sl 1 0 0 acc.length acc.length)], hp := [.arr true 1 acc] }
/-- the loop, told level by level -/
def natK (z : Int → List (List AV) → Option (AV × Heap)) : Nat → Int → List (List AV) → Option (AV × Heap)
  | 0, x, acc => z x acc
  | k + 1, x, acc => bif decide (127 < x) then natK z k (IntKind.u64.wrap (x.tdiv 128)) (acc ++ [encB (IntKind.u8.wrap (IntKind.u64.wrap (128 + x.tmod 128)))])
    else some (.sl 1 0 0 (acc ++ [encB (IntKind.u8.wrap x)]).length (acc ++ [encB (IntKind.u8.wrap x)]).length, [.arr true 1 (acc ++ [encB (IntKind.u8.wrap x)])])

theorem int_in (N : Nat) (n : Int) : callH env0 (N + 12) F_lockgateref03_Int [.int .i64 n] [] =
    bif decide (n < 0) then natK (fun x acc => LP env0 (N + 11) 0 F_lockgateref03_Int (hnK 0) 0 [] N (SInt x acc)) 11 (IntKind.u64.wrap (IntKind.u64.wrap (2 * IntKind.u64.wrap (IntKind.i64.wrap (0 - IntKind.i64.wrap (n + 1)))) + 1)) []
    else natK (fun x acc => LP env0 (N + 11) 0 F_lockgateref03_Int (hnK 0) 0 [] N (SInt x acc)) 11 (IntKind.u64.wrap (2 * IntKind.u64.wrap n)) [] := by kernel_rfl

theorem wrapu64 {x : Int} (h : 0 ≤ x ∧ x ≤ 18446744073709551615) : IntKind.u64.wrap x = x := by
  simp [IntKind.wrap, IntKind.signed, IntKind.bits]; omega

theorem natK_eq {z : Int → List (List AV) → Option (AV × Heap)} : ∀ (k : Nat) (x : Int) (acc : List (List AV)), 0 ≤ x → x ≤ 18446744073709551615 → x < 128 ^ k → (0 < x ∨ 0 < k) → natK z k x acc = some (.sl 1 0 0 (acc ++ (natB k x).map encB).length (acc ++ (natB k x).map encB).length, [.arr true 1 (acc ++ (natB k x).map encB)])
  | 0, x, acc, h0, _, h, h2 => by simp at h; omega
  | k + 1, x, acc, h0, h1, h, _ => by
    unfold natK natB
    by_cases hx : 127 < x
    · rw [decide_eq_true hx, cond_true, if_pos hx]
      have e1 : IntKind.u64.wrap (x.tdiv 128) = x / 128 := by rw [Int.tdiv_eq_ediv_of_nonneg h0, wrapu64 (by omega)]
      have e2 : IntKind.u8.wrap (IntKind.u64.wrap (128 + x.tmod 128)) = 128 + x % 128 := by rw [Int.tmod_eq_emod_of_nonneg h0, wrapu64 (by omega), wrapu8 (by omega)]
      rw [e1, e2, natK_eq k (x / 128) _ (by omega) (by omega) (by rw [Int.pow_succ] at h; omega) (.inl (by omega))]
      simp
    · rw [decide_eq_false hx, cond_false, if_neg hx, wrapu8 (by omega)]
      simp

theorem natB_ne : ∀ (k : Nat) (x : Int), natB (k + 1) x ≠ [] := by
  intro k x
  unfold natB
  split <;> simp
theorem natB_len : ∀ (k : Nat) (x : Int), (natB k x).length ≤ k
  | 0, x => by simp [natB]
  | k + 1, x => by
    unfold natB
    split
    · have := natB_len k (x / 128)
      simp; omega
    · simp


theorem wneg (n : Int) (h : I64 n) (hn : n < 0) : IntKind.u64.wrap (IntKind.u64.wrap (2 * IntKind.u64.wrap (IntKind.i64.wrap (0 - IntKind.i64.wrap (n + 1)))) + 1) = 2 * (-(n + 1)) + 1 := by
  unfold I64 at h
  rw [wrap64 (by omega : -9223372036854775808 ≤ n + 1 ∧ n + 1 ≤ 9223372036854775807), wrap64 (by omega), wrapu64 (x := 0 - (n + 1)) (by omega), wrapu64 (x := 2 * (0 - (n + 1))) (by omega), wrapu64 (by omega)]
  omega

def intH (n : Int) : Int := (intB n).headD 0
def intT (n : Int) : List Int := (intB n).tail
theorem intB_eq (n : Int) : intB n = intH n :: intT n := by
  unfold intH intT
  have := natB_ne 10 (zig n)
  unfold intB
  cases h : natB 11 (zig n) with
  | nil => exact absurd h this
  | cons a r => rfl
theorem intB_len (n : Int) : (intB n).length ≤ 11 := natB_len 11 _

theorem int_con (n : Int) (h : I64 n) : Contract PG F_lockgateref03_Int [.int .i64 n] [] (outBlk 1 encB 0 (intB n)).1 (outBlk 1 encB 0 (intB n)).2 := by
  have e := int_in 0 n
  have hh := h
  unfold I64 at hh
  have hz : ∀ x : Int, x ≤ 18446744073709551615 → x < 128 ^ 11 := fun x hx => by
    have : (128 : Int) ^ 11 = 151115727451828646838272 := by decide
    omega
  have key : callH env0 (0 + 12) F_lockgateref03_Int [.int .i64 n] [] = some (.sl 1 0 0 (intB n).length (intB n).length, [.arr true 1 ((intB n).map encB)]) := by
    unfold intB zig
    by_cases hn : n < 0
    · rw [decide_eq_true hn, cond_true, wneg n h hn, natK_eq 11 _ [] (by omega) (by omega) (hz _ (by omega)) (.inr (by omega))] at e
      rw [if_pos hn]
      simpa using e
    · rw [decide_eq_false hn, cond_false, wrapu64 (x := n) (by omega), wrapu64 (by omega), natK_eq 11 _ [] (by omega) (by omega) (hz _ (by omega)) (.inr (by omega))] at e
      rw [if_neg hn]
      simpa using e
  exact (callH_ok (envM_ok (md := fun _ => none) (l := []) fun k hk => by cases hk) envM_code mixed key).1.blkArr _ fun x => rfl

noncomputable def kInt : Known := .specB F_lockgateref03_Int (fun a => getI a 0) I64 (fun n => [.int .i64 n]) (fun n => outBlk 1 encB 0 (intH n :: intT n))
theorem kInt_ok : kInt.Ok PG := Known.specB_ok fun n h => by
  have := int_con n h
  rw [intB_eq] at this
  exact this
end Go.Wk
end

section
/- Bytes of numbers, texts, lists of bytes. -/
open Go Go.AM Go.Md
namespace Go.Wk
set_option maxRecDepth 100000
set_option maxHeartbeats 1000000

/-- a list that isn't empty, as such -/
def ne (l : List Int) : List Int := l.headD 0 :: l.tail
theorem ne_eq {l : List Int} (h : l ≠ []) : ne l = l := by
  cases l with
  | nil => exact absurd rfl h
  | cons a r => rfl

def outB (l : List Int) : AV × Heap := outBlk 1 encB 0 l
noncomputable def kInt' : Known := .specB F_lockgateref03_Int (fun a => getI a 0) I64 (fun n => [.int .i64 n]) (fun n => outB (ne (intB n)))
theorem intB_ne (n : Int) : intB n ≠ [] := natB_ne 10 _
theorem kInt'_ok : kInt'.Ok PG := Known.specB_ok fun n h => by
  have := int_con n h
  show Contract PG F_lockgateref03_Int _ [] (outB (ne (intB n))).1 (outB (ne (intB n))).2
  rw [ne_eq (intB_ne n)]
  exact this

def mdB (f : Nat) : Option Nat := bif nmem f [F_lockgateref03_Int, F_lockgateref03_Text, F_lockgateref06_numbers, F_lockgateref05_Ver, F_lockgateref05_cat, F_lockgateref05_Op, F_lockgateref05_bit, F_lockgateref05_Entry, F_lockgateref06_entries, F_lockgateref06_members, F_lockgateref06_Views, F_lockgateref06_seens, F_lockgateref06_Image, F_lockgateref06_Msg] then some 1 else none
noncomputable def envB (l : List Known) : Env := envM mdB (orcOf l)
theorem conB {l : List Known} (h : ∀ k ∈ l, k.Ok PG) {n f : Nat} {args : List AV} {r : AV} {hp : Heap} (e : callH (envB l) n f args [] = some (r, hp)) : Contract PG f args [] r hp :=
  (callH_ok (envM_ok (md := mdB) h) envM_code mixed e).1

/-- bytes that stand in a block; and with more behind them, as 'append' lays them -/
def blkB (l : List Int) : BS := .seq true 1 l.length fun i => encB (l.getD i 0)
def blkR (l p : List Int) : BS := .seq true 1 (l.length + p.length) (appF l.length (fun i => encB (l.getD i 0)) p.length fun i => encB (p.getD i 0))
theorem blkR_eq (l p : List Int) : blkR l p = blkB (l ++ p) := by
  unfold blkR blkB
  rw [appF_enc encB 0 l p, List.length_append]
def slB (b : Nat) (l : List Int) : AV := .sl 1 b 0 l.length 0
def slR (b : Nat) (l p : List Int) : AV := .sl 1 b 0 (l.length + p.length) 0
theorem slR_eq (b : Nat) (l p : List Int) : slR b l p = slB b (l ++ p) := by unfold slR slB; rw [List.length_append]

/-- the tests of an 'append' of bytes -/
theorem ble_self (n : Nat) : Nat.ble n n = true := ble_true (Nat.le_refl n)
theorem or_self (n : Nat) : (Nat.beq n 0 || Nat.ble n n) = true := by rw [ble_self, Bool.or_true]
theorem roomB {a b : Nat} (h : a + b ≤ 1000000000) : (Nat.ble ((a + b) * 1) 140737488355328 && Nat.ble (a + b) 140737488355328) = true := by
  rw [ble_true (by omega), ble_true (by omega)]; rfl

/-! ### numbers -/
def encI (x : Int) : List AV := [.int .i64 x]
def decI (cs : List AV) : Int := getI cs 0
def encIs (l : List Int) : AV := encL 1 encI 0 l
theorem decIs (l : List Int) : decL decI (encIs l) = l := decL_encL (fun _ => rfl) l
def numsB (l : List Int) : List Int := l.flatMap intB

noncomputable def envN : Env := envB [kInt']
def SN0 (l : List Int) (i : Int) : St := { fr := [(0, encIs l), (3, .nils), (4, .int .i64 i)], hp := [] }
def SN (l acc : List Int) (i : Int) : St := { fr := [(0, encIs l), (3, slB 0 acc), (4, .int .i64 i)], hp := [blkB acc] }
def SNR (l acc p : List Int) (i : Int) : St := { fr := [(0, encIs l), (3, slR 0 acc p), (4, .int .i64 i)], hp := [blkR acc p] }
theorem nums_in (N : Nat) (l : List Int) : callH envN (N + 1) F_lockgateref06_numbers [encIs l] [] = LP envN N 0 F_lockgateref06_numbers (hnK 0) 0 [] N (SN0 l 0) := by kernel_rfl
theorem nums_first (N m : Nat) (l : List Int) (i : Int) : LP envN N 0 F_lockgateref06_numbers (hnK 0) 0 [] (m + 1) (SN0 l i) =
    bif decide (i < (l.length : Int)) then bif decide (0 ≤ i) && decide (i < (l.length : Int)) then
      gC (fun a => getI a 0) I64 (fun n => [.int .i64 n]) [.int .i64 (l.getD i.toNat 0)] fun y =>
        bif Nat.ble (ne (intB y)).length (ne (intB y)).length then bif Nat.ble ((0 + (ne (intB y)).length) * 1) 140737488355328 && Nat.ble (0 + (ne (intB y)).length) 140737488355328 then
          LP envN N 0 F_lockgateref06_numbers (hnK 0) 0 [] m (SN l (ne (intB y)) (IntKind.i64.wrap (i + 1))) else none else none
    else none else some (.nils, []) := by kernel_rfl
theorem nums_step (N m : Nat) (l acc : List Int) (i : Int) : LP envN N 0 F_lockgateref06_numbers (hnK 0) 0 [] (m + 1) (SN l acc i) =
    bif decide (i < (l.length : Int)) then bif decide (0 ≤ i) && decide (i < (l.length : Int)) then
      gC (fun a => getI a 0) I64 (fun n => [.int .i64 n]) [.int .i64 (l.getD i.toNat 0)] fun y =>
        bif (Nat.beq acc.length 0 || Nat.ble acc.length acc.length) then bif Nat.ble (ne (intB y)).length (ne (intB y)).length then
          bif Nat.ble ((acc.length + (ne (intB y)).length) * 1) 140737488355328 && Nat.ble (acc.length + (ne (intB y)).length) 140737488355328 then
            LP envN N 0 F_lockgateref06_numbers (hnK 0) 0 [] m (SNR l acc (ne (intB y)) (IntKind.i64.wrap (i + 1))) else none else none else none
    else none else some (outB acc) := by kernel_rfl

theorem SNR_eq (l acc p : List Int) (i : Int) : SNR l acc p i = SN l (acc ++ p) i := by unfold SNR SN; rw [slR_eq, blkR_eq]

theorem nums_loop {N : Nat} {l : List Int} (hl : l.length ≤ LB) (hI : ∀ x ∈ l, I64 x) : ∀ i m, i ≤ l.length → l.length - i < m → ∀ acc : List Int, acc.length ≤ 11 * i →
    LP envN N 0 F_lockgateref06_numbers (hnK 0) 0 [] m (SN l acc i) = some (outB (acc ++ numsB (l.drop i))) := by
  unfold LB at hl
  refine up_loop (n := l.length) (fun i m => ∀ acc : List Int, acc.length ≤ 11 * i → LP envN N 0 F_lockgateref06_numbers (hnK 0) 0 [] m (SN l acc i) = some (outB (acc ++ numsB (l.drop i)))) (fun m acc ha => ?_) (fun i m hi ih acc ha => ?_)
  · rw [nums_step, dec_nat, decide_eq_false (by omega), cond_false, List.drop_eq_nil_of_le (Nat.le_refl _)]
    simp [numsB]
  · rw [nums_step, dec_nat, decide_eq_true hi, dec_nonneg]
    simp only [cond_true, Bool.and_true, Int.toNat_natCast]
    have hx := hI _ (getD_mem hi (z := 0))
    rw [gC_eq (l.getD i 0) rfl hx (.refl _), ne_eq (intB_ne _)]
    have hb := intB_len (l.getD i 0)
    rw [or_self, ble_self, roomB (by omega)]
    simp only [cond_true]
    rw [SNR_eq, wrapS (by omega), ih _ (by rw [List.length_append]; omega), drop_cons (z := 0) hi]
    simp [numsB]

theorem nums_con (l : List Int) (h : l.length ≤ LB ∧ l ≠ [] ∧ ∀ x ∈ l, I64 x) : Contract PG F_lockgateref06_numbers [encIs l] [] (outB (numsB l)).1 (outB (numsB l)).2 := by
  obtain ⟨h1, h2, h3⟩ := h
  have hl := h1
  unfold LB at hl
  refine conB (l := [kInt']) (fun k hk => by simp at hk; subst hk; exact kInt'_ok) (n := l.length + 3) ?_
  refine (nums_in (l.length + 2) l).trans ?_
  have hpos : 0 < l.length := List.length_pos_iff.2 h2
  rw [nums_first, decide_eq_true (show (0 : Int) < (l.length : Int) by omega), decide_eq_true (show (0 : Int) ≤ 0 by omega)]
  simp only [cond_true, Bool.and_true]
  have e0 : (0 : Int).toNat = 0 := rfl
  rw [e0, gC_eq (l.getD 0 0) rfl (h3 _ (getD_mem hpos)) (.refl _), ne_eq (intB_ne _)]
  have hb := intB_len (l.getD 0 0)
  rw [ble_self, roomB (by omega)]
  simp only [cond_true]
  have e1 : IntKind.i64.wrap (0 + 1) = ((1 : Nat) : Int) := by decide
  rw [e1, nums_loop h1 h3 1 _ hpos (by omega) _ (by omega)]
  have := drop_cons (z := (0 : Int)) hpos
  rw [List.drop_zero] at this
  conv => rhs; rw [this]
  rfl

theorem numsB_ne {l : List Int} (h : l ≠ []) : numsB l ≠ [] := by
  cases l with
  | nil => exact absurd rfl h
  | cons a r => simp [numsB, intB_ne a]
theorem numsB_len (l : List Int) : (numsB l).length ≤ 11 * l.length := by
  induction l with
  | nil => simp [numsB]
  | cons a r ih =>
    have := intB_len a
    simp only [numsB, List.flatMap_cons, List.length_append, List.length_cons] at ih ⊢
    omega
def preN (l : List Int) : Prop := l.length ≤ LB ∧ l ≠ [] ∧ ∀ x ∈ l, I64 x
noncomputable def kNums : Known := .specB F_lockgateref06_numbers (dL decI) preN (fun l => [encIs l]) (fun l => outB (ne (numsB l)))
theorem kNums_ok : kNums.Ok PG := Known.specB_ok fun l h => by
  rw [ne_eq (numsB_ne h.2.1)]; exact nums_con l h
end Go.Wk
end

section
/- Bytes of texts; pieces one behind the other; bits. -/
open Go Go.AM Go.Md
namespace Go.Wk
set_option maxRecDepth 100000
set_option maxHeartbeats 1000000

/-- a loop that lays piece behind piece -/
theorem app_loop {X : Type} {l : List X} {z : X} {p : X → List Int} {c a0 : Nat} (hl : l.length ≤ LB) (hp : ∀ x ∈ l, (p x).length ≤ c) {G : Nat → List Int → Int → Option (AV × Heap)}
    (hend : ∀ m acc, G (m + 1) acc (l.length : Int) = some (outB acc))
    (hstep : ∀ m acc (i : Nat), i < l.length → acc.length ≤ a0 + c * l.length → G (m + 1) acc i = G m (acc ++ p (l.getD i z)) ((i + 1 : Nat) : Int)) :
    ∀ i m, i ≤ l.length → l.length - i < m → ∀ acc : List Int, acc.length ≤ a0 + c * i → G m acc i = some (outB (acc ++ (l.drop i).flatMap p)) := by
  refine up_loop (n := l.length) (fun i m => ∀ acc : List Int, acc.length ≤ a0 + c * i → G m acc i = some (outB (acc ++ (l.drop i).flatMap p))) (fun m acc ha => ?_) (fun i m hi ih acc ha => ?_)
  · rw [hend, List.drop_eq_nil_of_le (Nat.le_refl _)]; simp
  · have h1 : c * i ≤ c * l.length := Nat.mul_le_mul_left c (by omega)
    have hx := hp _ (getD_mem hi (z := z))
    rw [hstep m acc i hi (by omega), ih _ (by rw [List.length_append, Nat.mul_succ]; omega), drop_cons (z := z) hi]
    simp

/-! ### a text's bytes -/
def chB (c : UInt8) : List Int := [(c.toNat : Int)]
def textB (s : List UInt8) : List Int := intB s.length ++ s.flatMap chB
def ST (s : List UInt8) (acc : List Int) (i : Int) : St := { fr := [(0, .str s), (3, slB 0 acc), (4, .int .i64 i)], hp := [blkB acc] }
def STR (s : List UInt8) (acc p : List Int) (i : Int) : St := { fr := [(0, .str s), (3, slR 0 acc p), (4, .int .i64 i)], hp := [.seq true 1 (acc.length + p.length) (appF acc.length (fun i => encB (acc.getD i 0)) p.length fun i => (p.map encB).getD i [])] }
theorem STR_eq (s : List UInt8) (acc p : List Int) (i : Int) : STR s acc p i = ST s (acc ++ p) i := by
  unfold STR ST
  rw [slR_eq, appF_lit encB 0 acc p]
  unfold blkB
  rw [List.length_append]
theorem text_in (N : Nat) (s : List UInt8) : callH envN (N + 1) F_lockgateref03_Text [.str s] [] =
    gC (fun a => getI a 0) I64 (fun n => [.int .i64 n]) [.int .i64 (s.length : Int)] fun y => LP envN N 0 F_lockgateref03_Text (hnK 0) 0 [] N (ST s (ne (intB y)) 0) := by kernel_rfl
theorem text_step (N m : Nat) (s : List UInt8) (acc : List Int) (i : Int) : LP envN N 0 F_lockgateref03_Text (hnK 0) 0 [] (m + 1) (ST s acc i) =
    bif decide (i < (s.length : Int)) then bif decide (0 ≤ i) && decide (i < (s.length : Int)) then
      bif (Nat.beq acc.length 0 || Nat.ble acc.length acc.length) then bif Nat.ble ((acc.length + 1) * 1) 140737488355328 && Nat.ble (acc.length + 1) 140737488355328 then
        LP envN N 0 F_lockgateref03_Text (hnK 0) 0 [] m (STR s acc [((s.getD i.toNat 0).toNat : Int)] (IntKind.i64.wrap (i + 1))) else none else none
    else none else some (outB acc) := by kernel_rfl

theorem text_con (s : List UInt8) (h : s.length ≤ LB) : Contract PG F_lockgateref03_Text [.str s] [] (outB (textB s)).1 (outB (textB s)).2 := by
  have hl := h
  unfold LB at hl
  refine conB (l := [kInt']) (fun k hk => by simp at hk; subst hk; exact kInt'_ok) (n := s.length + 2) ?_
  refine (text_in (s.length + 1) s).trans ?_
  rw [gC_eq (s.length : Int) rfl (by unfold I64; omega) (.refl _), ne_eq (intB_ne _)]
  have hb := intB_len (s.length : Int)
  have := app_loop (l := s) (z := 0) (p := chB) (c := 1) (a0 := 11) h (fun x _ => by simp [chB]) (G := fun m acc i => LP envN (s.length + 1) 0 F_lockgateref03_Text (hnK 0) 0 [] m (ST s acc i))
    (fun m acc => by rw [text_step, dec_nat, decide_eq_false (by omega), cond_false])
    (fun m acc i hi ha => by
      rw [text_step, dec_nat, decide_eq_true hi, dec_nonneg, or_self, roomB (by omega)]
      simp only [cond_true, Bool.and_true, Int.toNat_natCast]
      rw [STR_eq, wrapS (by omega)]
      rfl) 0 (s.length + 1) (Nat.zero_le _) (by omega) (intB s.length) (by omega)
  rw [List.drop_zero] at this
  exact this

theorem textB_ne (s : List UInt8) : textB s ≠ [] := by simp [textB, intB_ne]
theorem textB_len (s : List UInt8) : (textB s).length ≤ 11 + s.length := by
  have := intB_len (s.length : Int)
  have h2 : (s.flatMap chB).length = s.length := by
    clear this
    induction s with
    | nil => rfl
    | cons a r ih => simp only [List.flatMap_cons, List.length_append, ih, List.length_cons]; simp [chB]; omega
  simp only [textB, List.length_append]
  omega
noncomputable def kText : Known := .specB F_lockgateref03_Text (fun a => getS a 0) (fun s => s.length ≤ LB) (fun s => [.str s]) (fun s => outB (ne (textB s)))
theorem kText_ok : kText.Ok PG := Known.specB_ok fun s h => by rw [ne_eq (textB_ne s)]; exact text_con s h

/-! ### pieces -/
def encBl (l : List Int) : List AV := [encBy l]
def decBl (cs : List AV) : List Int := decL decB (cs.getD 0 .nils)
def encBls (ls : List (List Int)) : AV := encL 1 encBl [] ls
theorem decBy (l : List Int) : decL decB (encBy l) = l := decL_encL (fun _ => rfl) l
theorem decBls (ls : List (List Int)) : decL decBl (encBls ls) = ls := decL_encL (fun l => decBy l) ls
def SC0 (ls : List (List Int)) (i : Int) : St := { fr := [(0, encBls ls), (3, .nils), (4, .int .i64 i)], hp := [] }
def SCt (ls : List (List Int)) (acc : List Int) (i : Int) : St := { fr := [(0, encBls ls), (3, slB 0 acc), (4, .int .i64 i)], hp := [blkB acc] }
def SCR (ls : List (List Int)) (acc p : List Int) (i : Int) : St := { fr := [(0, encBls ls), (3, slR 0 acc p), (4, .int .i64 i)], hp := [blkR acc p] }
theorem SCR_eq (ls : List (List Int)) (acc p : List Int) (i : Int) : SCR ls acc p i = SCt ls (acc ++ p) i := by unfold SCR SCt; rw [slR_eq, blkR_eq]
theorem cat_in (N : Nat) (ls : List (List Int)) : callH envN (N + 1) F_lockgateref05_cat [encBls ls] [] = LP envN N 0 F_lockgateref05_cat (hnK 0) 0 [] N (SC0 ls 0) := by kernel_rfl
theorem cat_first (N m : Nat) (ls : List (List Int)) (i : Int) : LP envN N 0 F_lockgateref05_cat (hnK 0) 0 [] (m + 1) (SC0 ls i) =
    bif decide (i < (ls.length : Int)) then bif decide (0 ≤ i) && decide (i < (ls.length : Int)) then
      bif Nat.ble ((0 + (ls.getD i.toNat []).length) * 1) 140737488355328 && Nat.ble (0 + (ls.getD i.toNat []).length) 140737488355328 then
        bif Nat.beq (ls.getD i.toNat []).length 0 then LP envN N 0 F_lockgateref05_cat (hnK 0) 0 [] m (SC0 ls (IntKind.i64.wrap (i + 1)))
        else LP envN N 0 F_lockgateref05_cat (hnK 0) 0 [] m (SCt ls (ls.getD i.toNat []) (IntKind.i64.wrap (i + 1))) else none
    else none else some (.nils, []) := by kernel_rfl
theorem cat_step (N m : Nat) (ls : List (List Int)) (acc : List Int) (i : Int) : LP envN N 0 F_lockgateref05_cat (hnK 0) 0 [] (m + 1) (SCt ls acc i) =
    bif decide (i < (ls.length : Int)) then bif decide (0 ≤ i) && decide (i < (ls.length : Int)) then
      bif (Nat.beq acc.length 0 || Nat.ble acc.length acc.length) then
        bif Nat.ble ((acc.length + (ls.getD i.toNat []).length) * 1) 140737488355328 && Nat.ble (acc.length + (ls.getD i.toNat []).length) 140737488355328 then
          bif Nat.beq (ls.getD i.toNat []).length 0 then LP envN N 0 F_lockgateref05_cat (hnK 0) 0 [] m (SCt ls acc (IntKind.i64.wrap (i + 1)))
          else LP envN N 0 F_lockgateref05_cat (hnK 0) 0 [] m (SCR ls acc (ls.getD i.toNat []) (IntKind.i64.wrap (i + 1))) else none else none
    else none else some (outB acc) := by kernel_rfl

/-- pieces: some, none of them empty, none too long -/
def preC (ls : List (List Int)) : Prop := ls.length ≤ 1000 ∧ ls ≠ [] ∧ ∀ l ∈ ls, l ≠ [] ∧ l.length ≤ 100000
theorem cat_con (ls : List (List Int)) (h : preC ls) : Contract PG F_lockgateref05_cat [encBls ls] [] (outB ls.flatten).1 (outB ls.flatten).2 := by
  obtain ⟨h1, h2, h3⟩ := h
  refine conB (l := [kInt']) (fun k hk => by simp at hk; subst hk; exact kInt'_ok) (n := ls.length + 3) ?_
  refine (cat_in (ls.length + 2) ls).trans ?_
  have hpos : 0 < ls.length := List.length_pos_iff.2 h2
  obtain ⟨g1, g2⟩ := h3 _ (getD_mem hpos (z := []))
  rw [cat_first, decide_eq_true (show (0 : Int) < (ls.length : Int) by omega), decide_eq_true (show (0 : Int) ≤ 0 by omega)]
  have e0 : (0 : Int).toNat = 0 := rfl
  have e1 : IntKind.i64.wrap (0 + 1) = ((1 : Nat) : Int) := by decide
  have hz : Nat.beq (ls.getD 0 []).length 0 = false := beq_false (fun e => g1 (List.eq_nil_of_length_eq_zero e))
  simp only [e0, e1, cond_true, Bool.and_true, hz, roomB (show 0 + (ls.getD 0 []).length ≤ 1000000000 by omega), cond_false]
  have := app_loop (l := ls) (z := []) (p := fun l => l) (c := 100000) (a0 := 0) (by unfold LB; omega) (fun x hx => (h3 x hx).2) (G := fun m acc i => LP envN (ls.length + 2) 0 F_lockgateref05_cat (hnK 0) 0 [] m (SCt ls acc i))
    (fun m acc => by rw [cat_step, dec_nat, decide_eq_false (by omega), cond_false])
    (fun m acc i hi ha => by
      obtain ⟨g1, g2⟩ := h3 _ (getD_mem hi (z := []))
      have hz : Nat.beq (ls.getD i []).length 0 = false := beq_false (fun e => g1 (List.eq_nil_of_length_eq_zero e))
      have hm : 100000 * ls.length ≤ 100000000 := by omega
      rw [cat_step, dec_nat, decide_eq_true hi, dec_nonneg, or_self]
      simp only [cond_true, Bool.and_true, Int.toNat_natCast, hz, cond_false]
      rw [roomB (by omega), cond_true, SCR_eq, wrapS (by omega)]) 1 (ls.length + 1) hpos (by omega) (ls.getD 0 []) (by omega)
  rw [this]
  have hd := drop_cons (z := ([] : List Int)) hpos
  rw [List.drop_zero] at hd
  conv => rhs; rw [hd]
  simp
noncomputable def kCat : Known := .specB F_lockgateref05_cat (dL decBl) preC (fun ls => [encBls ls]) (fun ls => outB (ne ls.flatten))
theorem flat_ne {ls : List (List Int)} (h : ls ≠ []) (h2 : ∀ l ∈ ls, l ≠ []) : ls.flatten ≠ [] := by
  cases ls with
  | nil => exact absurd rfl h
  | cons a r => simp [h2 a (by simp)]
theorem kCat_ok : kCat.Ok PG := Known.specB_ok fun ls h => by rw [ne_eq (flat_ne h.2.1 fun l hl => (h.2.2 l hl).1)]; exact cat_con ls h

def bitI (b : Bool) : Int := bif b then 1 else 0
theorem bit06_eq (b : Bool) : callT env0 2 F_lockgateref06_bit [.bool b] = bif b then some (.int .u8 1) else some (.int .u8 0) := by kernel_rfl
noncomputable def kBit06 : Known := .spec F_lockgateref06_bit (fun a => getB a 0) (fun _ => True) (fun b => [.bool b]) (fun b => .int .u8 (bitI b))
theorem kBit06_ok : kBit06.Ok PG := Known.spec_ok fun b _ => con0 (by rw [bit06_eq]; cases b <;> rfl)
theorem bit05_eq (b : Bool) : callH env0 2 F_lockgateref05_bit [.bool b] [] = bif b then some (.sl 1 0 0 1 1, [.arr true 1 [[.int .u8 1]]]) else some (.sl 1 0 0 1 1, [.arr true 1 [[.int .u8 0]]]) := by kernel_rfl
noncomputable def kBit05 : Known := .specB F_lockgateref05_bit (fun a => getB a 0) (fun _ => True) (fun b => [.bool b]) (fun b => outB [bitI b])
theorem kBit05_ok : kBit05.Ok PG := Known.specB_ok fun b _ => by
  have e : callH env0 2 F_lockgateref05_bit [.bool b] [] = some (.sl 1 0 0 ([bitI b] : List Int).length 1, [.arr true 1 ([bitI b].map encB)]) := by rw [bit05_eq]; cases b <;> rfl
  exact ((callH_ok (envM_ok (md := fun _ => none) (l := []) fun k hk => by cases hk) envM_code mixed e).1.blkArr _ fun x => rfl)
end Go.Wk
end

section
/- Bytes of versions, operations, entries, members, views, seens, images, messages. -/
open Go Go.AM Go.Md
namespace Go.Wk
set_option maxRecDepth 100000
set_option maxHeartbeats 1000000

noncomputable def kns1 : List Known := [kInt', kText, kCat, kBit05, kBit06, kNums]
theorem ac {X : Type} {p : X → Prop} {k : X} {l : List X} (h : p k) (t : ∀ x ∈ l, p x) : ∀ x ∈ k :: l, p x := fun x hx => by
  rcases List.mem_cons.1 hx with rfl | hx
  · exact h
  · exact t x hx
theorem an {X : Type} {p : X → Prop} : ∀ x ∈ ([] : List X), p x := fun x hx => by cases hx
theorem ak {k : Known} {l : List Known} (h : k.Ok PG) (t : ∀ x ∈ l, x.Ok PG) : ∀ x ∈ k :: l, x.Ok PG := fun x hx => by
  rcases List.mem_cons.1 hx with rfl | hx
  · exact h
  · exact t x hx
theorem ank : ∀ x ∈ ([] : List Known), x.Ok PG := fun x hx => by cases hx
theorem kns1_ok : ∀ k ∈ kns1, k.Ok PG := ak kInt'_ok (ak kText_ok (ak kCat_ok (ak kBit05_ok (ak kBit06_ok (ak kNums_ok ank)))))
noncomputable def envV : Env := envB kns1

noncomputable def gI {R : Type} (n : Int) (k : Int → Option R) : Option R := gC (fun a => getI a 0) I64 (fun n => [.int .i64 n]) [.int .i64 n] k
theorem gI_eq {R : Type} {n : Int} {k : Int → Option R} (h : I64 n) : gI n k = k n := gC_eq n rfl h (.refl _)
noncomputable def gT {R : Type} (s : List UInt8) (k : List UInt8 → Option R) : Option R := gC (fun a => getS a 0) (fun s => s.length ≤ LB) (fun s => [.str s]) [.str s] k
theorem gT_eq {R : Type} {s : List UInt8} {k : List UInt8 → Option R} (h : s.length ≤ LB) : gT s k = k s := gC_eq s rfl h (.refl _)
noncomputable def gBit {R : Type} (b : Bool) (k : Bool → Option R) : Option R := gC (fun a => getB a 0) (fun _ => True) (fun b => [.bool b]) [.bool b] k
theorem gBit_eq {R : Type} {b : Bool} {k : Bool → Option R} : gBit b k = k b := gC_eq b rfl trivial (.refl _)
noncomputable def gCat {R : Type} (ls : List (List Int)) (k : List (List Int) → Option R) : Option R := gC (dL decBl) preC (fun ls => [encBls ls]) [.trl 1 (ls.map encBl)] k
theorem dec_trl {X : Type} {e : X → List AV} {d : List AV → X} (h : ∀ x, d (e x) = x) (sz : Nat) (l : List X) : decL d (.trl sz (l.map e)) = l := by
  simp [decL, List.map_map, Function.comp_def, h]
theorem gCat_eq {R : Type} {ls : List (List Int)} {k : List (List Int) → Option R} (h : preC ls) : gCat ls k = k ls :=
  gC_eq ls (dec_trl (fun l => decBy l) 1 ls) h (.cons (.trl_encL ls) .nil)
noncomputable def gNums {R : Type} (l : List Int) (k : List Int → Option R) : Option R := gC (dL decI) preN (fun l => [encIs l]) [.trl 1 (l.map encI)] k
theorem gNums_eq {R : Type} {l : List Int} {k : List Int → Option R} (h : preN l) : gNums l k = k l :=
  gC_eq l (dec_trl (fun _ => rfl) 1 l) h (.cons (.trl_encL l) .nil)

def lnG (l : List (List Int)) : Bool := match l with
  | [] => true
  | a :: r => Nat.ble a.length a.length && true && lnG r
theorem lnG_eq : ∀ l, lnG l = true
  | [] => rfl
  | a :: r => by simp [lnG, lnG_eq r, ble_self]

def verB (v : Ver) : List Int := [intB (vE v), intB (vN v)].flatten
theorem ver_eq (v : Ver) : callH envV 2 F_lockgateref05_Ver [.cplx .f64 v.re v.im] [] =
    bif (fI v.re).isSome then bif decide (IntKind.i64.min ≤ (fI v.re).getD 0) && decide ((fI v.re).getD 0 ≤ IntKind.i64.max) then gI ((fI v.re).getD 0) fun y0 =>
      bif (fI v.im).isSome then bif decide (IntKind.i64.min ≤ (fI v.im).getD 0) && decide ((fI v.im).getD 0 ≤ IntKind.i64.max) then gI ((fI v.im).getD 0) fun y1 =>
        bif Nat.ble (ne (intB y0)).length (ne (intB y0)).length && true && (Nat.ble (ne (intB y1)).length (ne (intB y1)).length && true && true) && true && true then gCat [ne (intB y0), ne (intB y1)] fun y => some (outB (ne y.flatten))
        else none else none else none else none else none := by kernel_rfl

def PP (l : List Int) : Prop := l ≠ [] ∧ l.length ≤ 100000
theorem pc2 {a b : List Int} (ha : PP a) (hb : PP b) : preC [a, b] := ⟨by simp, by simp, ac (p := PP) ha (ac (p := PP) hb an)⟩
theorem intP (n : Int) : PP (intB n) := ⟨intB_ne n, by have := intB_len n; omega⟩

theorem ver_con (v : Ver) (h : VInt v) : Contract PG F_lockgateref05_Ver [.cplx .f64 v.re v.im] [] (outB (ne (verB v))).1 (outB (ne (verB v))).2 := by
  refine conB kns1_ok (n := 2) ((ver_eq v).trans ?_)
  obtain ⟨h1, h2⟩ := h
  simp only [h1.1, decide_eq_true h1.2.1, decide_eq_true h1.2.2, h2.1, decide_eq_true h2.2.1, decide_eq_true h2.2.2, cond_true, Bool.and_true, gI_eq (okI64 h1), gI_eq (okI64 h2), ble_self, ne_eq (intB_ne _)]
  rw [gCat_eq (pc2 (intP _) (intP _))]
  rfl
theorem verB_ne (v : Ver) : verB v ≠ [] := by simp [verB, intB_ne]
theorem verB_len (v : Ver) : (verB v).length ≤ 22 := by
  have h1 := intB_len (vE v)
  have h2 := intB_len (vN v)
  simp [verB]; omega
noncomputable def kVer : Known := .specB F_lockgateref05_Ver (fun a => (⟨(getC a 0).1, (getC a 0).2⟩ : Ver)) VInt (fun v => [.cplx .f64 v.re v.im]) (fun v => outB (ne (verB v)))
theorem kVer_ok : kVer.Ok PG := Known.specB_ok ver_con
noncomputable def gVer {R : Type} (v : Ver) (k : Ver → Option R) : Option R := gC (fun a => (⟨(getC a 0).1, (getC a 0).2⟩ : Ver)) VInt (fun v => [.cplx .f64 v.re v.im]) [.cplx .f64 v.re v.im] k
theorem gVer_eq {R : Type} {v : Ver} {k : Ver → Option R} (h : VInt v) : gVer v k = k v := gC_eq v rfl h (.refl _)
end Go.Wk
end

section
/- Bytes of operations, entries, members, views, seens, images, messages. -/
open Go Go.AM Go.Md
namespace Go.Wk
set_option maxRecDepth 100000
set_option maxHeartbeats 1000000

/-! ### what stands in a block, and is grown -/
def oS (l : List Int) : Nat × (Nat → List AV) := (l.length, fun i => encB (l.getD i 0))
def apS (x : Nat × (Nat → List AV)) (p : List Int) : Nat × (Nat → List AV) := (x.1 + p.length, appF x.1 x.2 p.length fun i => encB (p.getD i 0))
def apL (x : Nat × (Nat → List AV)) (p : List Int) : Nat × (Nat → List AV) := (x.1 + p.length, appF x.1 x.2 p.length fun i => (p.map encB).getD i [])
theorem apS_eq (l p : List Int) : apS (oS l) p = oS (l ++ p) := by
  unfold apS oS
  simp only [appF_enc encB 0 l p, List.length_append]
theorem apL_eq (l p : List Int) : apL (oS l) p = oS (l ++ p) := by
  unfold apL oS
  simp only [appF_lit encB 0 l p, List.length_append]
def outX (x : Nat × (Nat → List AV)) : AV × Heap := (.sl 1 0 0 x.1 0, [.seq true 1 x.1 x.2])
theorem outX_eq (l : List Int) : outX (oS l) = outB l := rfl
/-- the tests of an append -/
def gAp {R : Type} (x : Nat × (Nat → List AV)) (p : List Int) (k : Option R) : Option R :=
  bif (Nat.beq x.1 0 || Nat.ble x.1 x.1) then bif Nat.ble p.length p.length then bif Nat.ble ((x.1 + p.length) * 1) 140737488355328 && Nat.ble (x.1 + p.length) 140737488355328 then k else none else none else none
def gAl {R : Type} (x : Nat × (Nat → List AV)) (p : List Int) (k : Option R) : Option R :=
  bif (Nat.beq x.1 0 || Nat.ble x.1 x.1) then bif Nat.ble ((x.1 + p.length) * 1) 140737488355328 && Nat.ble (x.1 + p.length) 140737488355328 then k else none else none
theorem gAp_eq {R : Type} {l p : List Int} {k : Option R} (h : l.length + p.length ≤ 1000000000) : gAp (oS l) p k = k := by
  unfold gAp oS
  simp only [ble_self, Bool.or_true, roomB h, cond_true]
theorem gAl_eq {R : Type} {l p : List Int} {k : Option R} (h : l.length + p.length ≤ 1000000000) : gAl (oS l) p k = k := by
  unfold gAl oS
  simp only [or_self, roomB h, cond_true]

/-! ### operations -/
theorem textP {s : List UInt8} (h : s.length ≤ 2000) : PP (textB s) := ⟨textB_ne s, by have := textB_len s; omega⟩
theorem bitP (b : Bool) : PP [bitI b] := ⟨by simp, by simp⟩
def opB (o : Md.Op) : List Int := [intB o.kind, textB o.key, textB o.val, textB o.old, [bitI o.hasOld]].flatten
theorem op_eq (o : Md.Op) : callH envV 2 F_lockgateref05_Op [.agg (encOp o)] [] =
    gI o.kind fun a => gT o.key fun b => gT o.val fun c => gT o.old fun d => gBit o.hasOld fun e =>
      bif lnG [ne (intB a), ne (textB b), ne (textB c), ne (textB d), [bitI e]] && true && true then
        gCat [ne (intB a), ne (textB b), ne (textB c), ne (textB d), [bitI e]] fun y => some (outB (ne y.flatten)) else none := by kernel_rfl
def OpOk' (o : Md.Op) : Prop := I64 o.kind ∧ o.key.length ≤ 2000 ∧ o.val.length ≤ 2000 ∧ o.old.length ≤ 2000
theorem opB_ne (o : Md.Op) : opB o ≠ [] := by simp [opB, intB_ne]
theorem LB2 {n : Nat} (h : n ≤ 2000) : n ≤ LB := by unfold LB; omega
theorem op_con (o : Md.Op) (h : OpOk' o) : Contract PG F_lockgateref05_Op [.agg (encOp o)] [] (outB (ne (opB o))).1 (outB (ne (opB o))).2 := by
  refine conB kns1_ok (n := 2) ((op_eq o).trans ?_)
  obtain ⟨h1, h2, h3, h4⟩ := h
  rw [gI_eq h1, gT_eq (LB2 h2), gT_eq (LB2 h3), gT_eq (LB2 h4), gBit_eq, lnG_eq, ne_eq (intB_ne _), ne_eq (textB_ne _), ne_eq (textB_ne _), ne_eq (textB_ne _)]
  simp only [Bool.and_true, cond_true]
  rw [gCat_eq ⟨by simp, by simp, ac (p := PP) (intP _) (ac (p := PP) (textP h2) (ac (p := PP) (textP h3) (ac (p := PP) (textP h4) (ac (p := PP) (bitP _) an))))⟩]
  rfl
theorem opB_len {o : Md.Op} (h : OpOk' o) : (opB o).length ≤ 7000 := by
  obtain ⟨h1, h2, h3, h4⟩ := h
  have a1 := intB_len o.kind
  have a2 := textB_len o.key
  have a3 := textB_len o.val
  have a4 := textB_len o.old
  simp [opB]; omega
noncomputable def kOp : Known := .specB F_lockgateref05_Op (fun a => decOp (argC a 0)) OpOk' (fun o => [.agg (encOp o)]) (fun o => outB (ne (opB o)))
theorem kOp_ok : kOp.Ok PG := Known.specB_ok op_con
noncomputable def gOp {R : Type} (o : Md.Op) (k : Md.Op → Option R) : Option R := gC (fun a => decOp (argC a 0)) OpOk' (fun o => [.agg (encOp o)]) [.agg (encOp o)] k
theorem gOp_eq {R : Type} {o : Md.Op} {k : Md.Op → Option R} (h : OpOk' o) : gOp o k = k o := gC_eq o rfl h (.refl _)

/-! ### entries -/
noncomputable def kns2 : List Known := [kInt', kText, kCat, kBit05, kBit06, kNums, kVer, kOp]
theorem kns2_ok : ∀ k ∈ kns2, k.Ok PG := ak kInt'_ok (ak kText_ok (ak kCat_ok (ak kBit05_ok (ak kBit06_ok (ak kNums_ok (ak kVer_ok (ak kOp_ok ank)))))))
noncomputable def envW : Env := envB kns2
def entB (e : Entry) : List Int := [verB e.ver, intB e.kind, textB e.key, textB e.val, [bitI e.write], [bitI e.del], intB e.sess, intB e.num, intB e.code, textB e.res, [bitI e.hasRes]].flatten
theorem ent_eq (e : Entry) : callH envW 2 F_lockgateref05_Entry [.agg (encEntry e)] [] =
    gVer e.ver fun v => gI e.kind fun a => gT e.key fun b => gT e.val fun c => gBit e.write fun d => gBit e.del fun f => gI e.sess fun g => gI e.num fun h => gI e.code fun i => gT e.res fun j => gBit e.hasRes fun k =>
      bif lnG [ne (verB v), ne (intB a), ne (textB b), ne (textB c), [bitI d], [bitI f], ne (intB g), ne (intB h), ne (intB i), ne (textB j), [bitI k]] && true && true then
        gCat [ne (verB v), ne (intB a), ne (textB b), ne (textB c), [bitI d], [bitI f], ne (intB g), ne (intB h), ne (intB i), ne (textB j), [bitI k]] fun y => some (outB (ne y.flatten)) else none := by kernel_rfl
def EntOk (e : Entry) : Prop := VInt e.ver ∧ I64 e.kind ∧ e.key.length ≤ 2000 ∧ e.val.length ≤ 2000 ∧ I64 e.sess ∧ I64 e.num ∧ I64 e.code ∧ e.res.length ≤ 2000
theorem entB_ne (e : Entry) : entB e ≠ [] := by simp [entB, verB_ne]
theorem verP (v : Ver) : PP (verB v) := ⟨verB_ne v, by have := verB_len v; omega⟩
theorem ent_con (e : Entry) (h : EntOk e) : Contract PG F_lockgateref05_Entry [.agg (encEntry e)] [] (outB (ne (entB e))).1 (outB (ne (entB e))).2 := by
  refine conB kns2_ok (n := 2) ((ent_eq e).trans ?_)
  obtain ⟨h0, h1, h2, h3, h4, h5, h6, h7⟩ := h
  simp only [gVer_eq h0, gI_eq h1, gT_eq (LB2 h2), gT_eq (LB2 h3), gBit_eq, gI_eq h4, gI_eq h5, gI_eq h6, gT_eq (LB2 h7), lnG_eq, ne_eq (intB_ne _), ne_eq (textB_ne _), ne_eq (verB_ne _), Bool.and_true, cond_true]
  rw [gCat_eq ⟨by simp, by simp, ac (p := PP) (verP _) (ac (p := PP) (intP _) (ac (p := PP) (textP h2) (ac (p := PP) (textP h3) (ac (p := PP) (bitP _) (ac (p := PP) (bitP _) (ac (p := PP) (intP _) (ac (p := PP) (intP _) (ac (p := PP) (intP _) (ac (p := PP) (textP h7) (ac (p := PP) (bitP _) an))))))))))⟩]
  rfl
theorem entB_len {e : Entry} (h : EntOk e) : (entB e).length ≤ 7000 := by
  obtain ⟨h0, h1, h2, h3, h4, h5, h6, h7⟩ := h
  have a0 := verB_len e.ver
  have a1 := intB_len e.kind
  have a2 := textB_len e.key
  have a3 := textB_len e.val
  have a4 := intB_len e.sess
  have a5 := intB_len e.num
  have a6 := intB_len e.code
  have a7 := textB_len e.res
  simp [entB]; omega
noncomputable def kEnt : Known := .specB F_lockgateref05_Entry (fun a => decEntry (argC a 0)) EntOk (fun o => [.agg (encEntry o)]) (fun o => outB (ne (entB o)))
theorem kEnt_ok : kEnt.Ok PG := Known.specB_ok ent_con
noncomputable def gEnt {R : Type} (o : Entry) (k : Entry → Option R) : Option R := gC (fun a => decEntry (argC a 0)) EntOk (fun o => [.agg (encEntry o)]) [.agg (encEntry o)] k
theorem gEnt_eq {R : Type} {o : Entry} {k : Entry → Option R} (h : EntOk o) : gEnt o k = k o := gC_eq o rfl h (.refl _)
end Go.Wk
end

section
/- Bytes of lists: members, entries, views, seens. -/
open Go Go.AM Go.Md
namespace Go.Wk
set_option maxRecDepth 100000
set_option maxHeartbeats 1000000
noncomputable def kns3 : List Known := [kInt', kText, kCat, kBit05, kBit06, kNums, kVer, kOp, kEnt]
theorem kns3_ok : ∀ k ∈ kns3, k.Ok PG := ak kInt'_ok (ak kText_ok (ak kCat_ok (ak kBit05_ok (ak kBit06_ok (ak kNums_ok (ak kVer_ok (ak kOp_ok (ak kEnt_ok ank))))))))
noncomputable def envX : Env := envB kns3

/-- a state of a loop over l, with what was laid so far -/
def SL (l : AV) (x : Nat × (Nat → List AV)) (i : Int) : St := { fr := [(0, l), (3, .sl 1 0 0 x.1 0), (4, .int .i64 i)], hp := [.seq true 1 x.1 x.2] }

theorem list_con {X : Type} {F : Nat} {l : List X} {z : X} {al : AV} {p : X → List Int} {c : Nat} (hl : l.length ≤ 4200) (hp : ∀ x ∈ l, (p x).length ≤ c) (hc : c ≤ 100000)
    (hin : ∀ N, callH envX (N + 1) F [al] [] = gI (l.length : Int) fun y => LP envX N 0 F (hnK 0) 0 [] N (SL al (oS (ne (intB y))) 0))
    (hend : ∀ N m acc, LP envX N 0 F (hnK 0) 0 [] (m + 1) (SL al (oS acc) (l.length : Int)) = some (outB acc))
    (hstep : ∀ N m acc (i : Nat), i < l.length → acc.length ≤ 11 + c * 4200 → LP envX N 0 F (hnK 0) 0 [] (m + 1) (SL al (oS acc) i) = LP envX N 0 F (hnK 0) 0 [] m (SL al (oS (acc ++ p (l.getD i z))) ((i + 1 : Nat) : Int))) :
    Contract PG F [al] [] (outB (ne (intB l.length ++ l.flatMap p))).1 (outB (ne (intB l.length ++ l.flatMap p))).2 := by
  refine conB kns3_ok (n := l.length + 2) ((hin (l.length + 1)).trans ?_)
  rw [gI_eq (by unfold I64; omega), ne_eq (intB_ne _), ne_eq (by simp [intB_ne])]
  have hb := intB_len (l.length : Int)
  have := app_loop (l := l) (z := z) (p := p) (c := c) (a0 := 11) (by unfold LB; omega) hp (G := fun m acc i => LP envX (l.length + 1) 0 F (hnK 0) 0 [] m (SL al (oS acc) i)) (fun m acc => hend _ m acc)
    (fun m acc i hi ha => hstep _ m acc i hi (by have : c * l.length ≤ c * 4200 := Nat.mul_le_mul_left c hl; omega)) 0 (l.length + 1) (Nat.zero_le _) (by omega) (intB l.length) (by omega)
  rw [List.drop_zero] at this
  exact this

/-! ### entries -/
def entsB (l : List Entry) : List Int := intB l.length ++ l.flatMap entB
theorem ents_in (N : Nat) (l : List Entry) : callH envX (N + 1) F_lockgateref06_entries [encEntrys l] [] = gI (l.length : Int) fun y => LP envX N 0 F_lockgateref06_entries (hnK 0) 0 [] N (SL (encEntrys l) (oS (ne (intB y))) 0) := by kernel_rfl
theorem ents_step (N m : Nat) (l : List Entry) (acc : List Int) (i : Int) : LP envX N 0 F_lockgateref06_entries (hnK 0) 0 [] (m + 1) (SL (encEntrys l) (oS acc) i) =
    bif decide (i < (l.length : Int)) then bif decide (0 ≤ i) && decide (i < (l.length : Int)) then
      gEnt (l.getD i.toNat default) fun y => gAp (oS acc) (ne (entB y)) <| LP envX N 0 F_lockgateref06_entries (hnK 0) 0 [] m (SL (encEntrys l) (apS (oS acc) (ne (entB y))) (IntKind.i64.wrap (i + 1)))
    else none else some (outB acc) := by kernel_rfl
def EntsOk (l : List Entry) : Prop := l.length ≤ 4200 ∧ ∀ e ∈ l, EntOk e
theorem ents_con (l : List Entry) (h : EntsOk l) : Contract PG F_lockgateref06_entries [encEntrys l] [] (outB (ne (entsB l))).1 (outB (ne (entsB l))).2 := by
  refine list_con (z := default) h.1 (fun e he => entB_len (h.2 e he)) (by omega) (fun N => ents_in N l) (fun N m acc => ?_) (fun N m acc i hi ha => ?_)
  · rw [ents_step, dec_nat, decide_eq_false (by omega), cond_false]
  · rw [ents_step, dec_nat, decide_eq_true hi, dec_nonneg]
    simp only [cond_true, Bool.and_true, Int.toNat_natCast]
    have hx := h.2 _ (getD_mem hi (z := default))
    have hb := entB_len hx
    rw [gEnt_eq hx, ne_eq (entB_ne _), gAp_eq (by omega), apS_eq, wrapS (by have := h.1; omega)]

/-! ### members -/
def memB (m : Member) : List Int := numsB [m.node, m.boot]
def memsB (l : List Member) : List Int := intB l.length ++ l.flatMap memB
theorem mems_in (N : Nat) (l : List Member) : callH envX (N + 1) F_lockgateref06_members [encMembers l] [] = gI (l.length : Int) fun y => LP envX N 0 F_lockgateref06_members (hnK 0) 0 [] N (SL (encMembers l) (oS (ne (intB y))) 0) := by kernel_rfl
theorem mems_step (N m : Nat) (l : List Member) (acc : List Int) (i : Int) : LP envX N 0 F_lockgateref06_members (hnK 0) 0 [] (m + 1) (SL (encMembers l) (oS acc) i) =
    bif decide (i < (l.length : Int)) then bif decide (0 ≤ i) && decide (i < (l.length : Int)) then bif decide (0 ≤ i) && decide (i < (l.length : Int)) then
      gNums [(l.getD i.toNat default).node, (l.getD i.toNat default).boot] fun y => gAp (oS acc) (ne (numsB y)) <| LP envX N 0 F_lockgateref06_members (hnK 0) 0 [] m (SL (encMembers l) (apS (oS acc) (ne (numsB y))) (IntKind.i64.wrap (i + 1)))
    else none else none else some (outB acc) := by kernel_rfl
def MemOk (m : Member) : Prop := I64 m.node ∧ I64 m.boot
def MemsOk (l : List Member) : Prop := l.length ≤ 4200 ∧ ∀ m ∈ l, MemOk m
theorem mems_con (l : List Member) (h : MemsOk l) : Contract PG F_lockgateref06_members [encMembers l] [] (outB (ne (memsB l))).1 (outB (ne (memsB l))).2 := by
  refine list_con (z := default) (c := 22) h.1 (fun e he => numsB_len _) (by omega) (fun N => mems_in N l) (fun N m acc => ?_) (fun N m acc i hi ha => ?_)
  · rw [mems_step, dec_nat, decide_eq_false (by omega), cond_false]
  · rw [mems_step, dec_nat, decide_eq_true hi, dec_nonneg]
    simp only [cond_true, Bool.and_true, Int.toNat_natCast]
    have hx := h.2 _ (getD_mem hi (z := default))
    have hb := numsB_len [(l.getD i default).node, (l.getD i default).boot]
    simp only [List.length_cons, List.length_nil] at hb
    rw [gNums_eq ⟨by simp [LB], by simp, ac (p := I64) hx.1 (ac (p := I64) hx.2 an)⟩, ne_eq (numsB_ne (by simp)), gAp_eq (by omega), apS_eq, wrapS (by have := h.1; omega)]
    rfl
end Go.Wk
end

section
/- Bytes of views and of seens. -/
open Go Go.AM Go.Md
namespace Go.Wk
set_option maxRecDepth 100000
set_option maxHeartbeats 1000000
noncomputable def gMems {R : Type} (l : List Member) (k : List Member → Option R) : Option R := gC (dL decMember) MemsOk (fun l => [encMembers l]) [encMembers l] k
theorem gMems_eq {R : Type} {l : List Member} {k : List Member → Option R} (h : MemsOk l) : gMems l k = k l := gC_eq l (decMembers l) h (.refl _)
noncomputable def kMems : Known := .specB F_lockgateref06_members (dL decMember) MemsOk (fun l => [encMembers l]) (fun l => outB (ne (memsB l)))
theorem kMems_ok : kMems.Ok PG := Known.specB_ok mems_con
noncomputable def gEnts {R : Type} (l : List Entry) (k : List Entry → Option R) : Option R := gC (dL decEntry) EntsOk (fun l => [encEntrys l]) [encEntrys l] k
theorem gEnts_eq {R : Type} {l : List Entry} {k : List Entry → Option R} (h : EntsOk l) : gEnts l k = k l := gC_eq l (decEntrys l) h (.refl _)
noncomputable def kEnts : Known := .specB F_lockgateref06_entries (dL decEntry) EntsOk (fun l => [encEntrys l]) (fun l => outB (ne (entsB l)))
theorem kEnts_ok : kEnts.Ok PG := Known.specB_ok ents_con
noncomputable def kns4 : List Known := [kInt', kText, kCat, kBit05, kBit06, kNums, kVer, kOp, kEnt, kMems, kEnts]
theorem kns4_ok : ∀ k ∈ kns4, k.Ok PG := ak kInt'_ok (ak kText_ok (ak kCat_ok (ak kBit05_ok (ak kBit06_ok (ak kNums_ok (ak kVer_ok (ak kOp_ok (ak kEnt_ok (ak kMems_ok (ak kEnts_ok ank))))))))))
noncomputable def envY : Env := envB kns4

theorem list_conY {X : Type} {F : Nat} {l : List X} {z : X} {al : AV} {p : X → List Int} {c : Nat} (hl : l.length ≤ 4200) (hp : ∀ x ∈ l, (p x).length ≤ c) (hc : c ≤ 100000)
    (hin : ∀ N, callH envY (N + 1) F [al] [] = gI (l.length : Int) fun y => LP envY N 0 F (hnK 0) 0 [] N (SL al (oS (ne (intB y))) 0))
    (hend : ∀ N m acc, LP envY N 0 F (hnK 0) 0 [] (m + 1) (SL al (oS acc) (l.length : Int)) = some (outB acc))
    (hstep : ∀ N m acc (i : Nat), i < l.length → acc.length ≤ 11 + c * 4200 → LP envY N 0 F (hnK 0) 0 [] (m + 1) (SL al (oS acc) i) = LP envY N 0 F (hnK 0) 0 [] m (SL al (oS (acc ++ p (l.getD i z))) ((i + 1 : Nat) : Int))) :
    Contract PG F [al] [] (outB (ne (intB l.length ++ l.flatMap p))).1 (outB (ne (intB l.length ++ l.flatMap p))).2 := by
  refine conB kns4_ok (n := l.length + 2) ((hin (l.length + 1)).trans ?_)
  rw [gI_eq (by unfold I64; omega), ne_eq (intB_ne _), ne_eq (by simp [intB_ne])]
  have hb := intB_len (l.length : Int)
  have := app_loop (l := l) (z := z) (p := p) (c := c) (a0 := 11) (by unfold LB; omega) hp (G := fun m acc i => LP envY (l.length + 1) 0 F (hnK 0) 0 [] m (SL al (oS acc) i)) (fun m acc => hend _ m acc)
    (fun m acc i hi ha => hstep _ m acc i hi (by have : c * l.length ≤ c * 4200 := Nat.mul_le_mul_left c hl; omega)) 0 (l.length + 1) (Nat.zero_le _) (by omega) (intB l.length) (by omega)
  rw [List.drop_zero] at this
  exact this

/-- the tests of an append on what an append left -/
def gAs {R : Type} (x : Nat × (Nat → List AV)) (p : List Int) (k : Option R) : Option R :=
  bif Nat.ble x.1 x.1 then bif Nat.ble p.length p.length then bif Nat.ble ((x.1 + p.length) * 1) 140737488355328 && Nat.ble (x.1 + p.length) 140737488355328 then k else none else none else none
def gAq {R : Type} (x : Nat × (Nat → List AV)) (p : List Int) (k : Option R) : Option R :=
  bif Nat.ble x.1 x.1 then bif Nat.ble ((x.1 + p.length) * 1) 140737488355328 && Nat.ble (x.1 + p.length) 140737488355328 then k else none else none
theorem gAs_eq {R : Type} {l p : List Int} {k : Option R} (h : l.length + p.length ≤ 1000000000) : gAs (oS l) p k = k := by
  unfold gAs oS
  simp only [ble_self, roomB h, cond_true]
theorem gAq_eq {R : Type} {l p : List Int} {k : Option R} (h : l.length + p.length ≤ 1000000000) : gAq (oS l) p k = k := by
  unfold gAq oS
  simp only [ble_self, roomB h, cond_true]

/-! ### views -/
def viewB (v : Md.View) : List Int := numsB [v.shard, v.epoch, v.gen, v.phase] ++ memsB v.chain
def viewsB (l : List Md.View) : List Int := intB l.length ++ l.flatMap viewB
theorem views_in (N : Nat) (l : List Md.View) : callH envY (N + 1) F_lockgateref06_Views [encViews l] [] = gI (l.length : Int) fun y => LP envY N 0 F_lockgateref06_Views (hnK 0) 0 [] N (SL (encViews l) (oS (ne (intB y))) 0) := by kernel_rfl
def rg (i n : Int) {R : Type} (k : Option R) : Option R := bif decide (0 ≤ i) && decide (i < n) then k else none
theorem rg_eq {i n : Nat} (h : i < n) {R : Type} {k : Option R} : rg (i : Int) (n : Int) k = k := by
  unfold rg; rw [dec_nonneg, dec_nat, decide_eq_true h]; rfl
theorem views_step (N m : Nat) (l : List Md.View) (acc : List Int) (i : Int) : LP envY N 0 F_lockgateref06_Views (hnK 0) 0 [] (m + 1) (SL (encViews l) (oS acc) i) =
    bif decide (i < (l.length : Int)) then rg i l.length <| rg i l.length <| rg i l.length <| rg i l.length <|
      gNums [(l.getD i.toNat default).shard, (l.getD i.toNat default).epoch, (l.getD i.toNat default).gen, (l.getD i.toNat default).phase] fun y => gAp (oS acc) (ne (numsB y)) <| rg i l.length <|
        gMems (l.getD i.toNat default).chain fun z => gAs (apS (oS acc) (ne (numsB y))) (ne (memsB z)) <|
        LP envY N 0 F_lockgateref06_Views (hnK 0) 0 [] m (SL (encViews l) (apS (apS (oS acc) (ne (numsB y))) (ne (memsB z))) (IntKind.i64.wrap (i + 1)))
    else some (outB acc) := by kernel_rfl
def ViewOk (v : Md.View) : Prop := I64 v.shard ∧ I64 v.epoch ∧ I64 v.gen ∧ I64 v.phase ∧ MemsOk v.chain
def ViewsOk (l : List Md.View) : Prop := l.length ≤ 4200 ∧ ∀ v ∈ l, ViewOk v
theorem memsB_len {l : List Member} (h : MemsOk l) : (memsB l).length ≤ 11 + 22 * l.length := by
  have h1 := intB_len (l.length : Int)
  have h2 : (l.flatMap memB).length ≤ 22 * l.length := by
    clear h h1
    induction l with
    | nil => simp
    | cons a r ih =>
      have := numsB_len [a.node, a.boot]
      simp only [List.flatMap_cons, List.length_append, List.length_cons, List.length_nil, memB] at ih this ⊢
      omega
  simp only [memsB, List.length_append]; omega
theorem viewB_len {v : Md.View} (h : ViewOk v) : (viewB v).length ≤ 95000 := by
  have h1 := numsB_len [v.shard, v.epoch, v.gen, v.phase]
  have h2 := memsB_len h.2.2.2.2
  have h3 := h.2.2.2.2.1
  simp only [List.length_cons, List.length_nil] at h1
  simp only [viewB, List.length_append]; omega
theorem memsB_ne (l : List Member) : memsB l ≠ [] := by simp [memsB, intB_ne]
theorem views_con (l : List Md.View) (h : ViewsOk l) : Contract PG F_lockgateref06_Views [encViews l] [] (outB (ne (viewsB l))).1 (outB (ne (viewsB l))).2 := by
  refine list_conY (z := default) (c := 95000) h.1 (fun e he => viewB_len (h.2 e he)) (by omega) (fun N => views_in N l) (fun N m acc => ?_) (fun N m acc i hi ha => ?_)
  · rw [views_step, dec_nat, decide_eq_false (by omega), cond_false]
  · rw [views_step, dec_nat, decide_eq_true hi]
    simp only [cond_true, rg_eq hi, Int.toNat_natCast]
    have hx := h.2 _ (getD_mem hi (z := default))
    have hv := viewB_len hx
    obtain ⟨h1, h2, h3, h4, h5⟩ := hx
    simp only [viewB, List.length_append] at hv
    rw [gNums_eq ⟨by simp [LB], by simp, ac (p := I64) h1 (ac (p := I64) h2 (ac (p := I64) h3 (ac (p := I64) h4 an)))⟩, ne_eq (numsB_ne (by simp)), gAp_eq (by omega), apS_eq, gMems_eq h5, ne_eq (memsB_ne _), gAs_eq (by rw [List.length_append]; omega), apS_eq, wrapS (by have := h.1; omega), List.append_assoc]
    rfl

/-! ### seens -/
def seenB (s : Seen) : List Int := numsB [s.sess, s.num] ++ verB s.ver ++ numsB [s.kind, s.code] ++ textB s.res ++ [bitI s.hasRes]
def seensB (l : List Seen) : List Int := intB l.length ++ l.flatMap seenB
theorem seens_in (N : Nat) (l : List Seen) : callH envY (N + 1) F_lockgateref06_seens [encSeens l] [] = gI (l.length : Int) fun y => LP envY N 0 F_lockgateref06_seens (hnK 0) 0 [] N (SL (encSeens l) (oS (ne (intB y))) 0) := by kernel_rfl
theorem seens_step (N m : Nat) (l : List Seen) (acc : List Int) (i : Int) : LP envY N 0 F_lockgateref06_seens (hnK 0) 0 [] (m + 1) (SL (encSeens l) (oS acc) i) =
    bif decide (i < (l.length : Int)) then rg i l.length <| rg i l.length <|
      gNums [(l.getD i.toNat default).sess, (l.getD i.toNat default).num] fun y => gAp (oS acc) (ne (numsB y)) <| rg i l.length <|
      gVer (l.getD i.toNat default).ver fun v => gAs (apS (oS acc) (ne (numsB y))) (ne (verB v)) <| rg i l.length <| rg i l.length <|
      gNums [(l.getD i.toNat default).kind, (l.getD i.toNat default).code] fun w => gAs (apS (apS (oS acc) (ne (numsB y))) (ne (verB v))) (ne (numsB w)) <| rg i l.length <|
      gT (l.getD i.toNat default).res fun t => gAs (apS (apS (apS (oS acc) (ne (numsB y))) (ne (verB v))) (ne (numsB w))) (ne (textB t)) <| rg i l.length <|
      gBit (l.getD i.toNat default).hasRes fun b => gAq (apS (apS (apS (apS (oS acc) (ne (numsB y))) (ne (verB v))) (ne (numsB w))) (ne (textB t))) [bitI b] <|
        LP envY N 0 F_lockgateref06_seens (hnK 0) 0 [] m (SL (encSeens l) (apL (apS (apS (apS (apS (oS acc) (ne (numsB y))) (ne (verB v))) (ne (numsB w))) (ne (textB t))) [bitI b]) (IntKind.i64.wrap (i + 1)))
    else some (outB acc) := by kernel_rfl
def SeenOk (s : Seen) : Prop := I64 s.sess ∧ I64 s.num ∧ VInt s.ver ∧ I64 s.kind ∧ I64 s.code ∧ s.res.length ≤ 2000
def SeensOk (l : List Seen) : Prop := l.length ≤ 4200 ∧ ∀ v ∈ l, SeenOk v
theorem seenB_len {s : Seen} (h : SeenOk s) : (seenB s).length ≤ 3000 := by
  have h1 := numsB_len [s.sess, s.num]
  have h2 := numsB_len [s.kind, s.code]
  have h3 := verB_len s.ver
  have h4 := textB_len s.res
  have h5 := h.2.2.2.2.2
  simp only [List.length_cons, List.length_nil] at h1 h2
  simp only [seenB, List.length_append, List.length_cons, List.length_nil]; omega
theorem seens_con (l : List Seen) (h : SeensOk l) : Contract PG F_lockgateref06_seens [encSeens l] [] (outB (ne (seensB l))).1 (outB (ne (seensB l))).2 := by
  refine list_conY (z := default) (c := 3000) h.1 (fun e he => seenB_len (h.2 e he)) (by omega) (fun N => seens_in N l) (fun N m acc => ?_) (fun N m acc i hi ha => ?_)
  · rw [seens_step, dec_nat, decide_eq_false (by omega), cond_false]
  · rw [seens_step, dec_nat, decide_eq_true hi]
    simp only [cond_true, rg_eq hi, Int.toNat_natCast]
    have hx := h.2 _ (getD_mem hi (z := default))
    have hv := seenB_len hx
    obtain ⟨h1, h2, h3, h4, h5, h6⟩ := hx
    simp only [seenB, List.length_append, List.length_cons, List.length_nil] at hv
    rw [gNums_eq ⟨by simp [LB], by simp, ac (p := I64) h1 (ac (p := I64) h2 an)⟩, ne_eq (numsB_ne (by simp)), gAp_eq (by omega), apS_eq, gVer_eq h3, ne_eq (verB_ne _), gAs_eq (by rw [List.length_append]; omega), apS_eq,
      gNums_eq ⟨by simp [LB], by simp, ac (p := I64) h4 (ac (p := I64) h5 an)⟩, ne_eq (numsB_ne (by simp)), gAs_eq (by simp only [List.length_append]; omega), apS_eq, gT_eq (LB2 h6), ne_eq (textB_ne _), gAs_eq (by simp only [List.length_append]; omega), apS_eq,
      gBit_eq, gAq_eq (by simp only [List.length_append, List.length_cons, List.length_nil]; omega), apL_eq, wrapS (by have := h.1; omega)]
    simp only [seenB, List.append_assoc]
end Go.Wk
end

section
/- Bytes of images and messages. -/
open Go Go.AM Go.Md
namespace Go.Wk
set_option maxRecDepth 100000
set_option maxHeartbeats 2000000
theorem flat_len {X : Type} {p : X → List Int} {c : Nat} : ∀ {l : List X}, (∀ x ∈ l, (p x).length ≤ c) → (l.flatMap p).length ≤ c * l.length
  | [], _ => by simp
  | a :: r, h => by
    have h1 := h a (by simp)
    have h2 := flat_len (l := r) (p := p) (c := c) fun x hx => h x (by simp [hx])
    simp only [List.flatMap_cons, List.length_append, List.length_cons, Nat.mul_add, Nat.mul_one] at h2 ⊢
    omega
theorem flat_len' {X : Type} {p : X → List Int} {c : Nat} {l : List X} (hl : l.length ≤ 4200) (h : ∀ x ∈ l, (p x).length ≤ c) : (intB l.length ++ l.flatMap p).length ≤ 11 + c * 4200 := by
  have h1 := intB_len (l.length : Int)
  have h2 := flat_len h
  have h3 : c * l.length ≤ c * 4200 := Nat.mul_le_mul_left c hl
  simp only [List.length_append]; omega
theorem entsB_len {l : List Entry} (h : EntsOk l) : (entsB l).length ≤ 40000000 := by
  have := flat_len' (p := entB) h.1 fun x hx => entB_len (h.2 x hx)
  unfold entsB; omega
theorem seensB_len {l : List Seen} (h : SeensOk l) : (seensB l).length ≤ 40000000 := by
  have := flat_len' (p := seenB) h.1 fun x hx => seenB_len (h.2 x hx)
  unfold seensB; omega
theorem viewsB_len {l : List Md.View} (h : ViewsOk l) : (viewsB l).length ≤ 420000000 := by
  have := flat_len' (p := viewB) h.1 fun x hx => viewB_len (h.2 x hx)
  unfold viewsB; omega
theorem entsB_ne (l : List Entry) : entsB l ≠ [] := by simp [entsB, intB_ne]
theorem seensB_ne (l : List Seen) : seensB l ≠ [] := by simp [seensB, intB_ne]
theorem viewsB_ne (l : List Md.View) : viewsB l ≠ [] := by simp [viewsB, intB_ne]

noncomputable def gViews {R : Type} (l : List Md.View) (k : List Md.View → Option R) : Option R := gC (dL decView) ViewsOk (fun l => [encViews l]) [encViews l] k
theorem gViews_eq {R : Type} {l : List Md.View} {k : List Md.View → Option R} (h : ViewsOk l) : gViews l k = k l := gC_eq l (decViews l) h (.refl _)
noncomputable def kViews : Known := .specB F_lockgateref06_Views (dL decView) ViewsOk (fun l => [encViews l]) (fun l => outB (ne (viewsB l)))
theorem kViews_ok : kViews.Ok PG := Known.specB_ok views_con
noncomputable def gSeens {R : Type} (l : List Seen) (k : List Seen → Option R) : Option R := gC (dL decSeen) SeensOk (fun l => [encSeens l]) [encSeens l] k
theorem gSeens_eq {R : Type} {l : List Seen} {k : List Seen → Option R} (h : SeensOk l) : gSeens l k = k l := gC_eq l (decSeens l) h (.refl _)
noncomputable def kSeens : Known := .specB F_lockgateref06_seens (dL decSeen) SeensOk (fun l => [encSeens l]) (fun l => outB (ne (seensB l)))
theorem kSeens_ok : kSeens.Ok PG := Known.specB_ok seens_con
noncomputable def kns5 : List Known := [kInt', kText, kCat, kBit05, kBit06, kNums, kVer, kOp, kEnt, kMems, kEnts, kViews, kSeens]
theorem kns5_ok : ∀ k ∈ kns5, k.Ok PG := ak kInt'_ok (ak kText_ok (ak kCat_ok (ak kBit05_ok (ak kBit06_ok (ak kNums_ok (ak kVer_ok (ak kOp_ok (ak kEnt_ok (ak kMems_ok (ak kEnts_ok (ak kViews_ok (ak kSeens_ok ank))))))))))))
noncomputable def envZ : Env := envB kns5

/-! ### images -/
def imgB (x : Image) : List Int := verB x.floor ++ verB x.last ++ intB x.gen ++ entsB x.log ++ seensB x.seen
theorem img_eq (x : Image) : callH envZ 2 F_lockgateref06_Image [.agg (encImage x)] [] =
    gVer x.floor fun a => gVer x.last fun b => gAs (oS (ne (verB a))) (ne (verB b)) <|
    gI x.gen fun c => gAs (apS (oS (ne (verB a))) (ne (verB b))) (ne (intB c)) <|
    gEnts x.log fun d => gAs (apS (apS (oS (ne (verB a))) (ne (verB b))) (ne (intB c))) (ne (entsB d)) <|
    gSeens x.seen fun e => gAs (apS (apS (apS (oS (ne (verB a))) (ne (verB b))) (ne (intB c))) (ne (entsB d))) (ne (seensB e)) <|
    some (outX (apS (apS (apS (apS (oS (ne (verB a))) (ne (verB b))) (ne (intB c))) (ne (entsB d))) (ne (seensB e)))) := by kernel_rfl
def ImgOk (x : Image) : Prop := VInt x.floor ∧ VInt x.last ∧ I64 x.gen ∧ EntsOk x.log ∧ SeensOk x.seen
theorem imgB_len {x : Image} (h : ImgOk x) : (imgB x).length ≤ 90000000 := by
  obtain ⟨h1, h2, h3, h4, h5⟩ := h
  have a1 := verB_len x.floor
  have a2 := verB_len x.last
  have a3 := intB_len x.gen
  have a4 := entsB_len h4
  have a5 := seensB_len h5
  simp only [imgB, List.length_append]; omega
theorem imgB_ne (x : Image) : imgB x ≠ [] := by simp [imgB, verB_ne]
theorem img_con (x : Image) (h : ImgOk x) : Contract PG F_lockgateref06_Image [.agg (encImage x)] [] (outB (ne (imgB x))).1 (outB (ne (imgB x))).2 := by
  refine conB kns5_ok (n := 2) ((img_eq x).trans ?_)
  obtain ⟨h1, h2, h3, h4, h5⟩ := h
  have a1 := verB_len x.floor
  have a2 := verB_len x.last
  have a3 := intB_len x.gen
  have a4 := entsB_len h4
  have a5 := seensB_len h5
  rw [gVer_eq h1, gVer_eq h2, ne_eq (verB_ne _), ne_eq (verB_ne _), gAs_eq (by omega), apS_eq, gI_eq h3, ne_eq (intB_ne _), gAs_eq (by simp only [List.length_append]; omega), apS_eq,
    gEnts_eq h4, ne_eq (entsB_ne _), gAs_eq (by simp only [List.length_append]; omega), apS_eq, gSeens_eq h5, ne_eq (seensB_ne _), gAs_eq (by simp only [List.length_append]; omega), apS_eq, ne_eq (imgB_ne _)]
  rfl
noncomputable def gImg {R : Type} (l : Image) (k : Image → Option R) : Option R := gC (fun a => decImage (argC a 0)) ImgOk (fun l => [.agg (encImage l)]) [.agg (encImage l)] k
theorem gImg_eq {R : Type} {l : Image} {k : Image → Option R} (h : ImgOk l) : gImg l k = k l := gC_eq l (dec_encImage l) h (.refl _)
noncomputable def kImg : Known := .specB F_lockgateref06_Image (fun a => decImage (argC a 0)) ImgOk (fun l => [.agg (encImage l)]) (fun l => outB (ne (imgB l)))
theorem kImg_ok : kImg.Ok PG := Known.specB_ok img_con

/-! ### messages -/
noncomputable def kns6 : List Known := [kInt', kText, kCat, kBit05, kBit06, kNums, kVer, kOp, kEnt, kMems, kEnts, kViews, kSeens, kImg]
theorem kns6_ok : ∀ k ∈ kns6, k.Ok PG := ak kInt'_ok (ak kText_ok (ak kCat_ok (ak kBit05_ok (ak kBit06_ok (ak kNums_ok (ak kVer_ok (ak kOp_ok (ak kEnt_ok (ak kMems_ok (ak kEnts_ok (ak kViews_ok (ak kSeens_ok (ak kImg_ok ank)))))))))))))
noncomputable def envQ : Env := envB kns6
def msgN (x : Msg) : List Int := [x.kind, x.src, x.dst, x.boot, x.sboot, x.shard, x.epoch, x.gen, x.sess, x.num, x.a, x.code]
def msgB (x : Msg) : List Int := numsB (msgN x) ++ [bitI x.has, bitI x.fresh] ++ textB x.key ++ textB x.val ++ verB x.ver ++ verB x.floor ++ opB x.op ++ entsB x.entries ++ memsB x.chain ++ viewsB x.views ++ imgB x.image
/-- an append, and what follows it -/
def pA {R : Type} (x : Nat × (Nat → List AV)) (p : List Int) (k : Nat × (Nat → List AV) → Option R) : Option R := gAs x p (k (apS x p))
def pQ {R : Type} (x : Nat × (Nat → List AV)) (p : List Int) (k : Nat × (Nat → List AV) → Option R) : Option R := gAq x p (k (apL x p))
theorem pA_eq {R : Type} {l p : List Int} {k : Nat × (Nat → List AV) → Option R} (h : l.length + p.length ≤ 1000000000) : pA (oS l) p k = k (oS (l ++ p)) := by
  unfold pA; rw [gAs_eq h, apS_eq]
theorem pQ_eq {R : Type} {l p : List Int} {k : Nat × (Nat → List AV) → Option R} (h : l.length + p.length ≤ 1000000000) : pQ (oS l) p k = k (oS (l ++ p)) := by
  unfold pQ; rw [gAq_eq h, apL_eq]
theorem msg_eq (x : Msg) : callH envQ 2 F_lockgateref06_Msg [.agg (encMsg x)] [] =
    gNums (msgN x) fun y0 => gBit x.has fun y1 => gBit x.fresh fun y2 => pQ (oS (ne (numsB y0))) [bitI y1, bitI y2] fun s =>
    gT x.key fun y => pA s (ne (textB y)) fun s =>
    gT x.val fun y => pA s (ne (textB y)) fun s =>
    gVer x.ver fun y => pA s (ne (verB y)) fun s =>
    gVer x.floor fun y => pA s (ne (verB y)) fun s =>
    gOp x.op fun y => pA s (ne (opB y)) fun s =>
    gEnts x.entries fun y => pA s (ne (entsB y)) fun s =>
    gMems x.chain fun y => pA s (ne (memsB y)) fun s =>
    gViews x.views fun y => pA s (ne (viewsB y)) fun s =>
    gImg x.image fun y => pA s (ne (imgB y)) fun s =>
    some (outX s) := by kernel_rfl
def MsgOk (x : Msg) : Prop := (∀ n ∈ msgN x, I64 n) ∧ x.key.length ≤ 2000 ∧ x.val.length ≤ 2000 ∧ VInt x.ver ∧ VInt x.floor ∧ OpOk' x.op ∧ EntsOk x.entries ∧ MemsOk x.chain ∧ ViewsOk x.views ∧ ImgOk x.image
theorem msgB_ne (x : Msg) : msgB x ≠ [] := by simp [msgB, verB_ne]
theorem msg_con (x : Msg) (h : MsgOk x) : Contract PG F_lockgateref06_Msg [.agg (encMsg x)] [] (outB (ne (msgB x))).1 (outB (ne (msgB x))).2 := by
  refine conB kns6_ok (n := 2) ((msg_eq x).trans ?_)
  obtain ⟨h0, h1, h2, h3, h4, h5, h6, h7, h8, h9⟩ := h
  have a0 := numsB_len (msgN x)
  have a1 := textB_len x.key
  have a2 := textB_len x.val
  have a3 := verB_len x.ver
  have a4 := verB_len x.floor
  have a5 := opB_len h5
  have a6 := entsB_len h6
  have a7 := memsB_len h7
  have a7' := h7.1
  have a8 := viewsB_len h8
  have a9 := imgB_len h9
  have a0' : (msgN x).length = 12 := rfl
  rw [gNums_eq ⟨by simp [LB, a0'], by simp [msgN], h0⟩, gBit_eq, gBit_eq, ne_eq (numsB_ne (by simp [msgN])), pQ_eq (by simp only [List.length_cons, List.length_nil]; omega),
    gT_eq (LB2 h1), ne_eq (textB_ne _), pA_eq (by simp only [List.length_append, List.length_cons, List.length_nil]; omega),
    gT_eq (LB2 h2), ne_eq (textB_ne _), pA_eq (by simp only [List.length_append, List.length_cons, List.length_nil]; omega),
    gVer_eq h3, ne_eq (verB_ne _), pA_eq (by simp only [List.length_append, List.length_cons, List.length_nil]; omega),
    gVer_eq h4, ne_eq (verB_ne _), pA_eq (by simp only [List.length_append, List.length_cons, List.length_nil]; omega),
    gOp_eq h5, ne_eq (opB_ne _), pA_eq (by simp only [List.length_append, List.length_cons, List.length_nil]; omega),
    gEnts_eq h6, ne_eq (entsB_ne _), pA_eq (by simp only [List.length_append, List.length_cons, List.length_nil]; omega),
    gMems_eq h7, ne_eq (memsB_ne _), pA_eq (by simp only [List.length_append, List.length_cons, List.length_nil]; omega),
    gViews_eq h8, ne_eq (viewsB_ne _), pA_eq (by simp only [List.length_append, List.length_cons, List.length_nil]; omega),
    gImg_eq h9, ne_eq (imgB_ne _), pA_eq (by simp only [List.length_append, List.length_cons, List.length_nil]; omega), ne_eq (msgB_ne _)]
  rfl
theorem msgB_len {x : Msg} (h : MsgOk x) : (msgB x).length ≤ 700000000 := by
  obtain ⟨h0, h1, h2, h3, h4, h5, h6, h7, h8, h9⟩ := h
  have a0 := numsB_len (msgN x)
  have a1 := textB_len x.key
  have a2 := textB_len x.val
  have a3 := verB_len x.ver
  have a4 := verB_len x.floor
  have a5 := opB_len h5
  have a6 := entsB_len h6
  have a7 := memsB_len h7
  have a7' := h7.1
  have a8 := viewsB_len h8
  have a9 := imgB_len h9
  have a0' : (msgN x).length = 12 := rfl
  simp only [msgB, List.length_append, List.length_cons, List.length_nil]; omega
noncomputable def kMsg : Known := .specB F_lockgateref06_Msg (fun a => decMsg (argC a 0)) MsgOk (fun l => [.agg (encMsg l)]) (fun l => outB (ne (msgB l)))
theorem kMsg_ok : kMsg.Ok PG := Known.specB_ok msg_con
noncomputable def gMsg {R : Type} (l : Msg) (k : Msg → Option R) : Option R := gC (fun a => decMsg (argC a 0)) MsgOk (fun l => [.agg (encMsg l)]) [.agg (encMsg l)] k
theorem gMsg_eq {R : Type} {l : Msg} {k : Msg → Option R} (h : MsgOk l) : gMsg l k = k l := gC_eq l (dec_encMsg l) h (.refl _)
end Go.Wk
end

section
/- Messages held against themselves. -/
open Go Go.AM Go.Md
namespace Go.Wk
set_option maxRecDepth 100000
set_option maxHeartbeats 2000000
theorem wrapB {i : Nat} (h : i < 1000000000) : IntKind.i64.wrap ((i : Int) + 1) = ((i + 1 : Nat) : Int) := wrap64 (by omega)
theorem scan_loopB {n : Nat} (hn : n ≤ 1000000000) {G : Nat → Int → Option AV} {C : Nat → Bool}
    (hs : ∀ m (i : Int), G (m + 1) i = bif decide (i < (n : Int)) then rg i n <| rg i n <|
      bif !(C i.toNat) then some (.bool false) else G m (IntKind.i64.wrap (i + 1)) else some (.bool true))
    (hC : ∀ i, i < n → C i = true) {m : Nat} (hm : n < m) : G m 0 = some (.bool true) := by
  refine up_loop (n := n) (fun i m => G m (i : Int) = some (.bool true)) (fun m => ?_) (fun i m hi ih => ?_) 0 m (Nat.zero_le _) (by omega)
  · rw [hs, dec_nat, decide_eq_false (by omega), cond_false]
  · rw [hs, dec_nat, decide_eq_true hi]
    simp only [cond_true, rg_eq hi, Int.toNat_natCast, hC i hi, Bool.not_true, cond_false]
    rw [wrapB (by omega)]; exact ih
def SSb (a : List Int) (i : Int) : St := { fr := [(0, encBy a), (1, encBy a), (5, .int .i64 i)], hp := [] }
theorem same03_in (N : Nat) (x : List Int) : callT env0 (N + 1) F_lockgateref03_Same [encBy x, encBy x] = bif !decide ((x.length : Int) = (x.length : Int)) then some (.bool false) else LP env0 N 0 F_lockgateref03_Same snK 0 [] N (SSb x 0) := by kernel_rfl
theorem same03_step (N : Nat) (a : List Int) (m : Nat) (i : Int) : LP env0 N 0 F_lockgateref03_Same snK 0 [] (m + 1) (SSb a i) =
    bif decide (i < (a.length : Int)) then rg i a.length <| rg i a.length <|
      bif !(decide (a.getD i.toNat 0 = a.getD i.toNat 0)) then some (.bool false) else LP env0 N 0 F_lockgateref03_Same snK 0 [] m (SSb a (IntKind.i64.wrap (i + 1))) else some (.bool true) := by kernel_rfl
theorem same03_con (a : List Int) (h : a.length ≤ 1000000000) : Contract PG F_lockgateref03_Same [encBy a, encBy a] [] (.bool true) [] := by
  refine con0 ((same03_in (a.length + 1) a).trans ?_)
  rw [decide_eq_true rfl]
  exact scan_loopB (G := fun m i => LP env0 (a.length + 1) 0 F_lockgateref03_Same snK 0 [] m (SSb a i)) (C := fun i => decide (a.getD i 0 = a.getD i 0)) h (same03_step _ a) (fun i hi => by simp) (by omega)
noncomputable def kSame03 : Known := .spec F_lockgateref03_Same (dL decB) (fun a => a.length ≤ 1000000000) (fun l => [encBy l, encBy l]) (fun _ => .bool true)
theorem kSame03_ok : kSame03.Ok PG := Known.spec_ok same03_con
noncomputable def gSame03 {R : Type} (a b : List Int) (k : List Int → Option R) : Option R := gC (dL decB) (fun a => a.length ≤ 1000000000) (fun l => [encBy l, encBy l]) [encBy a, encBy b] k
theorem gSame03_eq {R : Type} {a : List Int} {k : List Int → Option R} (h : a.length ≤ 1000000000) : gSame03 a a k = k a := gC_eq a (decBy a) h (.refl _)

end Go.Wk
end

section
/- Groups of seven bits, by the program. -/
open Go Go.AM Go.Md
namespace Go.Wk
set_option maxRecDepth 100000
set_option maxHeartbeats 400000
def SGr (b : List Int) (i m sh : Int) : St := { fr := [(0, encBy b), (1, .int .i64 i), (7, .int .u64 m), (8, .int .u64 sh)], hp := [] }
def orE (m c : Int) (w : Int) : Int := IntKind.u64.wrap ((BitVec.ofInt 64 m ||| BitVec.ofInt 64 (IntKind.u64.wrap (IntKind.u64.wrap (IntKind.u8.wrap ((BitVec.ofInt 8 c &&& BitVec.ofInt 8 127).toNat : Int)) * w))).toNat : Int)
noncomputable def JG (N l j : Nat) (s : St) : Option AV := JP env0 N 0 F_wire_groups snK l j s
def tG (p : PR Int) : AV := .tup [.int .u64 p.1, .int .i64 p.2.1, .bool p.2.2]
theorem grp_no (N j : Nat) : JG N 0 (j + 1) { fr := [], hp := [] } = some (tG (0, 0, false)) := by kernel_rfl
theorem grp_yes (N j : Nat) (i m : Int) : JG N 2 (j + 1) { fr := [(1, .int .i64 i), (7, .int .u64 m)], hp := [] } = some (tG (m, i, true)) := by kernel_rfl
theorem grp_in (N : Nat) (b : List Int) (i : Int) : callT env0 (N + 1) F_wire_groups [encBy b, .int .i64 i] =
    bif decide (i < 0) then JG N 0 N { fr := [], hp := [] } else bif decide ((b.length : Int) ≤ i) then JG N 0 N { fr := [], hp := [] } else rg i b.length <|
      bif decide (b.getD i.toNat 0 < 128) then JG N 2 N { fr := [(1, .int .i64 (IntKind.i64.wrap (i + 1))), (7, .int .u64 (orE 0 (b.getD i.toNat 0) 1))], hp := [] }
      else JG N 1 N (SGr b (IntKind.i64.wrap (i + 1)) (orE 0 (b.getD i.toNat 0) 1) 7) := by kernel_rfl
noncomputable def grK (N j : Nat) (b : List Int) (i m sh : Int) : Option AV := bif decide (sh < 0) then none else bif decide (b.getD i.toNat 0 < 128) then JG N 2 j { fr := [(1, .int .i64 (IntKind.i64.wrap (i + 1))), (7, .int .u64 (orE m (b.getD i.toNat 0) (2 ^ min sh.toNat 64)))], hp := [] }
  else JG N 1 j (SGr b (IntKind.i64.wrap (i + 1)) (orE m (b.getD i.toNat 0) (2 ^ min sh.toNat 64)) (IntKind.u64.wrap (sh + 7)))
noncomputable def grL (N j : Nat) (b : List Int) (i m sh : Int) : Option AV := bif decide (sh = 63) then bif decide (1 < b.getD i.toNat 0) then JG N 0 j { fr := [], hp := [] } else grK N j b i m sh else grK N j b i m sh
theorem grp_step (N j : Nat) (b : List Int) (i m sh : Int) : JG N 1 (j + 1) (SGr b i m sh) =
    bif decide ((b.length : Int) ≤ i) then JG N 0 j { fr := [], hp := [] } else rg i b.length <|
      bif decide (0 < sh) then bif decide (b.getD i.toNat 0 = 0) then JG N 0 j { fr := [], hp := [] } else grL N j b i m sh else grL N j b i m sh := by kernel_rfl
/-- groups behind the first one, so many at most, from the weight 2^(7t) on -/
def grpG : Nat → List Int → Nat → Int → Nat → PR Int
  | 0, _, _, _, _ => (0, 0, false)
  | k + 1, b, i, m, t => bif decide (b.length ≤ i) then (0, 0, false) else bif decide (b.getD i 0 = 0) then (0, 0, false) else bif decide (t = 9) && decide (1 < b.getD i 0) then (0, 0, false) else
    bif decide (b.getD i 0 < 128) then (orE m (b.getD i 0) (2 ^ (7 * t)), ((i + 1 : Nat) : Int), true) else grpG k b (i + 1) (orE m (b.getD i 0) (2 ^ (7 * t))) (t + 1)
def grpP (b : List Int) (i : Nat) : PR Int := bif decide (b.length ≤ i) then (0, 0, false) else bif decide (b.getD i 0 < 128) then (orE 0 (b.getD i 0) 1, ((i + 1 : Nat) : Int), true) else grpG 9 b (i + 1) (orE 0 (b.getD i 0) 1) 1
theorem grp_run {N : Nat} {b : List Int} (hb : b.length ≤ 1000000) : ∀ k t i m j, k + t = 10 → 1 ≤ t → t ≤ 9 → k + 1 < j → JG N 1 j (SGr b (i : Nat) m ((7 * t : Nat) : Int)) = some (tG (grpG k b i m t)) := by
  intro k
  induction k with
  | zero => intro t i m j hk ht h9 hj; omega
  | succ k ih =>
    intro t i m j hk ht h9 hj
    obtain ⟨j, rfl⟩ : ∃ n, j = n + 2 := ⟨j - 2, by omega⟩
    rw [grp_step, decide_eq_true (by omega : (0 : Int) < ((7 * t : Nat) : Int)), cond_true]
    unfold grpG
    by_cases h1 : b.length ≤ i
    · rw [decide_eq_true (by omega : (b.length : Int) ≤ (i : Int)), decide_eq_true h1, cond_true, cond_true, grp_no]
    · rw [decide_eq_false (by omega : ¬ (b.length : Int) ≤ (i : Int)), decide_eq_false h1, cond_false, cond_false, rg_eq (by omega), Int.toNat_natCast]
      cases h2 : decide (b.getD i 0 = 0) with
      | true => rw [cond_true, cond_true, grp_no]
      | false =>
        rw [cond_false, cond_false]
        unfold grL grK
        have e9 : decide (((7 * t : Nat) : Int) = 63) = decide (t = 9) := decide_eq_decide.2 (by omega)
        have em : min ((7 * t : Nat) : Int).toNat 64 = 7 * t := by rw [Int.toNat_natCast]; omega
        have e7 : IntKind.u64.wrap (((7 * t : Nat) : Int) + 7) = ((7 * (t + 1) : Nat) : Int) := by rw [wrapu64 (by omega)]; omega
        rw [Int.toNat_natCast, e9, em, e7, decide_eq_false (by omega : ¬ ((7 * t : Nat) : Int) < 0), cond_false, wrapS (by omega), grp_yes, grp_no]
        by_cases ht9 : t = 9
        · rw [decide_eq_true ht9, cond_true, Bool.true_and]
          by_cases hc : 1 < b.getD i 0
          · rw [decide_eq_true hc]; rfl
          · rw [decide_eq_false hc, cond_false, cond_false, decide_eq_true (by omega : b.getD i 0 < 128), cond_true, cond_true]
        · rw [decide_eq_false ht9, cond_false, Bool.false_and, cond_false]
          cases decide (b.getD i 0 < 128) with
          | true => rfl
          | false =>
            rw [cond_false, cond_false]
            exact ih (t + 1) (i + 1) _ (j + 1) (by omega) (by omega) (by omega) (by omega)
/-- bytes, and a place in them -/
structure BA where
  b : List Int
  i : Nat
def BytesOk (b : List Int) : Prop := b.length ≤ 100000 ∧ ∀ x ∈ b, 0 ≤ x ∧ x ≤ 255
def pBA (x : BA) : Prop := BytesOk x.b ∧ x.i ≤ x.b.length
def eBA (x : BA) : List AV := [encBy x.b, .int .i64 x.i]
def dBA (a : List AV) : BA := ⟨decL decB (a.getD 0 .nils), (getI a 1).toNat⟩
theorem dec_eBA (x : BA) : dBA (eBA x) = x := by
  show (⟨decL decB (encBy x.b), x.i⟩ : BA) = x
  rw [decBy]
theorem qBA {R : Type} {P : BA → Prop} {b : List Int} {i : Nat} {K : BA → Option R} (h : P ⟨b, i⟩) : gC dBA P eBA [encBy b, .int .i64 (i : Int)] K = K ⟨b, i⟩ := gC_eq (⟨b, i⟩ : BA) (dec_eBA ⟨b, i⟩) h (.refl _)
theorem grp_con (x : BA) (h : pBA x) : Contract PG F_wire_groups (eBA x) [] (tG (grpP x.b x.i)) [] := by
  obtain ⟨b, i⟩ := x
  obtain ⟨⟨hb, _⟩, hi⟩ := h
  have hb : b.length ≤ 100000 := hb
  have e := grp_in 12 b i
  rw [decide_eq_false (by omega : ¬ (i : Int) < 0), cond_false, grp_no, grp_yes] at e
  unfold grpP
  by_cases h1 : b.length ≤ i
  · rw [decide_eq_true (by omega : (b.length : Int) ≤ (i : Int)), cond_true] at e
    rw [decide_eq_true h1]
    exact con0 e
  · rw [decide_eq_false (by omega : ¬ (b.length : Int) ≤ (i : Int)), cond_false, rg_eq (by omega), Int.toNat_natCast, wrapS (by omega)] at e
    rw [decide_eq_false h1, cond_false]
    cases hc : decide (b.getD i 0 < 128) with
    | true => rw [hc] at e; exact con0 e
    | false =>
      rw [hc, cond_false] at e
      have r := grp_run (N := 12) (b := b) (by omega) 9 1 (i + 1) (orE 0 (b.getD i 0) 1) 12 (by omega) (by omega) (by omega) (by omega)
      exact con0 (e.trans r)
noncomputable def kGrp : Known := .spec F_wire_groups dBA pBA eBA (fun x => tG (grpP x.b x.i))
theorem kGrp_ok : kGrp.Ok PG := Known.spec_ok grp_con
end Go.Wk
end

section
/- Numbers, truths, read by the program. -/
open Go Go.AM Go.Md
namespace Go.Wk
set_option maxRecDepth 100000
set_option maxHeartbeats 400000
noncomputable def env1 : Env := envO [kGrp]
theorem con1 {n f : Nat} {xs : List AV} {r : AV} (e : callT env1 n f xs = some r) : Contract PG f xs [] r [] := con_of (md := fun _ => none) (ak kGrp_ok ank) e
def oddE (m : Int) : Bool := decide (IntKind.u64.wrap ((BitVec.ofInt IntKind.u64.bits m &&& BitVec.ofInt IntKind.u64.bits 1).toNat : Int) = 1)
def zagE (m : Int) : Int := bif oddE m then IntKind.i64.wrap (IntKind.i64.wrap (0 - IntKind.i64.wrap (m.fdiv 2)) - 1) else IntKind.i64.wrap (m.fdiv 2)
def gIntN (b : List Int) (i : Nat) : PR Int := bif (grpP b i).2.2 then (zagE (grpP b i).1, (grpP b i).2.1, true) else (0, 0, false)
def gIntP (b : List Int) (a : Int) : PR Int := gIntN b a.toNat
def tI (p : PR Int) : AV := .tup [.int .i64 p.1, .int .i64 p.2.1, .bool p.2.2]
theorem gint (b : List Int) (i : Int) : callT env1 5 F_wire_GetInt [encBy b, .int .i64 i] = gC dBA pBA eBA [encBy b, .int .i64 i] fun y =>
    bif !(grpP y.b y.i).2.2 then some (tI (0, 0, false)) else bif oddE (grpP y.b y.i).1 then some (tI (IntKind.i64.wrap (IntKind.i64.wrap (0 - IntKind.i64.wrap ((grpP y.b y.i).1.fdiv 2)) - 1), (grpP y.b y.i).2.1, true))
    else some (tI (IntKind.i64.wrap ((grpP y.b y.i).1.fdiv 2), (grpP y.b y.i).2.1, true)) := by kernel_rfl
theorem gint_con (x : BA) (h : pBA x) : Contract PG F_wire_GetInt (eBA x) [] (tI (gIntP x.b x.i)) [] := by
  obtain ⟨b, i⟩ := x
  have e := gint b i
  rw [qBA h] at e
  simp only [] at e
  unfold gIntP gIntN zagE
  simp only [Int.toNat_natCast]
  revert e
  cases (grpP b i).2.2 with
  | false => exact fun e => con1 e
  | true => cases oddE (grpP b i).1 <;> exact fun e => con1 e
noncomputable def kGI : Known := .spec F_wire_GetInt dBA pBA eBA (fun x => tI (gIntP x.b x.i))
theorem kGI_ok : kGI.Ok PG := Known.spec_ok gint_con
def tB (p : PR Bool) : AV := .tup [.bool p.1, .int .i64 p.2.1, .bool p.2.2]
theorem gbool (b : List Int) (i : Int) : callT env0 5 F_wire_GetBool [encBy b, .int .i64 i] =
    bif decide (i < 0) then some (tB (false, 0, false)) else bif decide ((b.length : Int) ≤ i) then some (tB (false, 0, false)) else rg i b.length <|
      bif decide (1 < b.getD i.toNat 0) then some (tB (false, 0, false)) else rg i b.length <| some (tB (decide (b.getD i.toNat 0 = 1), IntKind.i64.wrap (i + 1), true)) := by kernel_rfl
theorem gbool_con (x : BA) (h : pBA x) : Contract PG F_wire_GetBool (eBA x) [] (tB (gBoolP x.b x.i)) [] := by
  obtain ⟨b, i⟩ := x
  obtain ⟨⟨hb, _⟩, hi⟩ := h
  have hb : b.length ≤ 100000 := hb
  have e := gbool b i
  rw [decide_eq_false (by omega : ¬ (i : Int) < 0), cond_false] at e
  unfold gBoolP
  simp only [decide_eq_false (by omega : ¬ (i : Int) < 0), cond_false]
  by_cases h1 : b.length ≤ i
  · rw [decide_eq_true (by omega : (b.length : Int) ≤ (i : Int)), cond_true] at e
    rw [decide_eq_true (by omega : (b.length : Int) ≤ (i : Int))]
    exact con0 e
  · rw [decide_eq_false (by omega : ¬ (b.length : Int) ≤ (i : Int)), cond_false, rg_eq (by omega), rg_eq (by omega), wrapS (by omega)] at e
    rw [decide_eq_false (by omega : ¬ (b.length : Int) ≤ (i : Int)), cond_false]
    revert e
    cases decide (1 < b.getD ((i : Int).toNat) 0) <;> exact fun e => con0 e
noncomputable def kGB : Known := .spec F_wire_GetBool dBA pBA eBA (fun x => tB (gBoolP x.b x.i))
theorem kGB_ok : kGB.Ok PG := Known.spec_ok gbool_con
noncomputable def env2 : Env := envO [kGI]
theorem con2 {n f : Nat} {xs : List AV} {r : AV} (e : callT env2 n f xs = some r) : Contract PG f xs [] r [] := con_of (md := fun _ => none) (ak kGI_ok ank) e
end Go.Wk
end

section
/- Texts, versions, members, read by the program. -/
open Go Go.AM Go.Md
namespace Go.Wk
set_option maxRecDepth 100000
set_option maxHeartbeats 400000
/-- what a reader reads, and what is done behind it -/
noncomputable def gR {X : Type} (g : Rd X) (b : List Int) (i : Int) (Z : Option AV) (K : X → Int → Option AV) : Option AV := gC dBA pBA eBA [encBy b, .int .i64 i] fun y => bif !(g y.b (y.i : Int)).2.2 then Z else K (g y.b (y.i : Int)).1 (g y.b (y.i : Int)).2.1
/-- a reader that stays in the bytes -/
def RdOk {X : Type} (g : Rd X) (b : List Int) : Prop := ∀ i : Nat, i ≤ b.length → (g b (i : Int)).2.2 = true → ∃ j : Nat, (g b (i : Int)).2.1 = (j : Int) ∧ j ≤ b.length
theorem gR_eq {X Y : Type} {g : Rd X} {b : List Int} {i : Nat} {Z : Option AV} {K : X → Int → Option AV} {T : PR Y → AV} {z : Y} {f : X → Int → PR Y} (hb : BytesOk b) (hi : i ≤ b.length) (hg : RdOk g b) (hZ : Z = some (T (z, 0, false)))
    (hK : ∀ x (j : Nat), j ≤ b.length → K x (j : Int) = some (T (f x (j : Int)))) : gR g b (i : Int) Z K = some (T (pb z (g b (i : Int)) f)) := by
  unfold gR pb
  rw [qBA (P := pBA) ⟨hb, hi⟩]
  simp only []
  cases h : (g b (i : Int)).2.2 with
  | false => exact hZ
  | true =>
    obtain ⟨j, h1, h2⟩ := hg i hi h
    rw [h1]
    exact hK _ j h2
/-! ### what the numbers are -/
theorem wrap64_in (x : Int) : I64 (IntKind.i64.wrap x) := by
  unfold I64
  simp [IntKind.wrap, IntKind.signed, IntKind.bits, Int.bmod]
  omega
theorem zag_in (m : Int) : I64 (zagE m) := by
  unfold zagE
  cases oddE m <;> exact wrap64_in _
theorem grpG_at {b : List Int} : ∀ k i m t, (grpG k b i m t).2.2 = true → ∃ j : Nat, (grpG k b i m t).2.1 = (j : Int) ∧ i < j ∧ j ≤ b.length
  | 0, i, m, t, h => by cases h
  | k + 1, i, m, t, h => by
    unfold grpG at h ⊢
    by_cases h1 : b.length ≤ i
    · rw [decide_eq_true h1] at h; cases h
    · rw [decide_eq_false h1] at h ⊢
      simp only [cond_false] at h ⊢
      cases h2 : decide (b.getD i 0 = 0) with
      | true => rw [h2] at h; cases h
      | false =>
        rw [h2] at h
        simp only [cond_false] at h ⊢
        cases h3 : decide (t = 9) && decide (1 < b.getD i 0) with
        | true => rw [h3] at h; cases h
        | false =>
          rw [h3] at h
          simp only [cond_false] at h ⊢
          cases h4 : decide (b.getD i 0 < 128) with
          | true => exact ⟨i + 1, rfl, by omega, by omega⟩
          | false =>
            rw [h4] at h
            obtain ⟨j, e1, e2, e3⟩ := grpG_at k (i + 1) _ _ h
            exact ⟨j, e1, by omega, e3⟩
theorem grpP_at {b : List Int} {i : Nat} (h : (grpP b i).2.2 = true) : ∃ j : Nat, (grpP b i).2.1 = (j : Int) ∧ i < j ∧ j ≤ b.length := by
  unfold grpP at h ⊢
  by_cases h1 : b.length ≤ i
  · rw [decide_eq_true h1] at h; cases h
  · rw [decide_eq_false h1] at h ⊢
    simp only [cond_false] at h ⊢
    cases h4 : decide (b.getD i 0 < 128) with
    | true => exact ⟨i + 1, rfl, by omega, by omega⟩
    | false =>
      rw [h4] at h
      obtain ⟨j, e1, e2, e3⟩ := grpG_at 9 (i + 1) _ _ h
      exact ⟨j, e1, by omega, e3⟩
theorem gInt_at {b : List Int} {i : Nat} (h : (gIntP b (i : Int)).2.2 = true) : ∃ j : Nat, (gIntP b (i : Int)).2.1 = (j : Int) ∧ i < j ∧ j ≤ b.length := by
  unfold gIntP gIntN at h ⊢
  rw [Int.toNat_natCast] at h ⊢
  cases hg : (grpP b i).2.2 with
  | false => rw [hg] at h; cases h
  | true => exact grpP_at hg
theorem gInt_rd (b : List Int) : RdOk gIntP b := fun i _ h => by
  obtain ⟨j, h1, _, h3⟩ := gInt_at h
  exact ⟨j, h1, h3⟩
theorem gInt_in (b : List Int) (a : Int) : I64 (gIntP b a).1 := by
  unfold gIntP gIntN
  cases (grpP b a.toNat).2.2 with
  | false => show I64 0; unfold I64; omega
  | true => exact zag_in _
theorem gBool_rd (b : List Int) : RdOk gBoolP b := fun i hi h => by
  unfold gBoolP at h ⊢
  rw [decide_eq_false (by omega : ¬ (i : Int) < 0)] at h ⊢
  simp only [cond_false] at h ⊢
  by_cases h1 : (b.length : Int) ≤ (i : Int)
  · rw [decide_eq_true h1] at h; cases h
  · rw [decide_eq_false h1] at h ⊢
    simp only [cond_false] at h ⊢
    cases h2 : decide (1 < b.getD ((i : Int).toNat) 0) with
    | true => rw [h2] at h; cases h
    | false => exact ⟨i + 1, rfl, by omega⟩
/-- readers one behind the other -/
theorem pb_rd {X Y : Type} {g : Rd X} {b : List Int} {z : Y} {f : X → Int → PR Y} {i : Nat} (hi : i ≤ b.length) (hg : RdOk g b) (hf : ∀ x (j : Nat), j ≤ b.length → (f x (j : Int)).2.2 = true → ∃ k : Nat, (f x (j : Int)).2.1 = (k : Int) ∧ k ≤ b.length) :
    (pb z (g b (i : Int)) f).2.2 = true → ∃ k : Nat, (pb z (g b (i : Int)) f).2.1 = (k : Int) ∧ k ≤ b.length := by
  intro h
  unfold pb at h ⊢
  cases hp : (g b (i : Int)).2.2 with
  | false => rw [hp] at h; cases h
  | true =>
    rw [hp] at h
    obtain ⟨j, h1, h2⟩ := hg i hi hp
    rw [h1] at h ⊢
    exact hf _ j h2 h
theorem fin_rd {X : Type} {b : List Int} {x : X} {j : Nat} (h : j ≤ b.length) : ((x, (j : Int), true) : PR X).2.2 = true → ∃ k : Nat, ((x, (j : Int), true) : PR X).2.1 = (k : Int) ∧ k ≤ b.length := fun _ => ⟨j, rfl, h⟩
/-! ### texts -/
theorem bytes_sub {b : List Int} {l n : Nat} (h : l + n ≤ b.length) : bytesOfL ((List.range n).map fun i => bif Nat.blt i n then encB (b.getD (l + i) 0) else encB (b.getD b.length 0)) = some (strP ((b.drop l).take n)) := by
  have e : ((List.range n).map fun i => bif Nat.blt i n then encB (b.getD (l + i) 0) else encB (b.getD b.length 0)) = ((b.drop l).take n).map encB := by
    refine List.ext_getElem (by simp; omega) fun i h1 h2 => ?_
    have hi : i < n := by simpa using h1
    have hl : l + i < b.length := by omega
    simp [blt_true hi, List.getD, List.getElem?_eq_getElem hl]
  rw [e]
  generalize (b.drop l).take n = c
  unfold strP
  induction c with
  | nil => rfl
  | cons a c ih =>
    rw [List.map_cons, List.map_cons, bytesOfL, ih]
    rfl
def tS (p : PR (List UInt8)) : AV := .tup [.str p.1, .int .i64 p.2.1, .bool p.2.2]
theorem gtext (b : List Int) (i : Int) : callT env2 5 F_wire_GetText [encBy b, .int .i64 i] = gR gIntP b i (some (tS ([], 0, false))) fun n a =>
    bif decide (n < 0) then some (tS ([], 0, false)) else bif decide (65536 < n) then some (tS ([], 0, false)) else bif decide (IntKind.i64.wrap ((b.length : Int) - a) < n) then some (tS ([], 0, false)) else
    bif decide (0 ≤ IntKind.i64.wrap (a + n)) && decide (IntKind.i64.wrap (a + n) ≤ (b.length : Int)) then bif decide (0 ≤ a) && decide (a ≤ ((IntKind.i64.wrap (a + n)).toNat : Int)) then
      onK (bytesOfL ((List.range ((IntKind.i64.wrap (a + n)).toNat - a.toNat)).map fun i => bif Nat.blt i ((IntKind.i64.wrap (a + n)).toNat - a.toNat) then encB (b.getD (a.toNat + i) 0) else encB (b.getD b.length 0))) fun s => some (tS (s, IntKind.i64.wrap (a + n), true))
    else none else none := by kernel_rfl
theorem gtext_con (x : BA) (h : pBA x) : Contract PG F_wire_GetText (eBA x) [] (tS (gTextP gIntP x.b x.i)) [] := by
  obtain ⟨b, i⟩ := x
  have hb : b.length ≤ 100000 := h.1.1
  refine con2 ((gtext b i).trans (gR_eq (T := tS) (f := fun n a => bif decide (n < 0) || (decide (65536 < n) || decide ((b.length : Int) - a < n)) then ([], 0, false) else (strP ((b.drop a.toNat).take n.toNat), a + n, true)) h.1 h.2 (gInt_rd b) rfl fun n j hj => ?_))
  have e1 : IntKind.i64.wrap ((b.length : Int) - (j : Int)) = (b.length : Int) - (j : Int) := wrap64 (by omega)
  rw [e1]
  by_cases h1 : n < 0
  · rw [decide_eq_true h1]; rfl
  · by_cases h2 : 65536 < n
    · rw [decide_eq_false h1, decide_eq_true h2]; rfl
    · by_cases h3 : (b.length : Int) - (j : Int) < n
      · rw [decide_eq_false h1, decide_eq_false h2, decide_eq_true h3]; rfl
      · have e2 : IntKind.i64.wrap ((j : Int) + n) = (j : Int) + n := wrap64 (by omega)
        have e3 : ((j : Int) + n).toNat - ((j : Int)).toNat = n.toNat := by omega
        rw [decide_eq_false h1, decide_eq_false h2, decide_eq_false h3, e2, e3, decide_eq_true (by omega : 0 ≤ (j : Int) + n), decide_eq_true (by omega : (j : Int) + n ≤ b.length), decide_eq_true (by omega : (0 : Int) ≤ (j : Int)), decide_eq_true (by omega : (j : Int) ≤ (((j : Int) + n).toNat : Int)), Int.toNat_natCast, bytes_sub (by omega)]
        rfl
noncomputable def kGT : Known := .spec F_wire_GetText dBA pBA eBA (fun x => tS (gTextP gIntP x.b x.i))
theorem kGT_ok : kGT.Ok PG := Known.spec_ok gtext_con
theorem gText_rd (b : List Int) : RdOk (gTextP gIntP) b := fun i hi => pb_rd hi (gInt_rd b) fun n j hj h => by
  by_cases h1 : n < 0
  · rw [decide_eq_true h1] at h; cases h
  · by_cases h2 : 65536 < n
    · rw [decide_eq_false h1, decide_eq_true h2] at h; cases h
    · by_cases h3 : (b.length : Int) - (j : Int) < n
      · rw [decide_eq_false h1, decide_eq_false h2, decide_eq_true h3] at h; cases h
      · rw [decide_eq_false h1, decide_eq_false h2, decide_eq_false h3]
        exact ⟨((j : Int) + n).toNat, by show (j : Int) + n = _; omega, by omega⟩
/-! ### versions -/
def tV (p : PR Ver) : AV := .tup [eV p.1, .int .i64 p.2.1, .bool p.2.2]
theorem gver (b : List Int) (i : Int) : callT env2 5 F_wire_GetVer [encBy b, .int .i64 i] = gR gIntP b i (some (tV (⟨0, 0⟩, 0, false))) fun e a =>
    bif decide (e < 0) then some (tV (⟨0, 0⟩, 0, false)) else bif decide (1099511627776 < e) then some (tV (⟨0, 0⟩, 0, false)) else gR gIntP b a (some (tV (⟨0, 0⟩, 0, false))) fun n a2 =>
    bif decide (n < 0) then some (tV (⟨0, 0⟩, 0, false)) else bif decide (1099511627776 < n) then some (tV (⟨0, 0⟩, 0, false)) else some (tV (⟨FloatKind.f64.nearest e, FloatKind.f64.nearest n⟩, a2, true)) := by kernel_rfl
theorem gver_con (x : BA) (h : pBA x) : Contract PG F_wire_GetVer (eBA x) [] (tV (gVerP gIntP x.b x.i)) [] := by
  obtain ⟨b, i⟩ := x
  have two : ∀ (c d : Bool) (p q : PR Ver), (bif c then some (tV p) else bif d then some (tV p) else some (tV q)) = some (tV (bif c || d then p else q)) := fun c d p q => by cases c <;> cases d <;> rfl
  refine con2 ((gver b i).trans (gR_eq (T := tV) h.1 h.2 (gInt_rd b) rfl fun e j hj => ?_))
  by_cases h1 : e < 0
  · rw [decide_eq_true h1]; simp only [cond_true, Bool.true_or]
  · by_cases h2 : 1099511627776 < e
    · rw [decide_eq_false h1, decide_eq_true h2]; simp only [cond_true, cond_false, Bool.or_true]
    · rw [decide_eq_false h1, decide_eq_false h2]
      simp only [cond_false, Bool.false_or]
      refine gR_eq (T := tV) h.1 hj (gInt_rd b) rfl fun n k hk => ?_
      rw [two]
      by_cases h3 : n < 0
      · rw [decide_eq_true h3]; simp only [cond_true, Bool.true_or]
      · by_cases h4 : 1099511627776 < n
        · rw [decide_eq_false h3, decide_eq_true h4]; simp only [cond_true, Bool.or_true]
        · rw [decide_eq_false h3, decide_eq_false h4]
          have e1 : FloatKind.f64.nearest e = Fl.fl e.toNat := by rw [← near_fl]; congr 1; omega
          have e2 : FloatKind.f64.nearest n = Fl.fl n.toNat := by rw [← near_fl]; congr 1; omega
          rw [e1, e2]; rfl
noncomputable def kGV : Known := .spec F_wire_GetVer dBA pBA eBA (fun x => tV (gVerP gIntP x.b x.i))
theorem kGV_ok : kGV.Ok PG := Known.spec_ok gver_con
theorem gVer_rd (b : List Int) : RdOk (gVerP gIntP) b := fun i hi => pb_rd hi (gInt_rd b) fun e j hj => by
  cases decide (e < 0) || decide (1099511627776 < e) with
  | true => exact fun h => by cases h
  | false =>
    simp only [cond_false]
    refine pb_rd hj (gInt_rd b) fun n k hk => ?_
    cases decide (n < 0) || decide (1099511627776 < n) with
    | true => exact fun h => by cases h
    | false => exact fun _ => ⟨k, rfl, hk⟩
/-! ### members -/
def tA {X : Type} (e : X → List AV) (p : PR X) : AV := .tup [.agg (e p.1), .int .i64 p.2.1, .bool p.2.2]
theorem gmem (b : List Int) (i : Int) : callT env2 9 F_msg_getMember [encBy b, .int .i64 i] = gR gIntP b i (some (tA encMember (default, 0, false))) fun n a => gR gIntP b a (some (tA encMember (default, 0, false))) fun o a => some (tA encMember (⟨n, o⟩, a, true)) := by kernel_rfl
theorem gmem_con (x : BA) (h : pBA x) : Contract PG F_msg_getMember (eBA x) [] (tA encMember (gMemP gIntP x.b x.i)) [] := by
  obtain ⟨b, i⟩ := x
  exact con2 ((gmem b i).trans (gR_eq (T := tA encMember) h.1 h.2 (gInt_rd b) rfl fun n j hj => gR_eq (T := tA encMember) h.1 hj (gInt_rd b) rfl fun o k hk => rfl))
noncomputable def kGM : Known := .spec F_msg_getMember dBA pBA eBA (fun x => tA encMember (gMemP gIntP x.b x.i))
theorem kGM_ok : kGM.Ok PG := Known.spec_ok gmem_con
theorem gMem_rd (b : List Int) : RdOk (gMemP gIntP) b := fun i hi => pb_rd hi (gInt_rd b) fun n j hj => pb_rd hj (gInt_rd b) fun o k hk => fin_rd hk
end Go.Wk
end

section
/- Lists read by the program: the loop, told once. -/
open Go Go.AM Go.Md
namespace Go.Wk
set_option maxRecDepth 100000
set_option maxHeartbeats 400000
def mdK (f : Nat) : Option Nat := bif nmem f [F_msg_listOf_api_Entry__c1, F_msg_listOf_api_Member__c1, F_msg_listOf_api_View__c1, F_msg_listOf_api_Seen__c1] then some 0 else none
def lvK : List (Nat × Nat × List Nat) := [F_msg_listOf_api_Entry__c1, F_msg_listOf_api_Member__c1, F_msg_listOf_api_View__c1, F_msg_listOf_api_Seen__c1].map fun f => (f, 0, [0, 2, 9, 11, 32, 33, 1000])
noncomputable def envK (l : List Known) : Env := { envM mdK (orcOf l) with live := fun f b => liveOf f b (lvK ++ liveTab) }
theorem conK {l : List Known} (h : ∀ k ∈ l, k.Ok PG) {n f : Nat} {xs : List AV} {r : AV} (e : callT (envK l) n f xs = some r) : Contract PG f xs [] r [] := callT_ok ⟨tt_ok rfl, orc_ok h⟩ (codeOf_ok rfl) mixed e
def SLi (b : List Int) (g : AV) (a : Int) (ls : AV) (c i : Int) (h : Heap) : St := { fr := [(0, encBy b), (2, g), (9, .int .i64 a), (11, ls), (32, .int .i64 c), (33, .int .i64 i), (1000, .undef)], hp := h }
/-- what a reader of a list tells -/
def tL {X : Type} (sz : Nat) (e : X → List AV) (z : X) (p : PR (List X)) : AV := .tup [encL sz e z p.1, .int .i64 p.2.1, .bool p.2.2]
def noL : AV := .tup [.nils, .int .i64 0, .bool false]
theorem noL_sub {X : Type} {sz : Nat} {e : X → List AV} {z : X} : SubV noL (tL sz e z ([], 0, false)) := .tup (.cons .nils (.refl _))
theorem gR_sub {X Y : Type} {g : Rd X} {b : List Int} {i : Nat} {Z : Option AV} {K : X → Int → Option AV} {T : PR Y → AV} {z : Y} {f : X → Int → PR Y} (hb : BytesOk b) (hi : i ≤ b.length) (hg : RdOk g b) (hZ : ∃ v, Z = some v ∧ SubV v (T (z, 0, false)))
    (hK : ∀ x (j : Nat), j ≤ b.length → ∃ v, K x (j : Int) = some v ∧ SubV v (T (f x (j : Int)))) : ∃ v, gR g b (i : Int) Z K = some v ∧ SubV v (T (pb z (g b (i : Int)) f)) := by
  unfold gR pb
  rw [qBA (P := pBA) ⟨hb, hi⟩]
  simp only []
  cases h : (g b (i : Int)).2.2 with
  | false => exact hZ
  | true =>
    obtain ⟨j, h1, h2⟩ := hg i hi h
    rw [h1]
    exact hK _ j h2
/-- a reader's loop, as the machine has it -/
structure LoopR {X : Type} (sz bw : Nat) (e : X → List AV) (z : X) (g : Rd X) (gv : AV) (L : Nat → St → Option AV) : Prop where
  h0 : ∀ (j : Nat) (b : List Int) (a c i : Int), L (j + 1) (SLi b gv a .nils c i []) = bif decide (i < c) then gR g b a (some noL) fun x a2 => L j (SLi b gv a2 (.sl sz 0 0 1 1) c (IntKind.i64.wrap (i + 1)) [.seq true sz 1 fun i => [e x].getD i (e x)]) else some (.tup [.nils, .int .i64 a, .bool true])
  h1 : ∀ (j : Nat) (b : List Int) (a c i : Int) (h : Nat → List AV), L (j + 1) (SLi b gv a (.sl sz 0 0 1 1) c i [.seq true sz 1 h]) = bif decide (i < c) then gR g b a (some noL) fun x a2 =>
    L j (SLi b gv a2 (.sl sz 0 0 2 0) c (IntKind.i64.wrap (i + 1)) [.seq true sz 2 fun i => bif Nat.blt i 1 then h i else bif Nat.blt i 2 then [e x].getD (i - 1) [] else h 1]) else some (.tup [.tr sz 1 h, .int .i64 a, .bool true])
  hn : ∀ (j : Nat) (b : List Int) (a c i : Int) (n : Nat) (h : Nat → List AV), L (j + 1) (SLi b gv a (.sl sz 0 0 n 0) c i [.seq true sz n h]) = bif decide (i < c) then gR g b a (some noL) fun x a2 => room1 n bw <|
    L j (SLi b gv a2 (.sl sz 0 0 (n + 1) 0) c (IntKind.i64.wrap (i + 1)) [.seq true sz (n + 1) fun i => bif Nat.blt i n then h i else bif Nat.blt i (n + 1) then [e x].getD (i - n) [] else h n]) else
    bif (Nat.beq n 0 || Nat.ble n n) && true then some (.tup [.tr sz n h, .int .i64 a, .bool true]) else none
theorem LoopR.run {X : Type} {sz bw : Nat} {e : X → List AV} {z : X} {g : Rd X} {gv : AV} {L : Nat → St → Option AV} (h : LoopR sz bw e z g gv L) (hw : bw ≤ 1000) {b : List Int} (hb : BytesOk b) (hg : RdOk g b) {c : Nat} (hc : c ≤ 4096) :
    ∀ d i j (a : Nat) acc, i + d = c → d < j → a ≤ b.length → acc.length = i → ∃ v, L j (SLi b gv a (gSl sz 0 acc) c (i : Nat) (gBl sz e z acc)) = some v ∧ SubV v (tL sz e z (gItems g b d a acc)) := by
  intro d
  induction d with
  | zero =>
    intro i j a acc hi hj ha hl
    obtain ⟨j, rfl⟩ : ∃ k, j = k + 1 := ⟨j - 1, by omega⟩
    match acc, hl with
    | [], hl =>
      show ∃ v, L (j + 1) (SLi b gv a .nils c (i : Nat) []) = some v ∧ _
      rw [h.h0, decide_eq_false (by omega), cond_false]
      exact ⟨_, rfl, .tup (.cons .nils (.refl _))⟩
    | [x], hl =>
      show ∃ v, L (j + 1) (SLi b gv a (.sl sz 0 0 1 1) c (i : Nat) [.seq true sz 1 (canF e z [x])]) = some v ∧ _
      rw [h.h1, decide_eq_false (by omega), cond_false]
      exact ⟨_, rfl, .tup (.cons (gTr_sub [x]) (.refl _))⟩
    | x :: y :: r, hl =>
      show ∃ v, L (j + 1) (SLi b gv a (.sl sz 0 0 (x :: y :: r).length 0) c (i : Nat) [.seq true sz (x :: y :: r).length (canF e z (x :: y :: r))]) = some v ∧ _
      rw [h.hn, decide_eq_false (by omega), cond_false, orU, Bool.and_true, cond_true]
      exact ⟨_, rfl, .tup (.cons (gTr_sub (x :: y :: r)) (.refl _))⟩
  | succ d ih =>
    intro i j a acc hi hj ha hl
    obtain ⟨j, rfl⟩ : ∃ k, j = k + 1 := ⟨j - 1, by omega⟩
    have ew : IntKind.i64.wrap (((i : Nat) : Int) + 1) = ((i + 1 : Nat) : Int) := wrapS (by omega)
    match acc, hl with
    | [], hl =>
      show ∃ v, L (j + 1) (SLi b gv a .nils c (i : Nat) []) = some v ∧ _
      rw [h.h0, decide_eq_true (by omega), cond_true, ew]
      refine gR_sub (T := tL sz e z) hb ha hg ⟨_, rfl, noL_sub⟩ fun x k hk => ?_
      rw [canF_oneS (e := e) (z := z) x]
      exact ih (i + 1) j k [x] (by omega) (by omega) hk (by simp at hl ⊢; omega)
    | [y], hl =>
      show ∃ v, L (j + 1) (SLi b gv a (.sl sz 0 0 1 1) c (i : Nat) [.seq true sz 1 (canF e z [y])]) = some v ∧ _
      rw [h.h1, decide_eq_true (by omega), cond_true, ew]
      refine gR_sub (T := tL sz e z) hb ha hg ⟨_, rfl, noL_sub⟩ fun x k hk => ?_
      rw [canF_app1 (e := e) (z := z) y x]
      exact ih (i + 1) j k [y, x] (by omega) (by omega) hk (by simp at hl ⊢; omega)
    | y :: y' :: r, hl =>
      show ∃ v, L (j + 1) (SLi b gv a (.sl sz 0 0 (y :: y' :: r).length 0) c (i : Nat) [.seq true sz (y :: y' :: r).length (canF e z (y :: y' :: r))]) = some v ∧ _
      rw [h.hn, decide_eq_true (by omega), cond_true, ew]
      refine gR_sub (T := tL sz e z) hb ha hg ⟨_, rfl, noL_sub⟩ fun x k hk => ?_
      rw [room1_eq hw (by omega), canF_app (e := e) (z := z) (l := y :: y' :: r) (by simp) x]
      have r0 := ih (i + 1) j k ((y :: y' :: r) ++ [x]) (by omega) (by omega) hk (by rw [List.length_append]; simp at hl ⊢; omega)
      rw [gSl_app (by simp), gBl_app (by simp)] at r0
      exact r0
/-- a list's reader, whole -/
theorem list_rd {X : Type} {F sz bw : Nat} {e : X → List AV} {z : X} {g : Rd X} {gv : AV} {l : List Known} (hl : ∀ k ∈ l, k.Ok PG) (hw : bw ≤ 1000) {x : BA} (hx : pBA x) (hg : RdOk g x.b)
    (h : ∀ N, LoopR sz bw e z g gv fun j s => LP (envK l) N 0 F snK 0 [] j s)
    (hin : ∀ N, callT (envK l) (N + 1) F [encBy x.b, .int .i64 (x.i : Int), gv] = gR gIntP x.b (x.i : Int) (some noL) fun n a => bif decide (n < 0) then some noL else bif decide (4096 < n) then some noL else LP (envK l) N 0 F snK 0 [] N (SLi x.b gv a .nils n 0 [])) :
    Contract PG F [encBy x.b, .int .i64 (x.i : Int), gv] [] (tL sz e z (gListP gIntP g x.b x.i)) [] := by
  obtain ⟨b, i⟩ := x
  have hN : ∃ N, N = 5000 := ⟨_, rfl⟩
  obtain ⟨N, hN⟩ := hN
  have key : ∃ v, callT (envK l) (N + 1) F [encBy b, .int .i64 (i : Int), gv] = some v ∧ SubV v (tL sz e z (gListP gIntP g b i)) := by
    rw [hin]
    refine gR_sub (T := tL sz e z) hx.1 hx.2 (gInt_rd b) ⟨_, rfl, noL_sub⟩ fun n j hj => ?_
    by_cases h1 : n < 0
    · rw [decide_eq_true h1]; exact ⟨_, rfl, noL_sub⟩
    · by_cases h2 : 4096 < n
      · rw [decide_eq_false h1, decide_eq_true h2]; exact ⟨_, rfl, noL_sub⟩
      · rw [decide_eq_false h1, decide_eq_false h2]
        have r := (h N).run hw hx.1 hg (c := n.toNat) (by omega) n.toNat 0 N j [] (by omega) (by omega) hj rfl
        rw [Int.natCast_zero, Int.toNat_of_nonneg (by omega)] at r
        exact r
  obtain ⟨v, h1, h2⟩ := key
  exact (conK hl h1).res h2
theorem gItems_rd {X : Type} {g : Rd X} {b : List Int} (hg : RdOk g b) : ∀ n (i : Nat) acc, i ≤ b.length → (gItems g b n (i : Int) acc).2.2 = true → ∃ j : Nat, (gItems g b n (i : Int) acc).2.1 = (j : Int) ∧ j ≤ b.length
  | 0, i, acc, hi => fun _ => ⟨i, rfl, hi⟩
  | n + 1, i, acc, hi => pb_rd hi hg fun x j hj => gItems_rd hg n j _ hj
theorem gList_rd {X : Type} {g : Rd X} {b : List Int} (hg : RdOk g b) : RdOk (gListP gIntP g) b := fun i hi => pb_rd hi (gInt_rd b) fun n j hj => by
  cases decide (n < 0) || decide (4096 < n) with
  | true => exact fun h => by cases h
  | false => exact gItems_rd hg _ j [] hj
end Go.Wk
end

section
/- Lists of members, views, operations, entries, seens: read by the program. -/
open Go Go.AM Go.Md
namespace Go.Wk
set_option maxRecDepth 100000
set_option maxHeartbeats 400000
def eLR (gv : AV) (x : BA) : List AV := [encBy x.b, .int .i64 x.i, gv]
noncomputable def gRL {X : Type} (gv : AV) (g : Rd X) (b : List Int) (i : Int) (Z : Option AV) (K : X → Int → Option AV) : Option AV := gC dBA pBA (eLR gv) [encBy b, .int .i64 i, gv] fun y => bif !(g y.b (y.i : Int)).2.2 then Z else K (g y.b (y.i : Int)).1 (g y.b (y.i : Int)).2.1
theorem gRL_sub {X Y : Type} {gv : AV} {g : Rd X} {b : List Int} {i : Nat} {Z : Option AV} {K : X → Int → Option AV} {T : PR Y → AV} {z : Y} {f : X → Int → PR Y} (hb : BytesOk b) (hi : i ≤ b.length) (hg : RdOk g b) (hZ : ∃ v, Z = some v ∧ SubV v (T (z, 0, false)))
    (hK : ∀ x (j : Nat), j ≤ b.length → ∃ v, K x (j : Int) = some v ∧ SubV v (T (f x (j : Int)))) : ∃ v, gRL gv g b (i : Int) Z K = some v ∧ SubV v (T (pb z (g b (i : Int)) f)) := by
  unfold gRL pb
  have q : ∀ K : BA → Option AV, gC dBA pBA (eLR gv) [encBy b, .int .i64 (i : Int), gv] K = K ⟨b, i⟩ := fun K => gC_eq (⟨b, i⟩ : BA) (dec_eBA ⟨b, i⟩) ⟨hb, hi⟩ (.refl _)
  rw [q]
  simp only []
  cases h : (g b (i : Int)).2.2 with
  | false => exact hZ
  | true =>
    obtain ⟨j, h1, h2⟩ := hg i hi h
    rw [h1]
    exact hK _ j h2
theorem con_sub {l : List Known} (hl : ∀ k ∈ l, k.Ok PG) {n f : Nat} {xs : List AV} {T : AV} {X : Option AV} (e : callT (envK l) n f xs = X) (h : ∃ v, X = some v ∧ SubV v T) : Contract PG f xs [] T [] := by
  obtain ⟨v, h1, h2⟩ := h
  exact (conK hl (e.trans h1)).res h2
/-- a step of a reader -/
def StR {X Y : Type} (g : Rd X) (b : List Int) (T : PR Y → AV) (z : Y) (Z : Option AV) : Prop := ∀ (K : X → Int → Option AV) (f : X → Int → PR Y) (i : Nat), i ≤ b.length → (∀ x (j : Nat), j ≤ b.length → ∃ v, K x (j : Int) = some v ∧ SubV v (T (f x (j : Int)))) → ∃ v, gR g b (i : Int) Z K = some v ∧ SubV v (T (pb z (g b (i : Int)) f))
theorem StR.of {X Y : Type} {g : Rd X} {b : List Int} {T : PR Y → AV} {z : Y} {Z : Option AV} (hb : BytesOk b) (hg : RdOk g b) (hZ : ∃ v, Z = some v ∧ SubV v (T (z, 0, false))) : StR g b T z Z := fun _ _ _ hi hK => gR_sub hb hi hg hZ hK
theorem yes {v : AV} : ∃ w, some v = some w ∧ SubV w v := ⟨v, rfl, .refl v⟩
def fnv (f : Nat) : AV := .tp [.fn (.func f) [] []] 0
/-! ### members -/
noncomputable def kn5a : List Known := [kGI, kGM]
theorem kn5a_ok : ∀ k ∈ kn5a, k.Ok PG := ak kGI_ok (ak kGM_ok ank)
theorem loopM (N : Nat) : LoopR 2 16 encMember default (gMemP gIntP) (fnv F_msg_getMember) fun j s => LP (envK kn5a) N 0 F_msg_listOf_api_Member__c1 snK 0 [] j s where
  h0 j b a c i := by kernel_rfl
  h1 j b a c i h := by kernel_rfl
  hn j b a c i n h := by kernel_rfl
theorem lmem_con (x : BA) (h : pBA x) : Contract PG F_msg_listOf_api_Member__c1 (eLR (fnv F_msg_getMember) x) [] (tL 2 encMember default (gListP gIntP (gMemP gIntP) x.b x.i)) [] :=
  list_rd kn5a_ok (by omega) h (gMem_rd x.b) loopM (fun N => by kernel_rfl)
noncomputable def kLM : Known := .spec F_msg_listOf_api_Member__c1 dBA pBA (eLR (fnv F_msg_getMember)) (fun x => tL 2 encMember default (gListP gIntP (gMemP gIntP) x.b x.i))
theorem kLM_ok : kLM.Ok PG := Known.spec_ok lmem_con
/-! ### views -/
noncomputable def kn5b : List Known := [kGI, kLM]
theorem kn5b_ok : ∀ k ∈ kn5b, k.Ok PG := ak kGI_ok (ak kLM_ok ank)
def zV : AV := .tup [.agg [.int .i64 0, .int .i64 0, .int .i64 0, .int .i64 0, .nils], .int .i64 0, .bool false]
theorem zV_sub : SubV zV (tA encView (default, 0, false)) := subB_ok 9 _ _ (by kernel_rfl)
theorem gview (b : List Int) (i : Int) : callT (envK kn5b) 9 F_msg_getView [encBy b, .int .i64 i] = gR gIntP b i (some zV) fun s a => gR gIntP b a (some zV) fun e a => gR gIntP b a (some zV) fun g a => gR gIntP b a (some zV) fun p a =>
    gRL (fnv F_msg_getMember) (gListP gIntP (gMemP gIntP)) b a (some zV) fun c a => some (tA encView (⟨s, e, g, p, c⟩, a, true)) := by kernel_rfl
theorem gview_con (x : BA) (h : pBA x) : Contract PG F_msg_getView (eBA x) [] (tA encView (gViewP gIntP x.b x.i)) [] := by
  obtain ⟨b, i⟩ := x
  have gi : StR gIntP b (tA encView) default (some zV) := .of h.1 (gInt_rd b) ⟨zV, rfl, zV_sub⟩
  exact con_sub kn5b_ok (gview b i) (gi _ _ i h.2 fun s j h1 => gi _ _ j h1 fun e j h1 => gi _ _ j h1 fun g j h1 => gi _ _ j h1 fun p j h1 => gRL_sub (T := tA encView) h.1 h1 (gList_rd (gMem_rd b)) ⟨zV, rfl, zV_sub⟩ fun c j h1 => yes)
noncomputable def kGVw : Known := .spec F_msg_getView dBA pBA eBA (fun x => tA encView (gViewP gIntP x.b x.i))
theorem kGVw_ok : kGVw.Ok PG := Known.spec_ok gview_con
theorem gView_rd (b : List Int) : RdOk (gViewP gIntP) b := fun i hi => pb_rd hi (gInt_rd b) fun _ j hj => pb_rd hj (gInt_rd b) fun _ j hj => pb_rd hj (gInt_rd b) fun _ j hj => pb_rd hj (gInt_rd b) fun _ j hj => pb_rd hj (gList_rd (gMem_rd b)) fun _ k hk => fin_rd hk
/-! ### operations, entries, seens -/
noncomputable def kn5c : List Known := [kGI, kGT, kGB, kGV]
theorem kn5c_ok : ∀ k ∈ kn5c, k.Ok PG := ak kGI_ok (ak kGT_ok (ak kGB_ok (ak kGV_ok ank)))
theorem gop (b : List Int) (i : Int) : callT (envK kn5c) 9 F_entry_GetOp [encBy b, .int .i64 i] = gR gIntP b i (some (tA encOp (default, 0, false))) fun k a => gR (gTextP gIntP) b a (some (tA encOp (default, 0, false))) fun y a => gR (gTextP gIntP) b a (some (tA encOp (default, 0, false))) fun v a =>
    gR (gTextP gIntP) b a (some (tA encOp (default, 0, false))) fun o a => gR gBoolP b a (some (tA encOp (default, 0, false))) fun h a => some (tA encOp (⟨k, y, v, o, h⟩, a, true)) := by kernel_rfl
theorem gop_con (x : BA) (h : pBA x) : Contract PG F_entry_GetOp (eBA x) [] (tA encOp (gOpP gIntP x.b x.i)) [] := by
  obtain ⟨b, i⟩ := x
  have gi : StR gIntP b (tA encOp) default (some (tA encOp (default, 0, false))) := .of h.1 (gInt_rd b) yes
  have gt : StR (gTextP gIntP) b (tA encOp) default (some (tA encOp (default, 0, false))) := .of h.1 (gText_rd b) yes
  have gb : StR gBoolP b (tA encOp) default (some (tA encOp (default, 0, false))) := .of h.1 (gBool_rd b) yes
  exact con_sub kn5c_ok (gop b i) (gi _ _ i h.2 fun _ j h1 => gt _ _ j h1 fun _ j h1 => gt _ _ j h1 fun _ j h1 => gt _ _ j h1 fun _ j h1 => gb _ _ j h1 fun _ j h1 => yes)
noncomputable def kGO : Known := .spec F_entry_GetOp dBA pBA eBA (fun x => tA encOp (gOpP gIntP x.b x.i))
theorem kGO_ok : kGO.Ok PG := Known.spec_ok gop_con
theorem gOp_rd (b : List Int) : RdOk (gOpP gIntP) b := fun i hi => pb_rd hi (gInt_rd b) fun _ j hj => pb_rd hj (gText_rd b) fun _ j hj => pb_rd hj (gText_rd b) fun _ j hj => pb_rd hj (gText_rd b) fun _ j hj => pb_rd hj (gBool_rd b) fun _ k hk => fin_rd hk
def zE : AV := tA encEntry (default, 0, false)
theorem gent (b : List Int) (i : Int) : callT (envK kn5c) 9 F_entry_Get [encBy b, .int .i64 i] = gR (gVerP gIntP) b i (some zE) fun v a => gR gIntP b a (some zE) fun k a => gR (gTextP gIntP) b a (some zE) fun y a => gR (gTextP gIntP) b a (some zE) fun x a => gR gBoolP b a (some zE) fun w a => gR gBoolP b a (some zE) fun d a =>
    gR gIntP b a (some zE) fun s a => gR gIntP b a (some zE) fun n a => gR gIntP b a (some zE) fun c a => gR (gTextP gIntP) b a (some zE) fun r a => gR gBoolP b a (some zE) fun h a => some (tA encEntry (⟨v, k, y, x, w, d, s, n, c, r, h⟩, a, true)) := by kernel_rfl
theorem gent_con (x : BA) (h : pBA x) : Contract PG F_entry_Get (eBA x) [] (tA encEntry (gEntP gIntP x.b x.i)) [] := by
  obtain ⟨b, i⟩ := x
  have gi : StR gIntP b (tA encEntry) default (some zE) := .of h.1 (gInt_rd b) yes
  have gt : StR (gTextP gIntP) b (tA encEntry) default (some zE) := .of h.1 (gText_rd b) yes
  have gb : StR gBoolP b (tA encEntry) default (some zE) := .of h.1 (gBool_rd b) yes
  have gv : StR (gVerP gIntP) b (tA encEntry) default (some zE) := .of h.1 (gVer_rd b) yes
  exact con_sub kn5c_ok (gent b i) (gv _ _ i h.2 fun _ j h1 => gi _ _ j h1 fun _ j h1 => gt _ _ j h1 fun _ j h1 => gt _ _ j h1 fun _ j h1 => gb _ _ j h1 fun _ j h1 => gb _ _ j h1 fun _ j h1 => gi _ _ j h1 fun _ j h1 => gi _ _ j h1 fun _ j h1 => gi _ _ j h1 fun _ j h1 => gt _ _ j h1 fun _ j h1 => gb _ _ j h1 fun _ j h1 => yes)
noncomputable def kGE : Known := .spec F_entry_Get dBA pBA eBA (fun x => tA encEntry (gEntP gIntP x.b x.i))
theorem kGE_ok : kGE.Ok PG := Known.spec_ok gent_con
theorem gEnt_rd (b : List Int) : RdOk (gEntP gIntP) b := fun i hi => pb_rd hi (gVer_rd b) fun _ j hj => pb_rd hj (gInt_rd b) fun _ j hj => pb_rd hj (gText_rd b) fun _ j hj => pb_rd hj (gText_rd b) fun _ j hj => pb_rd hj (gBool_rd b) fun _ j hj => pb_rd hj (gBool_rd b) fun _ j hj =>
  pb_rd hj (gInt_rd b) fun _ j hj => pb_rd hj (gInt_rd b) fun _ j hj => pb_rd hj (gInt_rd b) fun _ j hj => pb_rd hj (gText_rd b) fun _ j hj => pb_rd hj (gBool_rd b) fun _ k hk => fin_rd hk
def zSn : AV := tA encSeen (default, 0, false)
theorem gseen (b : List Int) (i : Int) : callT (envK kn5c) 9 F_msg_getSeen [encBy b, .int .i64 i] = gR gIntP b i (some zSn) fun s a => gR gIntP b a (some zSn) fun n a => gR (gVerP gIntP) b a (some zSn) fun v a => gR gIntP b a (some zSn) fun k a => gR gIntP b a (some zSn) fun c a => gR (gTextP gIntP) b a (some zSn) fun r a =>
    gR gBoolP b a (some zSn) fun h a => some (tA encSeen (⟨s, n, v, k, c, r, h⟩, a, true)) := by kernel_rfl
theorem gseen_con (x : BA) (h : pBA x) : Contract PG F_msg_getSeen (eBA x) [] (tA encSeen (gSeenP gIntP x.b x.i)) [] := by
  obtain ⟨b, i⟩ := x
  have gi : StR gIntP b (tA encSeen) default (some zSn) := .of h.1 (gInt_rd b) yes
  have gt : StR (gTextP gIntP) b (tA encSeen) default (some zSn) := .of h.1 (gText_rd b) yes
  have gb : StR gBoolP b (tA encSeen) default (some zSn) := .of h.1 (gBool_rd b) yes
  have gv : StR (gVerP gIntP) b (tA encSeen) default (some zSn) := .of h.1 (gVer_rd b) yes
  exact con_sub kn5c_ok (gseen b i) (gi _ _ i h.2 fun _ j h1 => gi _ _ j h1 fun _ j h1 => gv _ _ j h1 fun _ j h1 => gi _ _ j h1 fun _ j h1 => gi _ _ j h1 fun _ j h1 => gt _ _ j h1 fun _ j h1 => gb _ _ j h1 fun _ j h1 => yes)
noncomputable def kGSn : Known := .spec F_msg_getSeen dBA pBA eBA (fun x => tA encSeen (gSeenP gIntP x.b x.i))
theorem kGSn_ok : kGSn.Ok PG := Known.spec_ok gseen_con
theorem gSeen_rd (b : List Int) : RdOk (gSeenP gIntP) b := fun i hi => pb_rd hi (gInt_rd b) fun _ j hj => pb_rd hj (gInt_rd b) fun _ j hj => pb_rd hj (gVer_rd b) fun _ j hj => pb_rd hj (gInt_rd b) fun _ j hj => pb_rd hj (gInt_rd b) fun _ j hj => pb_rd hj (gText_rd b) fun _ j hj => pb_rd hj (gBool_rd b) fun _ k hk => fin_rd hk
end Go.Wk
end

section
/- Images, messages, read by the program. -/
open Go Go.AM Go.Md
namespace Go.Wk
set_option maxRecDepth 100000
set_option maxHeartbeats 400000
noncomputable def kn6a : List Known := [kGI, kGVw]
theorem kn6a_ok : ∀ k ∈ kn6a, k.Ok PG := ak kGI_ok (ak kGVw_ok ank)
theorem loopV (N : Nat) : LoopR 5 56 encView default (gViewP gIntP) (fnv F_msg_getView) fun j s => LP (envK kn6a) N 0 F_msg_listOf_api_View__c1 snK 0 [] j s where
  h0 j b a c i := by kernel_rfl
  h1 j b a c i h := by kernel_rfl
  hn j b a c i n h := by kernel_rfl
theorem lview_con (x : BA) (h : pBA x) : Contract PG F_msg_listOf_api_View__c1 (eLR (fnv F_msg_getView) x) [] (tL 5 encView default (gListP gIntP (gViewP gIntP) x.b x.i)) [] :=
  list_rd kn6a_ok (by omega) h (gView_rd x.b) loopV (fun N => by kernel_rfl)
noncomputable def kLV : Known := .spec F_msg_listOf_api_View__c1 dBA pBA (eLR (fnv F_msg_getView)) (fun x => tL 5 encView default (gListP gIntP (gViewP gIntP) x.b x.i))
theorem kLV_ok : kLV.Ok PG := Known.spec_ok lview_con
noncomputable def kn6b : List Known := [kGI, kGE]
theorem kn6b_ok : ∀ k ∈ kn6b, k.Ok PG := ak kGI_ok (ak kGE_ok ank)
theorem loopE (N : Nat) : LoopR 11 112 encEntry default (gEntP gIntP) (fnv F_entry_Get) fun j s => LP (envK kn6b) N 0 F_msg_listOf_api_Entry__c1 snK 0 [] j s where
  h0 j b a c i := by kernel_rfl
  h1 j b a c i h := by kernel_rfl
  hn j b a c i n h := by kernel_rfl
theorem lent_con (x : BA) (h : pBA x) : Contract PG F_msg_listOf_api_Entry__c1 (eLR (fnv F_entry_Get) x) [] (tL 11 encEntry default (gListP gIntP (gEntP gIntP) x.b x.i)) [] :=
  list_rd kn6b_ok (by omega) h (gEnt_rd x.b) loopE (fun N => by kernel_rfl)
noncomputable def kLE : Known := .spec F_msg_listOf_api_Entry__c1 dBA pBA (eLR (fnv F_entry_Get)) (fun x => tL 11 encEntry default (gListP gIntP (gEntP gIntP) x.b x.i))
theorem kLE_ok : kLE.Ok PG := Known.spec_ok lent_con
noncomputable def kn6c : List Known := [kGI, kGSn]
theorem kn6c_ok : ∀ k ∈ kn6c, k.Ok PG := ak kGI_ok (ak kGSn_ok ank)
theorem loopS (N : Nat) : LoopR 7 72 encSeen default (gSeenP gIntP) (fnv F_msg_getSeen) fun j s => LP (envK kn6c) N 0 F_msg_listOf_api_Seen__c1 snK 0 [] j s where
  h0 j b a c i := by kernel_rfl
  h1 j b a c i h := by kernel_rfl
  hn j b a c i n h := by kernel_rfl
theorem lseen_con (x : BA) (h : pBA x) : Contract PG F_msg_listOf_api_Seen__c1 (eLR (fnv F_msg_getSeen) x) [] (tL 7 encSeen default (gListP gIntP (gSeenP gIntP) x.b x.i)) [] :=
  list_rd kn6c_ok (by omega) h (gSeen_rd x.b) loopS (fun N => by kernel_rfl)
noncomputable def kLS : Known := .spec F_msg_listOf_api_Seen__c1 dBA pBA (eLR (fnv F_msg_getSeen)) (fun x => tL 7 encSeen default (gListP gIntP (gSeenP gIntP) x.b x.i))
theorem kLS_ok : kLS.Ok PG := Known.spec_ok lseen_con
/-! ### images -/
noncomputable def kn6d : List Known := [kGI, kGV, kLE, kLS]
theorem kn6d_ok : ∀ k ∈ kn6d, k.Ok PG := ak kGI_ok (ak kGV_ok (ak kLE_ok (ak kLS_ok ank)))
def zIm : AV := .tup [.agg [.cplx .f64 0 0, .cplx .f64 0 0, .int .i64 0, .nils, .nils], .int .i64 0, .bool false]
theorem zIm_sub : SubV zIm (tA encImage (default, 0, false)) := subB_ok 9 _ _ (by kernel_rfl)
theorem gimg (b : List Int) (i : Int) : callT (envK kn6d) 9 F_msg_GetImage [encBy b, .int .i64 i] = gR (gVerP gIntP) b i (some zIm) fun f a => gR (gVerP gIntP) b a (some zIm) fun l a => gR gIntP b a (some zIm) fun g a =>
    gRL (fnv F_entry_Get) (gListP gIntP (gEntP gIntP)) b a (some zIm) fun o a => gRL (fnv F_msg_getSeen) (gListP gIntP (gSeenP gIntP)) b a (some zIm) fun s a => some (tA encImage (⟨f, l, g, o, s⟩, a, true)) := by kernel_rfl
theorem gimg_con (x : BA) (h : pBA x) : Contract PG F_msg_GetImage (eBA x) [] (tA encImage (gImgP gIntP x.b x.i)) [] := by
  obtain ⟨b, i⟩ := x
  have gi : StR gIntP b (tA encImage) default (some zIm) := .of h.1 (gInt_rd b) ⟨zIm, rfl, zIm_sub⟩
  have gv : StR (gVerP gIntP) b (tA encImage) default (some zIm) := .of h.1 (gVer_rd b) ⟨zIm, rfl, zIm_sub⟩
  exact con_sub kn6d_ok (gimg b i) (gv _ _ i h.2 fun _ j h1 => gv _ _ j h1 fun _ j h1 => gi _ _ j h1 fun _ j h1 => gRL_sub (T := tA encImage) h.1 h1 (gList_rd (gEnt_rd b)) ⟨zIm, rfl, zIm_sub⟩ fun _ j h1 => gRL_sub (T := tA encImage) h.1 h1 (gList_rd (gSeen_rd b)) ⟨zIm, rfl, zIm_sub⟩ fun _ j h1 => yes)
noncomputable def kGIm : Known := .spec F_msg_GetImage dBA pBA eBA (fun x => tA encImage (gImgP gIntP x.b x.i))
theorem kGIm_ok : kGIm.Ok PG := Known.spec_ok gimg_con
theorem gImg_rd (b : List Int) : RdOk (gImgP gIntP) b := fun i hi => pb_rd hi (gVer_rd b) fun _ j hj => pb_rd hj (gVer_rd b) fun _ j hj => pb_rd hj (gInt_rd b) fun _ j hj => pb_rd hj (gList_rd (gEnt_rd b)) fun _ j hj => pb_rd hj (gList_rd (gSeen_rd b)) fun _ k hk => fin_rd hk
end Go.Wk
end

section
/- Messages, read by the program. -/
open Go Go.AM Go.Md
namespace Go.Wk
set_option maxRecDepth 100000
set_option maxHeartbeats 400000
noncomputable def kn7 : List Known := [kGI, kGB, kGT, kGV, kGO, kLE, kLM, kLV, kGIm]
theorem kn7_ok : ∀ k ∈ kn7, k.Ok PG := ak kGI_ok (ak kGB_ok (ak kGT_ok (ak kGV_ok (ak kGO_ok (ak kLE_ok (ak kLM_ok (ak kLV_ok (ak kGIm_ok ank))))))))
def zMs : AV := .tup [.agg [.int .i64 0, .int .i64 0, .int .i64 0, .int .i64 0, .int .i64 0, .int .i64 0, .int .i64 0, .int .i64 0, .int .i64 0, .int .i64 0, .int .i64 0, .int .i64 0, .bool false, .bool false, .str [], .str [], .cplx .f64 0 0, .cplx .f64 0 0, .int .i64 0, .str [], .str [], .str [], .bool false, .nils, .nils, .nils,
  .cplx .f64 0 0, .cplx .f64 0 0, .int .i64 0, .nils, .nils], .bool false]
/-- a message that was read, if it ends where the bytes end -/
def endM (b : List Int) (p : PR Msg) : Msg × Bool := bif p.2.2 && decide (p.2.1 = (b.length : Int)) then (p.1, true) else (default, false)
def tM (p : Msg × Bool) : AV := .tup [.agg (encMsg p.1), .bool p.2]
theorem zMs_sub : SubV zMs (tM (default, false)) := subB_ok 9 _ _ (by kernel_rfl)
theorem gmsg (b : List Int) : callT (envK kn7) 20 F_msg_Get [encBy b] = gR gIntP b 0 (some zMs) fun k a => gR gIntP b a (some zMs) fun f a => gR gIntP b a (some zMs) fun t a => gR gIntP b a (some zMs) fun o a => gR gIntP b a (some zMs) fun so a => gR gIntP b a (some zMs) fun s a =>
    gR gIntP b a (some zMs) fun e a => gR gIntP b a (some zMs) fun g a => gR gIntP b a (some zMs) fun se a => gR gIntP b a (some zMs) fun n a => gR gIntP b a (some zMs) fun aa a => gR gIntP b a (some zMs) fun c a => gR gBoolP b a (some zMs) fun h a => gR gBoolP b a (some zMs) fun fr a =>
    gR (gTextP gIntP) b a (some zMs) fun ky a => gR (gTextP gIntP) b a (some zMs) fun vl a => gR (gVerP gIntP) b a (some zMs) fun ve a => gR (gVerP gIntP) b a (some zMs) fun fl a => gR (gOpP gIntP) b a (some zMs) fun op a =>
    gRL (fnv F_entry_Get) (gListP gIntP (gEntP gIntP)) b a (some zMs) fun en a => gRL (fnv F_msg_getMember) (gListP gIntP (gMemP gIntP)) b a (some zMs) fun ch a => gRL (fnv F_msg_getView) (gListP gIntP (gViewP gIntP)) b a (some zMs) fun vi a => gR (gImgP gIntP) b a (some zMs) fun im a =>
    bif !decide (a = (b.length : Int)) then some zMs else some (tM (⟨k, f, t, o, so, s, e, g, se, n, aa, c, h, fr, ky, vl, ve, fl, op, en, ch, vi, im⟩, true)) := by kernel_rfl
theorem end_msg {b : List Int} {m : Msg} (j : Nat) : ∃ v, (bif !decide ((j : Int) = (b.length : Int)) then some zMs else some (tM (m, true))) = some v ∧ SubV v (tM (endM b (m, (j : Int), true))) := by
  unfold endM
  simp only [Bool.true_and]
  cases decide ((j : Int) = (b.length : Int)) with
  | true => exact yes
  | false => exact ⟨zMs, rfl, zMs_sub⟩
theorem gmsg_con (b : List Int) (h : BytesOk b) : Contract PG F_msg_Get [encBy b] [] (tM (gMsgF gIntP b)) [] := by
  let T : PR Msg → AV := fun p => tM (endM b p)
  have hz : ∃ v, some zMs = some v ∧ SubV v (T (default, 0, false)) := ⟨zMs, rfl, zMs_sub⟩
  have gi : StR gIntP b T default (some zMs) := .of h (gInt_rd b) hz
  have gb : StR gBoolP b T default (some zMs) := .of h (gBool_rd b) hz
  have gt : StR (gTextP gIntP) b T default (some zMs) := .of h (gText_rd b) hz
  have gv : StR (gVerP gIntP) b T default (some zMs) := .of h (gVer_rd b) hz
  have go : StR (gOpP gIntP) b T default (some zMs) := .of h (gOp_rd b) hz
  have gm : StR (gImgP gIntP) b T default (some zMs) := .of h (gImg_rd b) hz
  refine con_sub kn7_ok (gmsg b) ?_
  show ∃ v, _ = some v ∧ SubV v (T (gMsgP gIntP b))
  unfold gMsgP
  exact gi _ _ 0 (Nat.zero_le _) fun k j h1 => gi _ _ j h1 fun f j h1 => gi _ _ j h1 fun t j h1 => gi _ _ j h1 fun o j h1 => gi _ _ j h1 fun so j h1 => gi _ _ j h1 fun s j h1 => gi _ _ j h1 fun e j h1 => gi _ _ j h1 fun g j h1 => gi _ _ j h1 fun se j h1 => gi _ _ j h1 fun n j h1 => gi _ _ j h1 fun aa j h1 => gi _ _ j h1 fun c j h1 =>
    gb _ _ j h1 fun hh j h1 => gb _ _ j h1 fun fr j h1 => gt _ _ j h1 fun ky j h1 => gt _ _ j h1 fun vl j h1 => gv _ _ j h1 fun ve j h1 => gv _ _ j h1 fun fl j h1 => go _ _ j h1 fun op j h1 =>
    gRL_sub (gv := fnv F_entry_Get) (T := T) h h1 (gList_rd (gEnt_rd b)) hz fun en j h1 => gRL_sub (gv := fnv F_msg_getMember) (T := T) h h1 (gList_rd (gMem_rd b)) hz fun ch j h1 => gRL_sub (gv := fnv F_msg_getView) (T := T) h h1 (gList_rd (gView_rd b)) hz fun vi j h1 => gm _ _ j h1 fun im j h1 => end_msg (b := b) j
noncomputable def kGMsg : Known := .spec F_msg_Get (dL decB) BytesOk (fun b => [encBy b]) (fun b => tM (gMsgF gIntP b))
theorem kGMsg_ok : kGMsg.Ok PG := Known.spec_ok gmsg_con
end Go.Wk
end

section
/- What is written is read again: numbers, texts, truths, versions, lists; plain. -/
open Go Go.AM Go.Md
namespace Go.Wk
set_option maxRecDepth 100000
theorem drop_head {b r : List Int} {a : Int} {i : Nat} (h : b.drop i = a :: r) : i < b.length ∧ b.getD i 0 = a ∧ b.drop (i + 1) = r := by
  have hi : i < b.length := by
    rcases Nat.lt_or_ge i b.length with h1 | h1
    · exact h1
    · rw [List.drop_eq_nil_of_le h1] at h; cases h
  rw [List.drop_eq_getElem_cons hi] at h
  injection h with h1 h2
  exact ⟨hi, by simp [List.getD, List.getElem?_eq_getElem hi, h1], h2⟩
theorem drop_app {b q r : List Int} {i : Nat} (hi : i ≤ b.length) (h : b.drop i = q ++ r) : i + q.length ≤ b.length ∧ b.drop (i + q.length) = r := by
  have e : (b.drop i).length = (q ++ r).length := by rw [h]
  rw [List.length_drop, List.length_append] at e
  refine ⟨by omega, ?_⟩
  rw [← List.drop_drop, h, List.drop_left]
theorem natB_s (j x : Nat) : natB (j + 1) (x : Int) = if 127 < x then ((128 + x % 128 : Nat) : Int) :: natB j ((x / 128 : Nat) : Int) else [(x : Int)] := by
  show (if 127 < (x : Int) then (128 + (x : Int) % 128) :: natB j ((x : Int) / 128) else [(x : Int)]) = _
  by_cases h : 127 < x
  · rw [if_pos (by omega), if_pos h]
    have e1 : (128 + (x : Int) % 128) = ((128 + x % 128 : Nat) : Int) := by omega
    have e2 : (x : Int) / 128 = ((x / 128 : Nat) : Int) := by omega
    rw [e1, e2]
  · rw [if_neg (by omega), if_neg h]
theorem natB_by : ∀ (k x : Nat), ∀ y ∈ natB k (x : Int), 0 ≤ y ∧ y ≤ 255
  | 0, x, y, h => by simp [natB] at h
  | k + 1, x, y, h => by
    rw [natB_s] at h
    split at h
    · rcases List.mem_cons.1 h with rfl | h
      · omega
      · exact natB_by k _ y h
    · rw [List.mem_singleton] at h; subst h; omega
theorem grpG_rt {b : List Int} : ∀ (k t j x m i : Nat) (r : List Int), k + t = 10 → 1 ≤ t → k ≤ j → 0 < x → m < 2 ^ (7 * t) → m + x * 2 ^ (7 * t) < 2 ^ 64 → b.drop i = natB j (x : Int) ++ r →
    grpG k b i (m : Int) t = (((m + x * 2 ^ (7 * t) : Nat) : Int), ((i + (natB j (x : Int)).length : Nat) : Int), true) := by
  intro k
  induction k with
  | zero =>
    intro t j x m i r hk ht hj hx hm hb hd
    have : t = 10 := by omega
    subst this
    exfalso
    have : 1 * 2 ^ (7 * 10) ≤ x * 2 ^ (7 * 10) := Nat.mul_le_mul_right _ hx
    have e : (2 : Nat) ^ (7 * 10) = 64 * 2 ^ 64 := by decide
    omega
  | succ k ih =>
    intro t j x m i r hk ht hj hx hm hb hd
    obtain ⟨j, rfl⟩ : ∃ n, j = n + 1 := ⟨j - 1, by omega⟩
    rw [natB_s] at hd ⊢
    have h9 : t = 9 → x < 2 := by
      intro e; subst e
      have e : (2 : Nat) ^ (7 * 9) * 2 = 2 ^ 64 := by decide
      rcases Nat.lt_or_ge x 2 with h | h
      · exact h
      · have := Nat.mul_le_mul_right (2 ^ (7 * 9)) h
        omega
    unfold grpG
    by_cases h1 : 127 < x
    · rw [if_pos h1] at hd ⊢
      obtain ⟨hi, hg, hd'⟩ := drop_head hd
      have hcm : (128 + x % 128) % 128 = x % 128 := by omega
      have hdm : x = 128 * (x / 128) + x % 128 := by omega
      have hP : 2 ^ (7 * (t + 1)) = 128 * 2 ^ (7 * t) := by
        rw [Nat.mul_add, Nat.pow_add, Nat.mul_comm]
      have hsum : x * 2 ^ (7 * t) = x / 128 * (128 * 2 ^ (7 * t)) + x % 128 * 2 ^ (7 * t) := by
        conv => lhs; rw [hdm]
        rw [Nat.add_mul, Nat.mul_comm 128 (x / 128), Nat.mul_assoc]
      have hlt : x % 128 * 2 ^ (7 * t) ≤ 127 * 2 ^ (7 * t) := Nat.mul_le_mul_right _ (by omega)
      rw [hg, decide_eq_false (by omega), decide_eq_false (by omega), cond_false, cond_false]
      have h9' : decide (t = 9) = false := decide_eq_false (fun e => by have := h9 e; omega)
      rw [h9', Bool.false_and, cond_false, decide_eq_false (by omega), cond_false]
      have ho := orE_eq m (128 + x % 128) t (by omega) hm (by rw [hcm]; omega)
      have ho : orE (m : Int) ((128 + x % 128 : Nat) : Int) (2 ^ (7 * t)) = _ := ho
      rw [ho, hcm, ih (t + 1) j (x / 128) (m + x % 128 * 2 ^ (7 * t)) (i + 1) r (by omega) (by omega) (by omega) (by omega) (by rw [hP]; omega) (by rw [hP]; omega) hd', hP, List.length_cons]
      refine Prod.ext ?_ (Prod.ext ?_ rfl)
      · show ((_ : Nat) : Int) = ((_ : Nat) : Int)
        congr 1; omega
      · show ((_ : Nat) : Int) = ((_ : Nat) : Int)
        congr 1; omega
    · rw [if_neg h1] at hd ⊢
      obtain ⟨hi, hg, hd'⟩ := drop_head hd
      rw [hg, decide_eq_false (by omega), decide_eq_false (by omega), cond_false, cond_false]
      have h9' : (decide (t = 9) && decide (1 < (x : Int))) = false := by
        by_cases e : t = 9
        · have := h9 e
          rw [decide_eq_false (by omega : ¬ 1 < (x : Int)), Bool.and_false]
        · rw [decide_eq_false e, Bool.false_and]
      rw [h9', cond_false, decide_eq_true (by omega), cond_true]
      have hxm : x % 128 = x := by omega
      have ho : orE (m : Int) (x : Int) (2 ^ (7 * t)) = _ := orE_eq m x t (by omega) hm (by rw [hxm]; omega)
      rw [ho, hxm]; rfl
theorem grpP_rt {b r : List Int} {x i : Nat} (hx : x < 2 ^ 64) (hd : b.drop i = natB 11 (x : Int) ++ r) : grpP b i = ((x : Int), ((i + (natB 11 (x : Int)).length : Nat) : Int), true) := by
  rw [natB_s] at hd ⊢
  unfold grpP
  by_cases h1 : 127 < x
  · rw [if_pos h1] at hd ⊢
    obtain ⟨hi, hg, hd'⟩ := drop_head hd
    rw [hg, decide_eq_false (by omega), cond_false, decide_eq_false (by omega), cond_false]
    have ho : orE 0 ((128 + x % 128 : Nat) : Int) 1 = _ := orE_eq 0 (128 + x % 128) 0 (by omega) (by omega) (by omega)
    rw [ho, grpG_rt 9 1 10 (x / 128) _ (i + 1) r (by omega) (by omega) (by omega) (by omega) (by omega) (by omega) hd', List.length_cons]
    refine Prod.ext ?_ (Prod.ext ?_ rfl)
    · show ((_ : Nat) : Int) = ((_ : Nat) : Int)
      congr 1; omega
    · show ((_ : Nat) : Int) = ((_ : Nat) : Int)
      congr 1; omega
  · rw [if_neg h1] at hd ⊢
    obtain ⟨hi, hg, hd'⟩ := drop_head hd
    rw [hg, decide_eq_false (by omega), cond_false, decide_eq_true (by omega), cond_true]
    have ho : orE 0 (x : Int) 1 = _ := orE_eq 0 x 0 (by omega) (by omega) (by omega)
    rw [ho]
    refine Prod.ext ?_ rfl
    show ((_ : Nat) : Int) = _
    congr 1; omega
def zigN (n : Int) : Nat := (zig n).toNat
theorem zig_nat {n : Int} (h : I64 n) : zig n = (zigN n : Int) ∧ zigN n < 2 ^ 64 := by
  unfold I64 at h
  unfold zigN zig
  split <;> omega
theorem zag_zig {n : Int} (h : I64 n) : zagE (zig n) = n := by
  have hh := h
  unfold I64 at hh
  obtain ⟨e, hl⟩ := zig_nat h
  unfold zagE
  have ho : oddE (zig n) = decide (zigN n % 2 = 1) := by
    rw [e]
    unfold oddE
    have e1 : ((BitVec.ofInt IntKind.u64.bits (zigN n : Int) &&& BitVec.ofInt IntKind.u64.bits 1).toNat : Int) = ((zigN n % 2 : Nat) : Int) := congrArg Int.ofNat (and1 (zigN n) hl)
    rw [e1, wu64 (by omega)]
    exact decide_eq_decide.2 (by omega)
  rw [ho]
  have hf : (zig n).fdiv 2 = (zig n) / 2 := Int.fdiv_eq_ediv_of_nonneg _ (by omega)
  rw [hf]
  unfold zig at e ⊢
  split at e
  · rename_i hn
    rw [if_pos hn, decide_eq_true (by omega), cond_true]
    have e2 : (2 * (-(n + 1)) + 1) / 2 = -(n + 1) := by omega
    rw [e2, wrap64 (x := -(n + 1)) (by omega), wrap64 (x := 0 - -(n + 1)) (by omega), wrap64 (by omega)]
    omega
  · rename_i hn
    rw [if_neg hn, decide_eq_false (by omega), cond_false]
    have e2 : (2 * n) / 2 = n := by omega
    rw [e2, wrap64 (by omega)]
/-- what is written is read -/
def Rt {X : Type} (g : Rd X) (enc : X → List Int) (b : List Int) (x : X) : Prop := ∀ (i : Nat) (r : List Int), i ≤ b.length → b.drop i = enc x ++ r → ∃ j : Nat, j ≤ b.length ∧ b.drop j = r ∧ g b (i : Int) = (x, (j : Int), true)
theorem pb_rt {X Y : Type} {g : Rd X} {enc : X → List Int} {b : List Int} {x : X} {i : Nat} {r : List Int} {z : Y} {f : X → Int → PR Y} {w : PR Y} (h : Rt g enc b x) (hi : i ≤ b.length) (hd : b.drop i = enc x ++ r) (hf : ∀ j : Nat, j ≤ b.length → b.drop j = r → f x (j : Int) = w) :
    pb z (g b (i : Int)) f = w := by
  obtain ⟨j, h1, h2, h3⟩ := h i r hi hd
  rw [h3]
  exact hf j h1 h2
theorem pb_rt2 {X Y : Type} {g : Rd X} {enc : X → List Int} {b : List Int} {x : X} {i : Nat} {r : List Int} {z : Y} {f : X → Int → PR Y} {y : Y} {rr : List Int} (h : Rt g enc b x) (hi : i ≤ b.length) (hd : b.drop i = enc x ++ r)
    (hf : ∀ j : Nat, j ≤ b.length → b.drop j = r → ∃ k : Nat, k ≤ b.length ∧ b.drop k = rr ∧ f x (j : Int) = (y, (k : Int), true)) : ∃ k : Nat, k ≤ b.length ∧ b.drop k = rr ∧ pb z (g b (i : Int)) f = (y, (k : Int), true) := by
  obtain ⟨j, h1, h2, h3⟩ := h i r hi hd
  rw [h3]
  exact hf j h1 h2
theorem int_rt (b : List Int) {n : Int} (h : I64 n) : Rt gIntP intB b n := by
  intro i r hi hd
  obtain ⟨e, hl⟩ := zig_nat h
  have hd' : b.drop i = natB 11 (zigN n : Int) ++ r := by rw [← e]; exact hd
  have hg := grpP_rt hl hd'
  obtain ⟨h1, h2⟩ := drop_app hi hd'
  refine ⟨i + (natB 11 (zigN n : Int)).length, h1, h2, ?_⟩
  unfold gIntP gIntN
  rw [Int.toNat_natCast, hg, ← e, zag_zig h]
  rfl
theorem bool_rt (b : List Int) (x : Bool) : Rt gBoolP (fun x => [bitI x]) b x := by
  intro i r hi hd
  obtain ⟨h1, h2, h3⟩ := drop_head hd
  refine ⟨i + 1, by omega, h3, ?_⟩
  unfold gBoolP
  rw [Int.toNat_natCast, h2, decide_eq_false (by omega), decide_eq_false (by omega), cond_false, cond_false]
  cases x <;> rfl
theorem text0_rt (b : List Int) : Rt (gTextP gIntP) textB b [] := by
  intro i r hi hd
  refine pb_rt2 (r := r) (int_rt b (n := 0) (by unfold I64; omega)) hi hd fun j hj hd => ⟨j, hj, hd, ?_⟩
  rw [decide_eq_false (by omega), decide_eq_false (by omega), decide_eq_false (by omega)]
  refine Prod.ext ?_ (Prod.ext ?_ rfl)
  · show strP ((b.drop ((j : Int)).toNat).take 0) = []
    rfl
  · show (j : Int) + 0 = (j : Int)
    omega
theorem ver0_rt (b : List Int) : Rt (gVerP gIntP) (fun _ => intB 0 ++ intB 0) b ⟨0, 0⟩ := by
  intro i r hi hd
  rw [List.append_assoc] at hd
  refine pb_rt2 (int_rt b (n := 0) (by unfold I64; omega)) hi hd fun j hj hd => ?_
  rw [decide_eq_false (by omega), decide_eq_false (by omega), Bool.or_false, cond_false]
  refine pb_rt2 (int_rt b (n := 0) (by unfold I64; omega)) hj hd fun j hj hd => ⟨j, hj, hd, ?_⟩
  rw [decide_eq_false (by omega), decide_eq_false (by omega)]
  rfl
theorem items_rt {X : Type} {g : Rd X} {enc : X → List Int} {b : List Int} : ∀ (l acc : List X) (i : Nat) (r : List Int), (∀ x ∈ l, Rt g enc b x) → i ≤ b.length → b.drop i = l.flatMap enc ++ r →
    ∃ j : Nat, j ≤ b.length ∧ b.drop j = r ∧ gItems g b l.length (i : Int) acc = (acc ++ l, (j : Int), true)
  | [], acc, i, r, _, hi, hd => ⟨i, hi, hd, by simp [gItems]⟩
  | x :: l, acc, i, r, h, hi, hd => by
    rw [List.flatMap_cons, List.append_assoc] at hd
    show ∃ j : Nat, _ ∧ _ ∧ pb [] (g b (i : Int)) (fun x a2 => gItems g b l.length a2 (acc ++ [x])) = _
    refine pb_rt2 (h x (by simp)) hi hd fun j hj hd => ?_
    obtain ⟨k, h1, h2, h3⟩ := items_rt l (acc ++ [x]) j r (fun y hy => h y (by simp [hy])) hj hd
    exact ⟨k, h1, h2, by rw [h3, List.append_assoc]; rfl⟩
theorem list_rt {X : Type} {g : Rd X} {enc : X → List Int} {b : List Int} {l : List X} (h : ∀ x ∈ l, Rt g enc b x) (hl : l.length ≤ 4096) : Rt (gListP gIntP g) (fun l => intB l.length ++ l.flatMap enc) b l := by
  intro i r hi hd
  rw [List.append_assoc] at hd
  refine pb_rt2 (int_rt b (n := l.length) (by unfold I64; omega)) hi hd fun j hj hd => ?_
  rw [decide_eq_false (by omega), decide_eq_false (by omega)]
  have e : ((l.length : Nat) : Int).toNat = l.length := Int.toNat_natCast _
  show ∃ k : Nat, _ ∧ _ ∧ gItems g b ((l.length : Nat) : Int).toNat (j : Int) [] = _
  rw [e]
  exact items_rt l [] j r h hj hd
theorem nums_cons (a : Int) (l : List Int) : numsB (a :: l) = intB a ++ numsB l := by simp [numsB]
theorem nums_nil : numsB [] = [] := rfl
theorem mem_rt (b : List Int) {m : Member} (h : MemOk m) : Rt (gMemP gIntP) memB b m := by
  intro i r hi hd
  unfold memB at hd
  simp only [nums_cons, nums_nil, List.append_nil, List.append_assoc] at hd
  exact pb_rt2 (int_rt b h.1) hi hd fun j hj hd => pb_rt2 (int_rt b h.2) hj hd fun j hj hd => ⟨j, hj, hd, rfl⟩
theorem view_rt (b : List Int) {v : Md.View} (h : ViewOk v) (hl : v.chain.length ≤ 4096) : Rt (gViewP gIntP) viewB b v := by
  intro i r hi hd
  unfold viewB at hd
  simp only [nums_cons, nums_nil, List.append_nil, List.append_assoc] at hd
  exact pb_rt2 (int_rt b h.1) hi hd fun j hj hd => pb_rt2 (int_rt b h.2.1) hj hd fun j hj hd => pb_rt2 (int_rt b h.2.2.1) hj hd fun j hj hd => pb_rt2 (int_rt b h.2.2.2.1) hj hd fun j hj hd =>
    pb_rt2 (list_rt (fun x hx => mem_rt b (h.2.2.2.2.2 x hx)) hl) hj (r := r) hd fun j hj hd => ⟨j, hj, hd, rfl⟩
end Go.Wk
end

section
/- A book as bytes, and read again; plain. -/
open Go Go.AM Go.Md
namespace Go.Wk
set_option maxRecDepth 100000
def vOf : List Plan → Nat → List Md.View
  | [], _ => []
  | p :: r, i => ⟨i, p.epoch, p.gen, p.phase, p.chain⟩ :: ⟨i, p.base, p.reset, bif p.fresh then 1 else 0, p.valid⟩ :: vOf r (i + 1)
def zM : Msg := default
def mkM (sess gen : Int) (vs : List Md.View) : Msg := ⟨4, 0, 0, 0, 0, 0, 0, gen, sess, 0, 0, 0, false, false, [], [], ⟨0, 0⟩, ⟨0, 0⟩, ⟨0, [], [], [], false⟩, [], [], vs, ⟨⟨0, 0⟩, ⟨0, 0⟩, 0, [], []⟩⟩
def mOf (b : Book) : Msg := mkM b.sess b.gen (vOf b.shards 0)
def putB (b : Book) : List Int := msgB (mOf b)
def MemsK (l : List Member) : Prop := l.length ≤ 4096 ∧ ∀ m ∈ l, MemOk m
def PlanOk (p : Plan) : Prop := I64 p.epoch ∧ I64 p.gen ∧ I64 p.phase ∧ I64 p.base ∧ I64 p.reset ∧ MemsK p.chain ∧ MemsK p.valid
def BookOk (b : Book) : Prop := I64 b.sess ∧ I64 b.gen ∧ b.shards.length ≤ 2048 ∧ ∀ p ∈ b.shards, PlanOk p
def ViewK (v : Md.View) : Prop := ViewOk v ∧ v.chain.length ≤ 4096
theorem MemsK.ok {l : List Member} (h : MemsK l) : MemsOk l := ⟨by have := h.1; omega, h.2⟩
theorem vOf_ok : ∀ (l : List Plan) (i : Nat), i + l.length ≤ 100000 → (∀ p ∈ l, PlanOk p) → (vOf l i).length = 2 * l.length ∧ ∀ v ∈ vOf l i, ViewK v
  | [], i, _, _ => ⟨rfl, fun v h => by cases h⟩
  | p :: r, i, hi, h => by
    have hp := h p (by simp)
    obtain ⟨h1, h2, h3, h4, h5, h6, h7⟩ := hp
    simp only [List.length_cons] at hi
    obtain ⟨g1, g2⟩ := vOf_ok r (i + 1) (by omega) (fun q hq => h q (by simp [hq]))
    refine ⟨by simp only [vOf, List.length_cons, g1]; omega, fun v hv => ?_⟩
    simp only [vOf, List.mem_cons] at hv
    have hi64 : I64 (i : Int) := by unfold I64; omega
    rcases hv with rfl | rfl | hv
    · exact ⟨⟨hi64, h1, h2, h3, h6.ok⟩, h6.1⟩
    · exact ⟨⟨hi64, h4, h5, by show I64 (bif p.fresh then 1 else 0); cases p.fresh <;> (simp only [cond_true, cond_false]; unfold I64; omega), h7.ok⟩, h7.1⟩
    · exact g2 v hv
/-! ### read again -/
theorem verB0 : verB ⟨0, 0⟩ = intB 0 ++ intB 0 := by decide +kernel
theorem ver0_rt' (b : List Int) : Rt (gVerP gIntP) verB b ⟨0, 0⟩ := by
  intro i r hi hd
  rw [verB0] at hd
  exact ver0_rt b i r hi hd
theorem i0 : I64 0 := by unfold I64; omega
theorem op0_rt (b : List Int) : Rt (gOpP gIntP) opB b ⟨0, [], [], [], false⟩ := by
  intro i r hi hd
  unfold opB at hd
  simp only [List.flatten_cons, List.flatten_nil, List.append_nil, List.append_assoc] at hd
  exact pb_rt2 (int_rt b i0) hi hd fun j hj hd => pb_rt2 (text0_rt b) hj hd fun j hj hd => pb_rt2 (text0_rt b) hj hd fun j hj hd => pb_rt2 (text0_rt b) hj hd fun j hj hd => pb_rt2 (bool_rt b false) hj hd fun j hj hd => ⟨j, hj, hd, rfl⟩
theorem img0_rt (b : List Int) : Rt (gImgP gIntP) imgB b ⟨⟨0, 0⟩, ⟨0, 0⟩, 0, [], []⟩ := by
  intro i r hi hd
  unfold imgB at hd
  simp only [List.append_assoc] at hd
  exact pb_rt2 (ver0_rt' b) hi hd fun j hj hd => pb_rt2 (ver0_rt' b) hj hd fun j hj hd => pb_rt2 (int_rt b i0) hj hd fun j hj hd =>
    pb_rt2 (list_rt (enc := entB) (l := []) (fun x hx => by cases hx) (Nat.zero_le _)) hj hd fun j hj hd =>
    pb_rt2 (list_rt (enc := seenB) (l := []) (fun x hx => by cases hx) (Nat.zero_le _)) hj (r := r) hd fun j hj hd => ⟨j, hj, hd, rfl⟩
theorem msg_rt (s : List Int) {e g : Int} {vs : List Md.View} (he : I64 e) (hg : I64 g) (hl : vs.length ≤ 4096) (hv : ∀ v ∈ vs, ViewK v) :
    gMsgP gIntP (msgB (mkM e g vs) ++ s) = (mkM e g vs, ((msgB (mkM e g vs)).length : Int), true) := by
  have hb : ∃ b, b = msgB (mkM e g vs) ++ s := ⟨_, rfl⟩
  obtain ⟨b, hb⟩ := hb
  rw [← hb]
  have key : ∃ k : Nat, k ≤ b.length ∧ b.drop k = s ∧ gMsgP gIntP b = (mkM e g vs, (k : Int), true) := by
    have hd : b.drop 0 = msgB (mkM e g vs) ++ s := by rw [List.drop_zero, hb]
    unfold msgB msgN mkM at hd
    simp only [nums_cons, nums_nil, List.append_nil, List.append_assoc] at hd
    have hd : b.drop 0 = intB 4 ++ (intB 0 ++ (intB 0 ++ (intB 0 ++ (intB 0 ++ (intB 0 ++ (intB 0 ++ (intB g ++ (intB e ++ (intB 0 ++ (intB 0 ++ (intB 0 ++ ([bitI false] ++ ([bitI false] ++ (textB [] ++ (textB [] ++ (verB ⟨0, 0⟩ ++ (verB ⟨0, 0⟩ ++ (opB ⟨0, [], [], [], false⟩ ++ ((intB (([] : List Entry).length : Nat) ++ ([] : List Entry).flatMap entB) ++ ((intB (([] : List Member).length : Nat) ++ ([] : List Member).flatMap memB) ++ ((intB vs.length ++ vs.flatMap viewB) ++ (imgB ⟨⟨0, 0⟩, ⟨0, 0⟩, 0, [], []⟩ ++ s)))))))))))))))))))))) := by
      rw [hd]
      simp only [entsB, memsB, viewsB, List.append_assoc, List.cons_append, List.nil_append]
    unfold gMsgP
    have z := int_rt b i0
    have n4 : I64 4 := by unfold I64; omega
    exact pb_rt2 (int_rt b n4) (Nat.zero_le _) hd fun j hj hd => pb_rt2 z hj hd fun j hj hd => pb_rt2 z hj hd fun j hj hd => pb_rt2 z hj hd fun j hj hd => pb_rt2 z hj hd fun j hj hd => pb_rt2 z hj hd fun j hj hd => pb_rt2 z hj hd fun j hj hd =>
      pb_rt2 (int_rt b hg) hj hd fun j hj hd => pb_rt2 (int_rt b he) hj hd fun j hj hd => pb_rt2 z hj hd fun j hj hd => pb_rt2 z hj hd fun j hj hd => pb_rt2 z hj hd fun j hj hd =>
      pb_rt2 (bool_rt b false) hj hd fun j hj hd => pb_rt2 (bool_rt b false) hj hd fun j hj hd => pb_rt2 (text0_rt b) hj hd fun j hj hd => pb_rt2 (text0_rt b) hj hd fun j hj hd => pb_rt2 (ver0_rt' b) hj hd fun j hj hd => pb_rt2 (ver0_rt' b) hj hd fun j hj hd =>
      pb_rt2 (op0_rt b) hj hd fun j hj hd => pb_rt2 (list_rt (enc := entB) (l := []) (fun x hx => by cases hx) (Nat.zero_le _)) hj hd fun j hj hd =>
      pb_rt2 (list_rt (enc := memB) (l := []) (fun x hx => by cases hx) (Nat.zero_le _)) hj hd fun j hj hd => pb_rt2 (list_rt (enc := viewB) (fun v hv' => view_rt b (hv v hv').1 (hv v hv').2) hl) hj hd fun j hj hd =>
      pb_rt2 (img0_rt b) hj hd fun j hj hd => ⟨j, hj, hd, rfl⟩
  obtain ⟨k, h1, h2, h3⟩ := key
  rw [h3]
  have h4 : (b.drop k).length = s.length := by rw [h2]
  rw [List.length_drop] at h4
  have h5 : b.length = (msgB (mkM e g vs)).length + s.length := by rw [hb, List.length_append]
  refine Prod.ext rfl (Prod.ext ?_ rfl)
  show (k : Int) = ((msgB (mkM e g vs)).length : Int)
  omega
/-! ### what a message that was read is -/
def pOf : List Md.View → List Plan
  | v :: w :: r => ⟨v.epoch, v.gen, v.phase, decide (w.phase = 1), w.epoch, w.gen, v.chain, w.chain⟩ :: pOf r
  | _ => []
def bOf (m : Msg) : Book := ⟨m.sess, m.gen, pOf m.views⟩
theorem pOf_vOf : ∀ (l : List Plan) (i : Nat), pOf (vOf l i) = l
  | [], _ => rfl
  | p :: r, i => by
    show (⟨p.epoch, p.gen, p.phase, decide ((bif p.fresh then (1 : Int) else 0) = 1), p.base, p.reset, p.chain, p.valid⟩ : Plan) :: pOf (vOf r (i + 1)) = p :: r
    rw [pOf_vOf r (i + 1)]
    obtain ⟨a, b, c, f, d, e, g, h⟩ := p
    cases f <;> rfl
theorem bOf_mOf (b : Book) : bOf (mOf b) = b := by
  show (⟨b.sess, b.gen, pOf (vOf b.shards 0)⟩ : Book) = b
  rw [pOf_vOf]
theorem pOf_len : ∀ l : List Md.View, (pOf l).length = l.length / 2
  | [] => rfl
  | [_] => by simp [pOf]
  | _ :: _ :: r => by simp only [pOf, List.length_cons, pOf_len r]; omega
theorem pOf_ok : ∀ l : List Md.View, (∀ v ∈ l, ViewK v) → ∀ p ∈ pOf l, PlanOk p
  | [], _, p, h => by cases h
  | [_], _, p, h => by cases h
  | v :: w :: r, h, p, hp => by
    rcases List.mem_cons.1 hp with rfl | hp
    · have hv := h v (by simp)
      have hw := h w (by simp)
      exact ⟨hv.1.2.1, hv.1.2.2.1, hv.1.2.2.2.1, hw.1.2.1, hw.1.2.2.1, ⟨hv.2, hv.1.2.2.2.2.2⟩, ⟨hw.2, hw.1.2.2.2.2.2⟩⟩
    · exact pOf_ok r (fun x hx => h x (by simp [hx])) p hp
/-- what is read is right -/
def RdP {X : Type} (g : Rd X) (b : List Int) (P : X → Prop) : Prop := ∀ i : Int, (g b i).2.2 = true → P (g b i).1
theorem pb_ok {X Y : Type} {g : Rd X} {b : List Int} {z : Y} {f : X → Int → PR Y} {i : Int} {P : X → Prop} {Q : Y → Prop} (hg : RdP g b P) (hf : ∀ x j, P x → (f x j).2.2 = true → Q (f x j).1) : (pb z (g b i) f).2.2 = true → Q (pb z (g b i) f).1 := by
  unfold pb
  cases h : (g b i).2.2 with
  | false => exact fun h => by cases h
  | true => exact hf _ _ (hg i h)
theorem int_ok (b : List Int) : RdP gIntP b I64 := fun i _ => gInt_in b i
theorem any_ok {X : Type} (g : Rd X) (b : List Int) : RdP g b fun _ => True := fun _ _ => trivial
theorem items_ok {X : Type} {g : Rd X} {b : List Int} {P : X → Prop} (hg : RdP g b P) : ∀ (n : Nat) (i : Int) (acc : List X), (∀ x ∈ acc, P x) → (gItems g b n i acc).2.2 = true → (gItems g b n i acc).1.length = acc.length + n ∧ ∀ x ∈ (gItems g b n i acc).1, P x
  | 0, i, acc, ha => fun _ => ⟨rfl, ha⟩
  | n + 1, i, acc, ha => by
    show (pb [] (g b i) fun x a2 => gItems g b n a2 (acc ++ [x])).2.2 = true → _ ∧ _
    refine pb_ok (Q := fun l : List X => l.length = acc.length + (n + 1) ∧ ∀ x ∈ l, P x) hg fun x j hx h => ?_
    obtain ⟨h1, h2⟩ := items_ok hg n j (acc ++ [x]) (fun y hy => by
      rcases List.mem_append.1 hy with hy | hy
      · exact ha y hy
      · rw [List.mem_singleton] at hy; subst hy; exact hx) h
    exact ⟨by rw [h1, List.length_append]; simp; omega, h2⟩
theorem list_ok {X : Type} {g : Rd X} {b : List Int} {P : X → Prop} (hg : RdP g b P) : RdP (gListP gIntP g) b fun l => l.length ≤ 4096 ∧ ∀ x ∈ l, P x := fun i => by
  refine pb_ok (Q := fun l : List X => l.length ≤ 4096 ∧ ∀ x ∈ l, P x) (int_ok b) fun n j _ => ?_
  cases hc : decide (n < 0) || decide (4096 < n) with
  | true => exact fun h => by cases h
  | false =>
    simp only [cond_false]
    intro h
    obtain ⟨h1, h2⟩ := items_ok hg n.toNat j [] (fun x hx => by cases hx) h
    rw [Bool.or_eq_false_iff] at hc
    have := of_decide_eq_false hc.1
    have := of_decide_eq_false hc.2
    exact ⟨by rw [h1]; simp; omega, h2⟩
theorem mem_ok (b : List Int) : RdP (gMemP gIntP) b MemOk := fun i => pb_ok (int_ok b) fun n j hn => pb_ok (int_ok b) fun o j ho _ => ⟨hn, ho⟩
theorem view_ok (b : List Int) : RdP (gViewP gIntP) b ViewK := fun i => pb_ok (int_ok b) fun _ j h1 => pb_ok (int_ok b) fun _ j h2 => pb_ok (int_ok b) fun _ j h3 => pb_ok (int_ok b) fun _ j h4 => pb_ok (list_ok (mem_ok b)) fun c j h5 _ => ⟨⟨h1, h2, h3, h4, MemsK.ok (l := c) ⟨h5.1, h5.2⟩⟩, h5.1⟩
def MsgK (m : Msg) : Prop := I64 m.sess ∧ I64 m.gen ∧ m.views.length ≤ 4096 ∧ ∀ v ∈ m.views, ViewK v
theorem msg_ok {b : List Int} (h : (gMsgP gIntP b).2.2 = true) : MsgK (gMsgP gIntP b).1 := by
  revert h
  unfold gMsgP
  refine pb_ok (int_ok b) fun _ _ _ => pb_ok (int_ok b) fun _ _ _ => pb_ok (int_ok b) fun _ _ _ => pb_ok (int_ok b) fun _ _ _ => pb_ok (int_ok b) fun _ _ _ => pb_ok (int_ok b) fun _ _ _ => pb_ok (int_ok b) fun _ _ _ => pb_ok (int_ok b) fun _ _ hg =>
    pb_ok (int_ok b) fun _ _ he => pb_ok (int_ok b) fun _ _ _ => pb_ok (int_ok b) fun _ _ _ => pb_ok (int_ok b) fun _ _ _ => pb_ok (any_ok gBoolP b) fun _ _ _ => pb_ok (any_ok gBoolP b) fun _ _ _ => pb_ok (any_ok (gTextP gIntP) b) fun _ _ _ => pb_ok (any_ok (gTextP gIntP) b) fun _ _ _ =>
    pb_ok (any_ok (gVerP gIntP) b) fun _ _ _ => pb_ok (any_ok (gVerP gIntP) b) fun _ _ _ => pb_ok (any_ok (gOpP gIntP) b) fun _ _ _ => pb_ok (any_ok (gListP gIntP (gEntP gIntP)) b) fun _ _ _ => pb_ok (any_ok (gListP gIntP (gMemP gIntP)) b) fun _ _ _ => pb_ok (list_ok (view_ok b)) fun vi _ hv =>
    pb_ok (any_ok (gImgP gIntP) b) fun _ _ _ _ => ⟨he, hg, hv.1, hv.2⟩
/-! ### Get -/
/-- of a message: is it a book's, of so many plans? -/
def fitM (m : Msg × Bool) (n : Int) : Bool := m.2 && (decide (m.1.views.length % 2 = 0) && decide (((m.1.views.length / 2 : Nat) : Int) = n))
def getB (x : List Int) (n : Int) : Book × Bool := bif fitM (gMsgF gIntP x) n then bif decide (putB (bOf (gMsgF gIntP x).1) = x) then (bOf (gMsgF gIntP x).1, true) else (⟨0, 0, []⟩, false) else (⟨0, 0, []⟩, false)
theorem msgF_true {x : List Int} (h : (gMsgF gIntP x).2 = true) : (gMsgP gIntP x).2.2 = true ∧ gMsgF gIntP x = ((gMsgP gIntP x).1, true) := by
  unfold gMsgF at h ⊢
  cases hc : ((gMsgP gIntP x).2.2 && decide ((gMsgP gIntP x).2.1 = (x.length : Int))) with
  | false => rw [hc] at h; cases h
  | true => rw [Bool.and_eq_true] at hc; exact ⟨hc.1, rfl⟩
theorem msgF_k {x : List Int} (h : (gMsgF gIntP x).2 = true) : MsgK (gMsgF gIntP x).1 := by
  obtain ⟨h1, h2⟩ := msgF_true h
  rw [h2]; exact msg_ok h1
theorem bOf_ok {m : Msg} (h : MsgK m) : BookOk (bOf m) := ⟨h.1, h.2.1, by show (pOf m.views).length ≤ 2048; rw [pOf_len]; have := h.2.2.1; omega, pOf_ok _ h.2.2.2⟩
theorem getB_true {x : List Int} {n : Int} (h : (getB x n).2 = true) : putB (getB x n).1 = x ∧ (((getB x n).1.shards.length : Nat) : Int) = n ∧ BookOk (getB x n).1 := by
  unfold getB at h ⊢
  cases h1 : fitM (gMsgF gIntP x) n with
  | false => rw [h1] at h; cases h
  | true =>
    rw [h1] at h
    simp only [cond_true] at h ⊢
    cases h2 : decide (putB (bOf (gMsgF gIntP x).1) = x) with
    | false => rw [h2] at h; cases h
    | true =>
      simp only [cond_true]
      unfold fitM at h1
      simp only [Bool.and_eq_true, decide_eq_true_eq] at h1
      refine ⟨of_decide_eq_true h2, ?_, bOf_ok (msgF_k h1.1)⟩
      show ((pOf (gMsgF gIntP x).1.views).length : Int) = n
      rw [pOf_len]; exact h1.2.2
theorem getB_false {x : List Int} {n : Int} (h : (getB x n).2 = false) : (getB x n).1 = ⟨0, 0, []⟩ := by
  unfold getB at h ⊢
  cases h1 : fitM (gMsgF gIntP x) n with
  | false => rfl
  | true =>
    rw [h1] at h
    simp only [cond_true] at h ⊢
    cases h2 : decide (putB (bOf (gMsgF gIntP x).1) = x) with
    | false => rfl
    | true => rw [h2] at h; cases h
theorem book_rt (s : List Int) {b : Book} (h : BookOk b) : gMsgP gIntP (putB b ++ s) = (mOf b, ((putB b).length : Int), true) := by
  obtain ⟨h1, h2, h3, h4⟩ := h
  obtain ⟨g1, g2⟩ := vOf_ok b.shards 0 (by omega) h4
  exact msg_rt s h1 h2 (by omega) g2
theorem putB_msgF {b : Book} (h : BookOk b) : gMsgF gIntP (putB b) = (mOf b, true) := by
  have := book_rt [] h
  rw [List.append_nil] at this
  unfold gMsgF
  rw [this, decide_eq_true rfl]; rfl
theorem getB_putB {b : Book} (h : BookOk b) : getB (putB b) b.shards.length = (b, true) := by
  obtain ⟨g1, _⟩ := vOf_ok b.shards 0 (by have := h.2.2.1; omega) h.2.2.2
  unfold getB fitM
  rw [putB_msgF h, bOf_mOf, decide_eq_true rfl]
  have e : (mOf b).views.length = 2 * b.shards.length := g1
  rw [e, decide_eq_true (by omega), decide_eq_true (by omega)]
  rfl
theorem getB_more {b : Book} (h : BookOk b) : (getB (putB b) (b.shards.length + 1)).2 = false := by
  cases hc : (getB (putB b) (b.shards.length + 1)).2 with
  | false => rfl
  | true =>
    obtain ⟨g1, _⟩ := vOf_ok b.shards 0 (by have := h.2.2.1; omega) h.2.2.2
    have e : (mOf b).views.length = 2 * b.shards.length := g1
    unfold getB fitM at hc
    rw [putB_msgF h] at hc
    simp only [e] at hc
    rw [decide_eq_false (by omega : ¬ (((2 * b.shards.length / 2 : Nat) : Int) = b.shards.length + 1))] at hc
    simp at hc
theorem getB_cut {b : Book} {y : List Int} {a n : Int} (h : BookOk b) (hy : putB b = y ++ [a]) : (getB y n).2 = false := by
  cases hc : (getB y n).2 with
  | false => rfl
  | true =>
    obtain ⟨h1, _, h3⟩ := getB_true hc
    have r1 := book_rt [a] h3
    have r2 := book_rt [] h
    rw [h1, ← hy] at r1
    rw [List.append_nil, r1] at r2
    have := congrArg (fun p => p.2.1) r2
    have hl : (putB b).length = y.length + 1 := by rw [hy, List.length_append]; rfl
    simp only at this
    omega
end Go.Wk
end
