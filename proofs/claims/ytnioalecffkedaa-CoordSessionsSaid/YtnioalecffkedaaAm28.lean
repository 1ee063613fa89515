/- From the abstract machine's 'true' to a law's contract. -/
import Derived.Test.YtnioalecffkedaaAm27
set_option linter.unusedVariables false
set_option linter.unusedSimpArgs false
namespace Go.AM

def argOf (P : Program) (t : TypeId) (av : List AV) : AV :=
  match P.underlying t with
  | some (.struct _) => .agg av
  | _ => av.headD .undef

/-- the arguments of a law -/
def Args (P : Program) (N : Nat) : List TypeId → List AV → Prop
  | [], vs => vs = []
  | t :: ts, vs => ∃ av r, Shape P N t av ∧ vs = argOf P t av :: r ∧ Args P N ts r

section
variable {H : Type} {enc : TypeId × Value → H} {P : Program} {W W' : World} {I : Nat → Prop}

theorem arg_ok (hI : ∀ B, B < W.heap.size → I B) {N base : Nat} {t : TypeId} {v : Value} {d : DataW H} {ps : List MemPlace} (hg : goodT P N t = true) (hval : Value.okWide P W .any base t v)
    (h : DataW.Trod enc P W 0 (fun _ => true) true t v d ps) : ∃ av, Shape P N t av ∧ RV W I Phi.no (argOf P t av) v := by
  obtain ⟨m, hm⟩ := h
  cases N with
  | zero => cases hg
  | succ N =>
    have hlen : v.cells.toList.length = P.cellsOf t ∧ ((∃ fs, P.underlying t = some (.struct fs)) → ∃ cs, v = .agg cs) ∧ ((∀ fs, P.underlying t ≠ some (.struct fs)) → v.cells.toList = [v]) := by
      have hg' := hg
      unfold goodT at hg'
      unfold Value.okWide at hval
      cases hu : P.underlying t with
      | none => rw [hu] at hg'; cases hg'
      | some u =>
        rw [hu] at hg' hval
        cases u <;> simp only at hg' hval <;> try (cases hg'; done)
        case struct fs =>
          obtain ⟨cs, rfl, hs, _⟩ := hval
          refine ⟨by simpa [Value.cells] using hs, fun _ => ⟨cs, rfl⟩, fun h => absurd rfl (h fs)⟩
        case slice e =>
          have := Nat.eq_of_beq_eq_true (and_true' hg').1
          unfold Cell.okWide Cell.ok at hval
          rw [hu] at hval
          cases v <;> simp at hval <;> exact ⟨by simp [Value.cells, this], fun ⟨fs, e⟩ => (by cases e), fun _ => by simp [Value.cells]⟩
        all_goals
          have := Nat.eq_of_beq_eq_true hg'
          unfold Cell.okWide Cell.ok at hval
          rw [hu] at hval
          cases v <;> simp at hval <;> exact ⟨by simp [Value.cells, this], fun ⟨fs, e⟩ => (by cases e), fun _ => by simp [Value.cells]⟩
    obtain ⟨h1, h2, h3⟩ := hlen
    obtain ⟨av, g1, g2, g3⟩ := read_ok hI (N + 1) t _ hg h1 ⟨m, _, hm⟩
    refine ⟨av, g1, ?_⟩
    unfold argOf
    by_cases hs : ∃ fs, P.underlying t = some (.struct fs)
    · obtain ⟨cs, rfl⟩ := h2 hs
      obtain ⟨fs, hfs⟩ := hs
      rw [hfs]
      simp only [Value.cells] at g2 g3
      refine .agg _ _ (by simpa using g2) (fun k u e => ?_) (fun k c u e e' => ?_)
      · have hk : k < av.length := by
          rw [g2]; simpa using (Array.getElem?_eq_some_iff.1 e).1
        exact (g3 k av[k] u (List.getElem?_eq_getElem hk) (by rw [Array.getElem?_toList]; exact e)).2
      · exact (g3 k c u e (by rw [Array.getElem?_toList]; exact e')).1
    · have hs : ∀ fs, P.underlying t ≠ some (.struct fs) := fun fs e => hs ⟨fs, e⟩
      have h3 := h3 hs
      rw [h3] at g2 g3
      have : ∃ c, av = [c] := by
        match av, g2 with
        | [c], _ => exact ⟨c, rfl⟩
      obtain ⟨c, rfl⟩ := this
      have := (g3 0 c v rfl rfl).1
      split
      · rename_i fs e; exact absurd e (hs fs)
      · exact this

theorem args_ok (hI : ∀ B, B < W.heap.size → I B) {N base : Nat} : ∀ {ts : List TypeId} {vs : List Value} {ds : List (DataW H)} {ps : List MemPlace}, (∀ t ∈ ts, goodT P N t = true) →
    (∀ (j : Nat) t v, ts[j]? = some t → vs[j]? = some v → Value.okWide P W .any base t v) → DataW.TrodAll enc P W 0 (fun _ => true) true ts vs ds ps →
    ∃ avs, Args P N ts avs ∧ avs.length = vs.length ∧ ∀ (k : Nat) c u, avs[k]? = some c → vs[k]? = some u → RV W I Phi.no c u
  | [], [], [], ps, _, _, _ => ⟨[], rfl, rfl, fun k c u e => by simp at e⟩
  | t :: ts, v :: vs, d :: ds, ps, hg, hval, ⟨p, q, h1, h2, _⟩ => by
    obtain ⟨avs, g1, g2, g3⟩ := args_ok hI (fun t ht => hg t (by simp [ht])) (fun j t v e e' => hval (j + 1) t v (by simpa using e) (by simpa using e')) h2
    obtain ⟨av, g4, g5⟩ := arg_ok hI (hg t (by simp)) (hval 0 t v rfl rfl) h1
    refine ⟨argOf P t av :: avs, ⟨av, avs, g4, rfl, g1⟩, by simp [g2], fun k c u e e' => ?_⟩
    cases k with
    | zero => simp at e e'; subst e; subst e'; exact g5
    | succ k => exact g3 k c u (by simpa using e) (by simpa using e')
  | [], [], _ :: _, _, _, _, h => h.elim
  | [], _ :: _, _, _, _, _, h => h.elim
  | _ :: _, [], _, _, _, _, h => h.elim
  | _ :: _, _ :: _, [], _, _, _, h => h.elim

/-- as 'post_of_same', but for new memory, which may be frozen -/
theorem post_of_old {f : Func} {s : ChangeSpec} {apart fresh handsOn again : Bool} {args : Array Value} {v : Value} {ds gs : List (DataW H)} {before pa pv : List MemPlace}
    (hW : DataW.Whole enc P f.params.toList s.vars apart W args.toList ds gs before)
    (hres : ∀ (b : Nat) (sp : Nat → Bool) (hd : Bool), DataW.TrodAll enc P W' b sp hd f.resultTypes.toList (v.resultList f.resultTypes.size) (s.fn H (ds ++ gs)).results [])
    (hargs : ∀ sp : Nat → Bool, (∀ p ∈ before, sp p.block = true) → DataW.TrodAll enc P W' 0 sp true f.params.toList args.toList (s.fn H (ds ++ gs)).args pa)
    (hvars : ∀ sp : Nat → Bool, (∀ p ∈ before, sp p.block = true) → DataW.TrodVars enc P W' sp s.vars (s.fn H (ds ++ gs)).vars pv)
    (hps : before = pa ++ pv) (hb : RowKit.Below W.heap.size W W')
    (hok : ∀ (j : Nat) (t : TypeId) (r : Value), f.resultTypes[j]? = some t → (v.resultList f.resultTypes.size)[j]? = some r → Value.okWide P W' .any 0 t r) :
    s.post enc P f apart fresh handsOn again W args v W' := by
  have hold : ∀ p ∈ before, (fun b => decide (b < W.heap.size)) p.block = true := fun p hp => by simpa using hW.lt p hp
  have hlt := hW.lt
  refine ⟨ds, gs, before, [], pa, pv, hW, hres _ _ _, hargs _ hold, hvars _ hold, World.keptBut_mono (fun p hp => ⟨hp, ?_⟩) (hb.frame (· ∈ before)), fun _ => ?_⟩
  · rw [hps, List.mem_append] at hp
    exact Or.inr hp
  · obtain ⟨_, _, _, _, _, hz, hn⟩ := hW
    refine ⟨hok, _, _, ([] ++ pa) ++ pv, ⟨[] ++ pa, pv, ChangeShapes.trodAll_append (hargs _ (fun _ _ => rfl)) (hres _ _ _), hvars _ (fun _ _ => rfl), rfl, ?_, ?_⟩, ?_⟩
    · intro b off hp
      have hp' : MemPlace.cell b off ∈ before := by rw [hps]; simpa using hp
      rw [hb.frozen (p := ⟨b, off, none⟩) (hlt _ hp')]
      exact hz b off hp'
    · intro ha
      have := hn ha
      rw [hps] at this
      simpa using this
    · intro p hp _
      rw [hps]
      simpa using hp

theorem trodAll_stays (hl : laidOutB P = true) (hb : RowKit.Below W.heap.size W W') {sp : Nat → Bool} : ∀ {ts : List TypeId} {vs : List Value} {ds : List (DataW H)} {ps : List MemPlace}, (∀ t ∈ ts, P.readableRec t = true ∧ t < P.types.size) →
    DataW.TrodAll enc P W 0 (fun _ => true) true ts vs ds ps → (∀ x ∈ ps, x.block < W.heap.size) → (∀ x ∈ ps, sp x.block = true) → DataW.TrodAll enc P W' 0 sp true ts vs ds ps
  | [], [], [], ps, _, h, _, _ => h
  | t :: ts, v :: vs, d :: ds, ps, hr, ⟨p, q, h1, h2, e⟩, hlt, hsp => by
    subst e
    refine ⟨p, q, WideElems.Trod_stays hl (hr t (by simp)).1 (hr t (by simp)).2 h1 (fun x hx => hb.same (hlt x (by simp [hx]))) (fun x hx => hsp x (by simp [hx])),
      trodAll_stays hl hb (fun t ht => hr t (by simp [ht])) h2 (fun x hx => hlt x (by simp [hx])) (fun x hx => hsp x (by simp [hx])), rfl⟩
  | [], [], _ :: _, _, _, h, _, _ => h.elim
  | [], _ :: _, _, _, _, h, _, _ => h.elim
  | _ :: _, [], _, _, _, h, _, _ => h.elim
  | _ :: _, _ :: _, [], _, _, h, _, _ => h.elim

/-- every value that reads as the one reads as the other -/
def SubV (c c' : AV) : Prop := ∀ (w : World) (I : Nat → Prop) (u : Value), RV w I Phi.no c u → RV w I Phi.no c' u
def SubC (cs cs' : List AV) : Prop := cs.length = cs'.length ∧ ∀ (k : Nat) c c', cs[k]? = some c → cs'[k]? = some c' → SubV c c'

theorem SubV.refl (c : AV) : SubV c c := fun _ _ _ h => h
theorem SubC.refl (cs : List AV) : SubC cs cs := ⟨rfl, fun k c c' e e' => by rw [e] at e'; cases e'; exact .refl _⟩
theorem SubC.nil : SubC [] [] := .refl _
theorem SubC.cons {c c' : AV} {cs cs' : List AV} (h : SubV c c') (h' : SubC cs cs') : SubC (c :: cs) (c' :: cs') := by
  refine ⟨by simp [h'.1], fun k x x' e e' => ?_⟩
  cases k with
  | zero => simp at e e'; subst e; subst e'; exact h
  | succ k => exact h'.2 k x x' (by simpa using e) (by simpa using e')

theorem SubC.get {cs cs' : List AV} (h : SubC cs cs') {k : Nat} {c' : AV} (e : cs'[k]? = some c') : ∃ c, cs[k]? = some c ∧ SubV c c' := by
  have hk : k < cs.length := by rw [h.1]; exact (List.getElem?_eq_some_iff.1 e).1
  exact ⟨cs[k], List.getElem?_eq_getElem hk, h.2 k _ c' (List.getElem?_eq_getElem hk) e⟩

theorem SubV.tr {sz : Nat} {es : List (List AV)} {f : Nat → List AV} (h : ∀ i, i < es.length → SubC (es.getD i []) (f i)) : SubV (.trl sz es) (.tr sz es.length f) := by
  intro w I u hv
  cases hv with
  | trl _ _ _ hv hz =>
    generalize hn : es.length = n at *
    generalize hf : (fun i => es.getD i []) = g at hv
    have hg : ∀ i, g i = es.getD i [] := fun i => by rw [← hf]
    cases hv with
    | tr _ _ _ B o cap uf hI hn' hlen hc h1 hr =>
      refine .tr sz n f B o cap uf hI hn' (fun i hi => ?_) (fun i k c hi e => ?_) (fun i k c hi e => ?_) (fun i k c hi e => ?_)
      · rw [← (h i hi).1, ← hg]; exact hlen i hi
      · obtain ⟨c0, e0, _⟩ := (h i hi).get e
        rw [← hg] at e0; exact hc i k c0 hi e0
      · obtain ⟨c0, e0, _⟩ := (h i hi).get e
        rw [← hg] at e0; exact h1 i k c0 hi e0
      · obtain ⟨c0, e0, hs⟩ := (h i hi).get e
        rw [← hg] at e0; exact hs _ _ _ (hr i k c0 hi e0)
    | trn => exact .trn _ _ _

theorem SubV.agg {cs cs' : List AV} (h : SubC cs cs') : SubV (.agg cs) (.agg cs') := by
  intro w I u hv
  cases hv with
  | agg _ vs hl h1 hr =>
    refine .agg _ _ (h.1.symm.trans hl) h1 fun k c u e e' => ?_
    obtain ⟨c0, e0, hs⟩ := h.get e
    exact hs _ _ _ (hr k c0 u e0 e')

/-- the abstract machine says 'true', at whatever arguments of the types -/
def LawOk (P : Program) (env : Env) (N f : Nat) (ts : List TypeId) : Prop :=
  ∀ avs, Args P N ts avs → ∃ avs' n hp, SubC avs avs' ∧ evFn (R := AV × Heap) env n f avs' [] (fun r h => some (r, h)) = some (.bool true, hp)

theorem law_post {env : Env} {N base f tb : Nat} {fn : Func} {s : ChangeSpec} (henv : EnvOk P env) (hcode : CodeOk P env) (hm : P.follows .mixedOrders = true) (hfn : P.funcs[f]? = some fn) (hbody : fn.body.isNone = false)
    (hname : (fn.name == "runtime.NumGoroutine") = false)
    (hvars : s.vars = []) (hrt : fn.resultTypes = #[tb]) (hbool : P.underlying tb = some .bool)
    (hspec : ∀ ds : List (DataW H), ds.length = fn.params.toList.length → s.fn H ds = { results := [.lit (.bool true)], args := ds })
    (hlaid : laidOutB P = true) (hread : ∀ t ∈ fn.params.toList, P.readableRec t = true ∧ t < P.types.size) (hgood : ∀ t ∈ fn.params.toList, goodT P N t = true)
    (hlaw : LawOk P env N f fn.params.toList) {args : Array Value} {ds gs : List (DataW H)} {before : List MemPlace}
    (hval : ∀ (j : Nat) t v, fn.params[j]? = some t → args[j]? = some v → Value.okWide P W .any base t v) (hW : DataW.Whole enc P fn.params.toList s.vars false W args.toList ds gs before) :
    Calls P f args W fun e W' => ∃ v, e = .returned v ∧ s.post enc P fn false true false false W args v W' := by
  have hW' := hW
  obtain ⟨p, q, hA, hV, rfl, hfz, hnd⟩ := hW
  rw [hvars] at hV
  have hgs : gs = [] ∧ q = [] := by
    cases gs with
    | nil => exact ⟨rfl, hV⟩
    | cons g gs => exact hV.elim
  obtain ⟨rfl, rfl⟩ := hgs
  have hlt := hW'.lt
  simp only [List.append_nil] at hlt hW'
  let I : Nat → Prop := fun B => B < W.heap.size
  obtain ⟨avs, h1, h2, h3⟩ := args_ok (I := I) (fun _ h => h) hgood (fun j t v e e' => hval j t v (by rwa [Array.getElem?_toList] at e) (by rwa [Array.getElem?_toList] at e')) hA
  obtain ⟨avs', n, hp, hsub, hrun⟩ := hlaw avs h1
  obtain ⟨res, hp', k1, _, hc⟩ := ev_ok henv hcode hm n f avs' [] _ _ hrun
  cases k1
  have hans := hc W I Phi.no args (RH.empty W I fun _ h => h) ⟨by rw [← hsub.1]; simpa using h2, fun k x u e e' => by
    obtain ⟨c0, e0, hs⟩ := hsub.get e
    exact hs _ _ _ (h3 k c0 u e0 (by rw [Array.getElem?_toList]; exact e'))⟩
  have hpost : ∀ u W', (∃ φ' I', RV W' I' φ' (.bool true) u ∧ RH W' I' φ' (hget hp) ∧ Step ([] : Heap).length (hget []) Phi.no I W (hget hp) φ' I' W') → s.post enc P fn false true false false W args u W' := by
    rintro u W' ⟨φ', I', g1, _, g2⟩
    cases g1
    have hb : RowKit.Below W.heap.size W W' := ⟨g2.ext.os, g2.ext.tape, g2.ext.output, g2.ext.size, fun k hk => g2.ext.keep k hk fun hm => not_mut_nil hm⟩
    have hds : ds.length = fn.params.toList.length := by
      have : ∀ {ts : List TypeId} {vs : List Value} {ds : List (DataW H)} {ps : List MemPlace}, DataW.TrodAll enc P W 0 (fun _ => true) true ts vs ds ps → ds.length = ts.length := by
        intro ts
        induction ts with
        | nil => intro vs ds ps h; cases vs <;> cases ds <;> first | rfl | exact h.elim
        | cons t ts ih => intro vs ds ps h; cases vs <;> cases ds <;> first | exact h.elim | (obtain ⟨_, _, _, h, _⟩ := h; simp [ih h])
      exact this hA
    have hsp := hspec ds hds
    have hone : (Value.bool true).resultList 1 = [.bool true] := rfl
    refine post_of_old (pa := p) (pv := []) hW' (fun b sp hd => ?_) (fun sp hs => ?_) (fun _ _ => ?_) (by simp) hb (RowKit.ok_one hrt rfl (RowKit.okWide_bool_mk hbool _))
    · rw [List.append_nil, hsp, hrt]
      exact ⟨[], [], ⟨1, by simp [DataW.trod, hbool, Value.cells]⟩, rfl, rfl⟩
    · rw [List.append_nil, hsp]
      exact trodAll_stays hlaid hb hread hA hlt hs
    · rw [List.append_nil, hsp, hvars]
      rfl
  rcases hans with ⟨_, h⟩ | ⟨u, W', h, _⟩
  · exact Calls.mono h fun e W' ⟨u, he, hu⟩ => ⟨u, he, hpost u W' hu⟩
  · simp only [callFunc, Sem.run_bind, run_program, Result.andThen_ok, hfn, hname, hbody, Bool.false_eq_true, if_false, Sem.run_pure] at h
    cases h

end
end Go.AM
