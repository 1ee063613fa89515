/- A law's contract as the kit asks for it. -/
import Derived.Test.YtnioalecffkedaaAm31
set_option linter.unusedVariables false
set_option linter.unusedSimpArgs false
namespace Go.AM

section
variable {H : Type} {enc : TypeId × Value → H} {P : Program} {W W' : World} {I : Nat → Prop}

/-- the contract of a law: 'true', at whatever arguments of the types -/
def LawC (P : Program) (N f : Nat) (ts : List TypeId) : Prop := ∀ avs, Args P N ts avs → Contract P f avs [] (.bool true) []

theorem law_postC {N base f tb : Nat} {fn : Func} {s : ChangeSpec} (hfn : P.funcs[f]? = some fn) (hbody : fn.body.isNone = false)
    (hname : (fn.name == "runtime.NumGoroutine") = false)
    (hvars : s.vars = []) (hrt : fn.resultTypes = #[tb]) (hbool : P.underlying tb = some .bool)
    (hspec : ∀ ds : List (DataW H), ds.length = fn.params.toList.length → s.fn H ds = { results := [.lit (.bool true)], args := ds })
    (hlaid : laidOutB P = true) (hread : ∀ t ∈ fn.params.toList, P.readableRec t = true ∧ t < P.types.size) (hgood : ∀ t ∈ fn.params.toList, goodT P N t = true)
    (hlaw : LawC P N f fn.params.toList) {args : Array Value} {ds gs : List (DataW H)} {before : List MemPlace}
    (hval : ∀ (j : Nat) t v, fn.params[j]? = some t → args[j]? = some v → Value.okWide P W .any base t v) (hW : DataW.Whole enc P fn.params.toList s.vars false W args.toList ds gs before) :
    Calls P f args W fun e W' => ∃ v, e = .returned v ∧ s.post enc P fn false true false false W args v W' := by
  have hW' := hW
  obtain ⟨p, q, hA, hV, rfl, hfz, hnd⟩ := hW
  rw [hvars] at hV
  have hgs : gs = [] ∧ q = [] := by
    cases gs with
    | nil => exact ⟨rfl, hV⟩
    | cons g gs => exact hV.elim
  obtain ⟨rfl, rfl⟩ := hgs
  have hlt := hW'.lt
  simp only [List.append_nil] at hlt hW'
  let I : Nat → Prop := fun B => B < W.heap.size
  obtain ⟨avs, h1, h2, h3⟩ := args_ok (I := I) (fun _ h => h) hgood (fun j t v e e' => hval j t v (by rwa [Array.getElem?_toList] at e) (by rwa [Array.getElem?_toList] at e')) hA
  have hans := hlaw avs h1 W I Phi.no args (RH.empty W I fun _ h => h) ⟨by simpa using h2, fun k x u e e' => h3 k x u e (by rw [Array.getElem?_toList]; exact e')⟩
  have hpost : ∀ u W', (∃ φ' I', RV W' I' φ' (.bool true) u ∧ RH W' I' φ' (hget []) ∧ Step ([] : Heap).length (hget []) Phi.no I W (hget []) φ' I' W') → s.post enc P fn false true false false W args u W' := by
    rintro u W' ⟨φ', I', g1, _, g2⟩
    cases g1
    have hb : RowKit.Below W.heap.size W W' := ⟨g2.ext.os, g2.ext.tape, g2.ext.output, g2.ext.size, fun k hk => g2.ext.keep k hk fun hm => not_mut_nil hm⟩
    have hds : ds.length = fn.params.toList.length := by
      have : ∀ {ts : List TypeId} {vs : List Value} {ds : List (DataW H)} {ps : List MemPlace}, DataW.TrodAll enc P W 0 (fun _ => true) true ts vs ds ps → ds.length = ts.length := by
        intro ts
        induction ts with
        | nil => intro vs ds ps h; cases vs <;> cases ds <;> first | rfl | exact h.elim
        | cons t ts ih => intro vs ds ps h; cases vs <;> cases ds <;> first | exact h.elim | (obtain ⟨_, _, _, h, _⟩ := h; simp [ih h])
      exact this hA
    have hsp := hspec ds hds
    have hone : (Value.bool true).resultList 1 = [.bool true] := rfl
    refine post_of_old (pa := p) (pv := []) hW' (fun b sp hd => ?_) (fun sp hs => ?_) (fun _ _ => ?_) (by simp) hb (RowKit.ok_one hrt rfl (RowKit.okWide_bool_mk hbool _))
    · rw [List.append_nil, hsp, hrt]
      exact ⟨[], [], ⟨1, by simp [DataW.trod, hbool, Value.cells]⟩, rfl, rfl⟩
    · rw [List.append_nil, hsp]
      exact trodAll_stays hlaid hb hread hA hlt hs
    · rw [List.append_nil, hsp, hvars]
      rfl
  rcases hans with ⟨_, h⟩ | ⟨u, W', h, _⟩
  · exact Calls.mono h fun e W' ⟨u, he, hu⟩ => ⟨u, he, hpost u W' hu⟩
  · simp only [callFunc, Sem.run_bind, run_program, Result.andThen_ok, hfn, hname, hbody, Bool.false_eq_true, if_false, Sem.run_pure] at h
    cases h


end
/-- an argument that is a slice, as a tree -/
theorem Shape.list {P : Program} {n : Nat} {t e : TypeId} {av : List AV} (hu : P.underlying t = some (.slice e)) (h : Shape P (n + 1) t av) :
    ∃ c m f, av = [c] ∧ SubV c (.tr (P.cellsOf e) m f) ∧ m ≤ maxLen ∧ ∀ i, i < m → Shape P n e (f i) := by
  unfold Shape at h
  rw [hu] at h
  rcases h with rfl | ⟨es, rfl, h1, h2⟩
  · exact ⟨_, 0, fun _ => [], rfl, .nils, Nat.zero_le _, fun i hi => absurd hi (Nat.not_lt_zero i)⟩
  · refine ⟨_, es.length, fun i => es.getD i [], rfl, .tr fun i _ => .refl _, h1, fun i hi => ?_⟩
    have : es.getD i [] = es[i] := by simp [List.getD, List.getElem?_eq_getElem hi]
    simp only [this]; exact h2 _ (List.getElem_mem hi)

theorem Shape.num {P : Program} {n : Nat} {t : TypeId} {k : IntKind} {av : List AV} (hu : P.underlying t = some (.int k)) (h : Shape P (n + 1) t av) : av = [.int k (getI av 0)] ∧ k.min ≤ getI av 0 ∧ getI av 0 ≤ k.max := by
  unfold Shape at h
  rw [hu] at h
  obtain ⟨i, rfl, h⟩ := h
  exact ⟨rfl, h⟩

theorem Shape.nums {P : Program} {n : Nat} {t e : TypeId} {k : IntKind} {av : List AV} (hu : P.underlying t = some (.slice e)) (hk : P.underlying e = some (.int k)) (hc : P.cellsOf e = 1) (h : Shape P (n + 2) t av) :
    ∃ (c : AV) (m : Nat) (g : Nat → Int), av = [c] ∧ SubV c (.tr 1 m fun i => [.int k (g i)]) ∧ m ≤ maxLen ∧ ∀ i, i < m → k.min ≤ g i ∧ g i ≤ k.max := by
  obtain ⟨c, m, f, rfl, h1, h2, h3⟩ := Shape.list hu h
  rw [hc] at h1
  refine ⟨c, m, fun i => getI (f i) 0, rfl, h1.trans (.trs fun i hi => ?_), h2, fun i hi => (Shape.num hk (h3 i hi)).2⟩
  simp only [← (Shape.num hk (h3 i hi)).1]; exact .refl _

theorem wrap64 {x : Int} (h : -9223372036854775808 ≤ x ∧ x ≤ 9223372036854775807) : IntKind.i64.wrap x = x := by
  simp [IntKind.wrap, IntKind.signed, IntKind.bits, Int.bmod]; omega

theorem wrapu8 {x : Int} (h : 0 ≤ x ∧ x ≤ 255) : IntKind.u8.wrap x = x := by
  simp [IntKind.wrap, IntKind.signed, IntKind.bits]; omega

end Go.AM
