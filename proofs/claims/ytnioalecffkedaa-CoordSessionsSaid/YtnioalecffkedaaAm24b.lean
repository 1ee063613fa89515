/- Regions whose order is open: whatever order is drawn, the same comes of it. -/
import Derived.Test.YtnioalecffkedaaAm24
set_option linter.unusedVariables false
set_option linter.unusedSimpArgs false
namespace Go.AM

variable {R : Type}

/-! ### the check -/

/-- the temporaries that an operation names -/
def namesO (ops : Array Oper) (o : Oper) : List Nat :=
  o.dst.toList ++ ((o.op.operands.toList.filterMap fun | .tmp t => some t | _ => none) ++ (match o.guard with | some (j, _) => ((ops[j]?).bind (·.dst)).toList | none => []))

def ordered (A : List Nat) (i j : Nat) : Bool := bif Nat.blt i j then behind A j i else behind A i j

def tmpsFor (A : List Nat) (ns : List Nat) (i : Nat) : List Oper → Nat → Bool
  | [], _ => true
  | o :: r, j => (match o.dst with | some d => !(memb d ns) || (Nat.beq i j || ordered A i j) | none => true) && tmpsFor A ns i r (j + 1)

def tempsGo (A : List Nat) (ops : Array Oper) (all : List Oper) : List Oper → Nat → Bool
  | [], _ => true
  | o :: r, i => (o.after.toList.all fun e => !bindsAny e || Nat.blt e.on i) && (tmpsFor A (namesO ops o) i all 0 && tempsGo A ops all r (i + 1))

/-- no operation of a region meets another's temporaries, unless they stand in an order -/
def tempsOk (ops : Array Oper) : Bool := tempsGo (ancsGo ops.toList []) ops ops.toList ops.toList 0

def okCode : Code → Bool
  | .region _ ops draw => !draw || tempsOk ops
  | .seq a b => okCode a && okCode b
  | .cond _ a b => okCode a && okCode b
  | .block _ a => okCode a
  | .loop a => okCode a
  | .scope a => okCode a
  | _ => true

theorem memb_true {b : Nat} : ∀ {l : List Nat}, b ∈ l → memb b l = true
  | x :: r, h => by
    unfold memb
    cases hx : Nat.beq x b with
    | true => rfl
    | false =>
      rw [cond_false]
      rcases List.mem_cons.1 h with e | h
      · subst e; simp at hx
      · exact memb_true h

theorem tmpsFor_spec {A ns : List Nat} {i : Nat} : ∀ {l : List Oper} {j0 : Nat}, tmpsFor A ns i l j0 = true → ∀ (j : Nat) o d, l[j]? = some o → o.dst = some d → d ∈ ns → i ≠ j0 + j → ordered A i (j0 + j) = true
  | [], _, _, j, o, d, e, _, _, _ => by simp at e
  | o' :: r, j0, h, 0, o, d, e, hd, hn, hne => by
    unfold tmpsFor at h
    obtain ⟨h1, _⟩ := and_true' h
    simp at e
    subst e
    rw [hd] at h1
    simp only [memb_true hn, Bool.not_true, Bool.false_or, Bool.or_eq_true] at h1
    exact h1.resolve_left fun e => hne (by simpa using Nat.eq_of_beq_eq_true e)
  | o' :: r, j0, h, j + 1, o, d, e, hd, hn, hne => by
    unfold tmpsFor at h
    obtain ⟨_, h2⟩ := and_true' h
    have := tmpsFor_spec h2 j o d (by simpa using e) hd hn (by omega)
    rwa [show j0 + 1 + j = j0 + (j + 1) by omega] at this

theorem tempsGo_spec {A : List Nat} {ops : Array Oper} {all : List Oper} : ∀ {l : List Oper} {i0 : Nat}, tempsGo A ops all l i0 = true → ∀ (i : Nat) o, l[i]? = some o →
    (∀ e ∈ o.after.toList, bindsAny e = true → e.on < i0 + i) ∧ ∀ (j : Nat) o' d, all[j]? = some o' → o'.dst = some d → d ∈ namesO ops o → i0 + i ≠ j → ordered A (i0 + i) j = true
  | [], _, _, i, o, e => by simp at e
  | o' :: r, i0, h, 0, o, e => by
    unfold tempsGo at h
    obtain ⟨h1, h2⟩ := and_true' h
    obtain ⟨h2, _⟩ := and_true' h2
    simp at e
    subst e
    refine ⟨fun e he hb => ?_, fun j o'' d e1 e2 e3 e4 => ?_⟩
    · have := List.all_eq_true.1 h1 e he
      rw [hb] at this
      simpa [Nat.blt_eq] using this
    · have := tmpsFor_spec h2 j o'' d e1 e2 e3 (by omega)
      simpa using this
  | o' :: r, i0, h, i + 1, o, e => by
    unfold tempsGo at h
    obtain ⟨_, h2⟩ := and_true' h
    obtain ⟨_, h2⟩ := and_true' h2
    have := tempsGo_spec h2 i o (by simpa using e)
    rwa [show i0 + 1 + i = i0 + (i + 1) by omega] at this

theorem bindsAny_eq (e : Edge) : bindsAny e = Region.binds .any e := by
  unfold bindsAny Region.binds
  cases e.ground <;> rfl

/-! ### ancestors -/

theorem foldl_bits (acc : List Nat) (j : Nat) : ∀ (es : List Edge) (s : Nat), Nat.testBit (es.foldl (fun s e => bif bindsAny e then s ||| 2 ^ e.on ||| acc.getD e.on 0 else s) s) j = true →
    Nat.testBit s j = true ∨ ∃ e ∈ es, bindsAny e = true ∧ (e.on = j ∨ Nat.testBit (acc.getD e.on 0) j = true)
  | [], s, h => .inl h
  | e :: r, s, h => by
    rw [List.foldl_cons] at h
    rcases foldl_bits acc j r _ h with h | ⟨e', he, hb⟩
    · cases hb : bindsAny e with
      | false => rw [hb] at h; exact .inl (by simpa using h)
      | true =>
        rw [hb, cond_true, Nat.testBit_or, Nat.testBit_or, Nat.testBit_two_pow] at h
        simp only [Bool.or_eq_true, decide_eq_true_eq] at h
        rcases h with (h | h) | h
        · exact .inl h
        · exact .inr ⟨e, by simp, hb, .inl h⟩
        · exact .inr ⟨e, by simp, hb, .inr h⟩
    · exact .inr ⟨e', by simp [he], hb⟩

theorem ancs_pre : ∀ (l : List Oper) (acc : List Nat) (k : Nat), k < acc.length → (ancsGo l acc).getD k 0 = acc.getD k 0
  | [], acc, k, _ => rfl
  | o :: r, acc, k, h => by
    unfold ancsGo
    rw [ancs_pre r _ k (by simp; omega)]
    simp only [List.getD]
    rw [List.getElem?_append_left h]

theorem ancs_spec (j : Nat) : ∀ (l : List Oper) (acc : List Nat) (i : Nat) (o : Oper), l[i]? = some o → Nat.testBit ((ancsGo l acc).getD (acc.length + i) 0) j = true →
    ∃ e ∈ o.after.toList, bindsAny e = true ∧ (e.on = j ∨ (e.on < acc.length + i ∧ Nat.testBit ((ancsGo l acc).getD e.on 0) j = true))
  | [], acc, i, o, e, _ => by simp at e
  | o' :: r, acc, 0, o, e, h => by
    simp at e
    subst e
    unfold ancsGo at h ⊢
    rw [ancs_pre r _ _ (by simp)] at h
    rw [show (acc ++ [o'.after.toList.foldl (fun s e => bif bindsAny e then s ||| 2 ^ e.on ||| acc.getD e.on 0 else s) 0]).getD (acc.length + 0) 0 = o'.after.toList.foldl (fun s e => bif bindsAny e then s ||| 2 ^ e.on ||| acc.getD e.on 0 else s) 0 by simp] at h
    rcases foldl_bits acc j _ _ h with h | ⟨e, he, hb, h⟩
    · simp at h
    · refine ⟨e, he, hb, h.imp id fun h => ?_⟩
      have hlt : e.on < acc.length := by
        rcases Nat.lt_or_ge e.on acc.length with h' | h'
        · exact h'
        · simp [List.getD, List.getElem?_eq_none h'] at h
      refine ⟨by omega, ?_⟩
      rw [ancs_pre r _ _ (by simp; omega)]
      simp only [List.getD] at h ⊢
      rw [List.getElem?_append_left hlt]
      exact h
  | o' :: r, acc, i + 1, o, e, h => by
    unfold ancsGo at h ⊢
    have := ancs_spec j r (acc ++ [o'.after.toList.foldl (fun s e => bif bindsAny e then s ||| 2 ^ e.on ||| acc.getD e.on 0 else s) 0]) i o (by simpa using e)
      (by rwa [List.length_append, List.length_singleton, show acc.length + 1 + i = acc.length + (i + 1) by omega])
    rwa [List.length_append, List.length_singleton, show acc.length + 1 + i = acc.length + (i + 1) by omega] at this

def Closed (l : List Oper) (L : Nat → Bool) : Prop := ∀ (i : Nat) o, l[i]? = some o → L i = true → ∀ e ∈ o.after.toList, bindsAny e = true → L e.on = true

theorem behind_listed {l : List Oper} {L : Nat → Bool} (hc : Closed l L) {j : Nat} : ∀ (i : Nat) o, l[i]? = some o → (∀ e ∈ o.after.toList, bindsAny e = true → L e.on = true) → behind (ancsGo l []) i j = true → L j = true := by
  intro i
  induction i using Nat.strongRecOn with
  | ind i ih =>
    intro o ho hr hb
    unfold behind at hb
    obtain ⟨e, he, hbe, h⟩ := ancs_spec j l [] i o ho (by simpa using hb)
    rcases h with h | ⟨h1, h2⟩
    · rw [← h]; exact hr e he hbe
    · simp only [List.length_nil, Nat.zero_add] at h1
      have hlt : e.on < l.length := by
        have := (List.getElem?_eq_some_iff.1 ho).1
        omega
      exact ih e.on h1 l[e.on] (List.getElem?_eq_getElem hlt) (hc e.on l[e.on] (List.getElem?_eq_getElem hlt) (hr e he hbe)) h2

/-! ### what the records say -/

def recL (x : Ent) (i : Nat) : List Rec := bif x.ran then recOf i x.e x.rdl [] else []

theorem recOf_append (i : Nat) (e : Eff) (rd : List Nat) (recs : List Rec) : recOf i e rd recs = recOf i e rd [] ++ recs := by
  unfold recOf
  cases e with
  | wr l => cases l with
    | nil => cases rd <;> rfl
    | cons p l => rfl
  | full h => rfl

theorem recsOf_cons (i : Nat) (x : Ent) (xs : List Ent) (recs : List Rec) : recsOf i (x :: xs) recs = recsOf (i + 1) xs (recL x i ++ recs) := by
  unfold recL
  rw [recsOf]
  cases x.ran with
  | true => simp only [cond_true]; rw [recOf_append]
  | false => rfl

theorem quietAll_app {A : List Nat} : ∀ {l l' : List Rec}, quietAll A (l ++ l') = true → quietAll A l' = true ∧ ∀ r ∈ l, ∀ s ∈ l', quiet2 A r s = true
  | [], l', h => ⟨h, fun r hr => by simp at hr⟩
  | x :: l, l', h => by
    rw [List.cons_append] at h
    unfold quietAll at h
    obtain ⟨h1, h2⟩ := and_true' h
    obtain ⟨g1, g2⟩ := quietAll_app h2
    refine ⟨g1, fun r hr s hs => ?_⟩
    rcases List.mem_cons.1 hr with e | hr
    · subst e; exact List.all_eq_true.1 h1 s (by simp [hs])
    · exact g2 r hr s hs

theorem recs1 {A : List Nat} : ∀ {xs : List Ent} {i0 : Nat} {recs : List Rec}, quietAll A (recsOf i0 xs recs) = true →
    quietAll A recs = true ∧ ∀ (j : Nat) y, xs[j]? = some y → ∀ r ∈ recL y (i0 + j), ∀ s ∈ recs, quiet2 A r s = true
  | [], i0, recs, h => ⟨h, fun j y e => by simp at e⟩
  | x :: xs, i0, recs, h => by
    rw [recsOf_cons] at h
    obtain ⟨h1, h2⟩ := recs1 h
    obtain ⟨h3, h4⟩ := quietAll_app h1
    refine ⟨h3, fun j y e r hr s hs => ?_⟩
    cases j with
    | zero => simp at e; subst e; exact h4 r hr s hs
    | succ j =>
      refine h2 j y (by simpa using e) r ?_ s (by simp [hs])
      rwa [show i0 + 1 + j = i0 + (j + 1) by omega]

theorem recs2 {A : List Nat} : ∀ {xs : List Ent} {i0 : Nat} {recs : List Rec}, quietAll A (recsOf i0 xs recs) = true →
    ∀ (i j : Nat) x y, i < j → xs[i]? = some x → xs[j]? = some y → ∀ r ∈ recL y (i0 + j), ∀ s ∈ recL x (i0 + i), quiet2 A r s = true
  | [], i0, recs, h, i, j, x, y, _, e, _ => by simp at e
  | x' :: xs, i0, recs, h, i, 0, x, y, hij, e, e' => by omega
  | x' :: xs, i0, recs, h, 0, j + 1, x, y, hij, e, e' => by
    rw [recsOf_cons] at h
    simp at e
    subst e
    intro r hr s hs
    refine (recs1 h).2 j y (by simpa using e') r ?_ s (by simp; exact .inl hs)
    rwa [show i0 + 1 + j = i0 + (j + 1) by omega]
  | x' :: xs, i0, recs, h, i + 1, j + 1, x, y, hij, e, e' => by
    rw [recsOf_cons] at h
    have := recs2 h i j x y (by omega) (by simpa using e) (by simpa using e')
    rwa [show i0 + 1 + j = i0 + (j + 1) by omega, show i0 + 1 + i = i0 + (i + 1) by omega] at this

theorem meets_true {a b : List Nat} {x : Nat} (ha : x ∈ a) (hb : x ∈ b) : meets a b = true := by
  unfold meets
  exact List.any_eq_true.2 ⟨x, ha, List.any_eq_true.2 ⟨x, hb, by simp⟩⟩

def Ent.wrs (x : Ent) : List Nat := match x.e with | .wr l => l.map (·.1) | .full _ => []
def Ent.isFull (x : Ent) : Bool := match x.e with | .wr _ => false | .full _ => true

theorem recL_of {x : Ent} {i : Nat} (hr : x.ran = true) (hn : ¬ x.null) : recL x i = [{ i := i, rd := x.rdl, wr := x.wrs, all := x.isFull }] := by
  unfold recL Ent.wrs Ent.isFull
  rw [hr, cond_true]
  unfold recOf
  cases he : x.e with
  | wr l =>
    cases l with
    | nil =>
      cases hd : x.rdl with
      | nil => exact (hn ⟨he, hd⟩).elim
      | cons b r => rfl
    | cons p l => rfl
  | full h => rfl

theorem Ent.null_touch {x : Ent} (h : x.null) (b : Nat) : ¬ x.e.touch b ∧ ¬ x.meet b := by
  obtain ⟨h1, h2⟩ := h
  have : ¬ x.e.touch b := by rw [h1]; rintro ⟨p, hp, _⟩; simp at hp
  exact ⟨this, fun hm => hm.elim this fun hm => by rw [h2] at hm; simp at hm⟩

theorem quietE {A : List Nat} {xs : List Ent} (h : quietAll A (recsOf 0 xs []) = true) {i j : Nat} {x y : Ent} (hij : i < j) (ex : xs[i]? = some x) (ey : xs[j]? = some y)
    (hx : x.ran = false → x = .skipped) (hy : y.ran = false → y = .skipped) : QuietE A i x j y := by
  by_cases nx : x.null
  · refine ⟨fun b hb => ?_, fun h' e _ => ?_, fun h' e n => (n nx).elim⟩
    · rcases hb with ⟨h1, _⟩ | ⟨_, h2⟩
      · exact ((Ent.null_touch nx b).1 h1).elim
      · exact ((Ent.null_touch nx b).2 h2).elim
    · rw [nx.1] at e; cases e
  by_cases ny : y.null
  · refine ⟨fun b hb => ?_, fun h' e n => (n ny).elim, fun h' e _ => ?_⟩
    · rcases hb with ⟨_, h2⟩ | ⟨h1, _⟩
      · exact ((Ent.null_touch ny b).2 h2).elim
      · exact ((Ent.null_touch ny b).1 h1).elim
    · rw [ny.1] at e; cases e
  have rx : x.ran = true := by
    cases e : x.ran with
    | true => rfl
    | false => rw [hx e] at nx; exact (nx ⟨rfl, rfl⟩).elim
  have ry : y.ran = true := by
    cases e : y.ran with
    | true => rfl
    | false => rw [hy e] at ny; exact (ny ⟨rfl, rfl⟩).elim
  have hq := recs2 h i j x y hij ex ey
  rw [recL_of rx nx, recL_of ry ny] at hq
  have hq := hq _ (List.mem_singleton_self _) _ (List.mem_singleton_self _)
  unfold quiet2 at hq
  simp only [Nat.zero_add, Bool.or_eq_true, Bool.not_eq_true', Bool.or_eq_false_iff] at hq
  have hfull : ∀ {z : Ent} {h'}, z.e = .full h' → z.isFull = true := fun {z} {h'} e => by unfold Ent.isFull; rw [e]
  refine ⟨fun b hb => hq.elim id fun ⟨q1, q2, q3, q4⟩ => ?_, fun h' e _ => hq.elim id fun ⟨q1, q2, q3, q4⟩ => ?_, fun h' e _ => hq.elim id fun ⟨q1, q2, q3, q4⟩ => ?_⟩
  · have tw : ∀ {z : Ent} {b : Nat}, z.isFull = false → z.e.touch b → b ∈ z.wrs := by
      intro z b hf ht
      unfold Ent.wrs
      unfold Ent.isFull at hf
      cases he : z.e with
      | wr l => rw [he] at ht; obtain ⟨p, hp, e⟩ := ht; exact List.mem_map.2 ⟨p, hp, e⟩
      | full h' => rw [he] at hf; cases hf
    have tm : ∀ {z : Ent} {b : Nat}, z.isFull = false → z.meet b → b ∈ z.rdl ++ z.wrs := fun hf hm => by
      rcases hm with hm | hm
      · exact List.mem_append.2 (.inr (tw hf hm))
      · exact List.mem_append.2 (.inl hm)
    rcases hb with ⟨h1, h2⟩ | ⟨h1, h2⟩
    · rcases h2 with h2 | h2
      · rw [meets_true (tw q1 h2) (List.mem_append.2 (.inr (tw q2 h1)))] at q3; cases q3
      · rw [meets_true h2 (tw q2 h1)] at q4; cases q4
    · rw [meets_true (tw q1 h1) (tm q2 h2)] at q3; cases q3
  · rw [hfull e] at q2; cases q2
  · rw [hfull e] at q1; cases q1

/-! ### folds -/

theorem mems_get {xs : List Ent} {j : Nat} {u : Upd BS} (h : (mems xs)[j]? = some u) : ∃ x, xs[j]? = some x ∧ u = x.mem := map_get h

theorem mems_law (xs : List Ent) : ∀ u ∈ mems xs, u.Law := by
  intro u hu
  obtain ⟨x, _, rfl⟩ := List.mem_map.1 hu
  exact x.mem_law

theorem tmpsU_get : ∀ {os : List Oper} {xs : List Ent} {j : Nat} {u : Upd AV}, (tmpsU os xs)[j]? = some u → ∃ o x, os[j]? = some o ∧ xs[j]? = some x ∧ u = x.tmp o
  | [], xs, j, u, h => by simp [tmpsU] at h
  | o :: os, [], j, u, h => by simp [tmpsU] at h
  | o :: os, x :: xs, 0, u, h => by simp [tmpsU] at h; exact ⟨o, x, rfl, rfl, h.symm⟩
  | o :: os, x :: xs, j + 1, u, h => by
    simp only [tmpsU, List.getElem?_cons_succ] at h
    obtain ⟨o', x', e1, e2, e3⟩ := tmpsU_get h
    exact ⟨o', x', by simpa using e1, by simpa using e2, e3⟩

theorem tmpsU_get' : ∀ {os : List Oper} {xs : List Ent} {j : Nat} {o : Oper} {x : Ent}, os[j]? = some o → xs[j]? = some x → (tmpsU os xs)[j]? = some (x.tmp o)
  | [], xs, j, o, x, h, _ => by simp at h
  | o' :: os, [], j, o, x, _, h => by simp at h
  | o' :: os, x' :: xs, 0, o, x, h, h' => by simp at h h'; subst h; subst h'; rfl
  | o' :: os, x' :: xs, j + 1, o, x, h, h' => by
    simp only [tmpsU, List.getElem?_cons_succ]
    exact tmpsU_get' (by simpa using h) (by simpa using h')

theorem tmpsU_law : ∀ (os : List Oper) (xs : List Ent), ∀ u ∈ tmpsU os xs, u.Law
  | [], xs, u, h => by simp [tmpsU] at h
  | o :: os, [], u, h => by simp [tmpsU] at h
  | o :: os, x :: xs, u, h => by
    simp only [tmpsU] at h
    rcases List.mem_cons.1 h with e | h
    · subst e; exact Ent.tmp_law o x
    · exact tmpsU_law os xs u h

theorem Chain.fin {P : Program} {nt : Nat} {ops : Array Oper} {L : Nat → Bool} : ∀ {os : List Oper} {xs : List Ent} {s s' : St} {i0 : Nat}, Chain P nt ops os xs s s' → (∀ j, j < os.length → L (i0 + j) = true) →
    foldU L i0 (mems xs) (hget s.hp) = hget s'.hp ∧ foldU L i0 (tmpsU os xs) (fget s.fr) = fget s'.fr
  | [], [], s, s', i0, h, _ => by cases h; exact ⟨rfl, rfl⟩
  | o :: os, x :: xs, s, s', i0, h, hL => by
    obtain ⟨_, _, _, _, _, h6⟩ := h
    have h0 : L i0 = true := hL 0 (by simp)
    have ih := Chain.fin (i0 := i0 + 1) h6 fun j hj => by
      have := hL (j + 1) (by simpa using hj)
      rwa [show i0 + (j + 1) = i0 + 1 + j by omega] at this
    refine ⟨?_, ?_⟩
    · simp only [mems, List.map_cons, foldU, h0, cond_true]
      rw [← ih.1, Eff.apply_rd]
      rfl
    · simp only [tmpsU, foldU, h0, cond_true]
      rw [← ih.2, fget_fput]
      rfl
  | [], _ :: _, s, s', i0, h, _ => h.elim
  | _ :: _, [], s, s', i0, h, _ => h.elim

theorem FrOk.put' {w : World} {I : Nat → Prop} {φ : Phi} {fr : Nat → AV} {a : Act} {d : Option Nat} {v : AV} {u : Value} (h : FrOk w I φ fr a) (hv : RV w I φ v u) (hd : dstOk a.tmps.size d = true) :
    FrOk w I φ (putF d v fr) (a.put d u) := by
  intro t
  cases d with
  | none => simpa [putF, Act.put] using h t
  | some d =>
    have hd : d < a.tmps.size := by simpa [dstOk, Nat.blt_eq] using hd
    simp only [putF, Act.put, Act.eval, Array.getD_eq_getD_getElem?, Option.some.injEq]
    by_cases e : d = t
    · subst e
      rw [if_pos rfl, Array.getElem?_setIfInBounds_self_of_lt hd]
      exact hv
    · rw [if_neg e, Array.getElem?_setIfInBounds_ne e]
      have := h t
      simp only [Act.eval, Array.getD_eq_getD_getElem?] at this
      exact this

theorem guardV_congr {ops : Array Oper} {fr fr' : Nat → AV} {o : Oper} (h : ∀ t ∈ namesO ops o, fr t = fr' t) : guardV ops fr o = guardV ops fr' o := by
  unfold guardV
  cases hg : o.guard with
  | none => rfl
  | some p =>
    obtain ⟨j, want⟩ := p
    simp only
    cases hj : (ops[j]?).bind (·.dst) with
    | none => rfl
    | some d =>
      simp only
      rw [h d (by unfold namesO; rw [hg]; simp [hj])]

theorem evalO_congr {ops : Array Oper} {fr fr' : Nat → AV} {o : Oper} (h : ∀ t ∈ namesO ops o, fr t = fr' t) {x : Operand} (hx : x ∈ o.op.operands) : evalO fr x = evalO fr' x := by
  cases x with
  | tmp t =>
    refine h t ?_
    unfold namesO
    refine List.mem_append.2 (.inr (List.mem_append.2 (.inl (List.mem_filterMap.2 ⟨.tmp t, by simpa using hx, rfl⟩))))
  | _ => rfl

/-! ### whatever order -/

section
variable {P : Program} {env : Env} {run : CallK R} {r : R} {nt : Nat} {ops : Array Oper} {xs : List Ent} {s s' : St} {Q : Exit → Act → World → Prop} {a0 : Act} {w0 : World} {φ0 : Phi} {I0 : Nat → Prop}

abbrev memL (xs : List Ent) (s : St) (L : Nat → Bool) : Nat → BS := foldU L 0 (mems xs) (hget s.hp)
abbrev tmpL (ops : Array Oper) (xs : List Ent) (s : St) (L : Nat → Bool) : Nat → AV := foldU L 0 (tmpsU ops.toList xs) (fget s.fr)

theorem draw_any (ht : tempsOk ops = true) (hch : Chain P nt ops ops.toList xs s s') (hq : quietAll (ancsGo ops.toList []) (recsOf 0 xs []) = true)
    (hQ : ∀ a' w' φ' I', nt ≤ a'.tmps.size → a'.defers = a0.defers → StOk w' I' φ' s' a' → (∀ base, base ≤ s.hp.length → Step base (hget s.hp) φ0 I0 w0 (hget s'.hp) φ' I' w') → Q .normal a' w') :
    ∀ (fuel : Nat) (listed : Array Bool) (U : List Nat) (a : Act) (w : World) (φ : Phi) (I : Nat → Prop), listed.size = ops.size → (∀ j, j < ops.size → listed.getD j false = false → j ∈ U) → U.length ≤ fuel →
      Closed ops.toList (fun j => listed.getD j false) → RH w I φ (memL xs s fun j => listed.getD j false) → FrOk w I φ (tmpL ops xs s fun j => listed.getD j false) a → nt ≤ a.tmps.size → a.defers = a0.defers →
      (∀ base, base ≤ s.hp.length → Step base (hget s.hp) φ0 I0 w0 (memL xs s fun j => listed.getD j false) φ I w) → wpAny P .any ops Q fuel listed a w := by
  have hxl : xs.length = ops.toList.length := hch.length.1
  have hsk : ∀ (j : Nat) x, xs[j]? = some x → x.ran = false → x = .skipped := by
    intro j x e
    have hj : j < ops.toList.length := by rw [← hxl]; exact (List.getElem?_eq_some_iff.1 e).1
    obtain ⟨_, _, _, _, _, _, h, _⟩ := hch.nth (i0 := 0) j _ x (List.getElem?_eq_getElem hj) e
    exact h
  have hto := fun (i : Nat) (o : Oper) (e : ops.toList[i]? = some o) => tempsGo_spec (l := ops.toList) (i0 := 0) ht i o e
  -- all is listed
  have hend : ∀ (listed : Array Bool) (a : Act) (w : World) (φ : Phi) (I : Nat → Prop), (∀ j, j < ops.size → listed.getD j false = true) →
      RH w I φ (memL xs s fun j => listed.getD j false) → FrOk w I φ (tmpL ops xs s fun j => listed.getD j false) a → nt ≤ a.tmps.size → a.defers = a0.defers →
      (∀ base, base ≤ s.hp.length → Step base (hget s.hp) φ0 I0 w0 (memL xs s fun j => listed.getD j false) φ I w) → Q .normal a w := by
    intro listed a w φ I hall hr hf hn hd hs
    obtain ⟨e1, e2⟩ := hch.fin (L := fun j => listed.getD j false) (i0 := 0) fun j hj => by simpa using hall j (by simpa using hj)
    unfold memL at hr hs
    unfold tmpL at hf
    rw [e1] at hr hs
    rw [e2] at hf
    exact hQ a w φ I hn hd ⟨hr, hf⟩ hs
  have hready : ∀ (listed : Array Bool), listed.size = ops.size → Region.ready .any ops listed = [] → ∀ j, j < ops.size → listed.getD j false = true := by
    intro listed hsz hr j
    induction j using Nat.strongRecOn with
    | ind j ih =>
      intro hj
      cases hl : listed.getD j false with
      | true => rfl
      | false =>
        have hjt : ops.toList[j]? = some ops[j] := by simp [hj]
        have : j ∈ Region.ready .any ops listed := by
          refine mem_ready.2 ⟨?_, ops[j], by simp [hj], fun e he hb => ?_⟩
          · rw [← hl]
            simp [Array.getD_eq_getD_getElem?, hsz, hj]
          · have := (hto j _ hjt).1 e (by simpa using he) (by rw [bindsAny_eq]; exact hb)
            exact ih e.on (by omega) (by omega)
        rw [hr] at this
        simp at this
  intro fuel
  induction fuel with
  | zero =>
    intro listed U a w φ I hsz hU hlen hc hr hf hn hd hs
    have hall : ∀ j, j < ops.size → listed.getD j false = true := by
      intro j hj
      cases hl : listed.getD j false with
      | true => rfl
      | false =>
        have := hU j hj hl
        rw [List.length_eq_zero_iff.1 (Nat.le_zero.1 hlen)] at this
        simp at this
    refine ⟨?_, hend listed a w φ I hall hr hf hn hd hs⟩
    rw [List.eq_nil_iff_forall_not_mem]
    intro j hj
    obtain ⟨h0, o, ho, _⟩ := mem_ready.1 hj
    have hjl : j < ops.size := (Array.getElem?_eq_some_iff.1 ho).1
    have := hall j hjl
    simp [Array.getD_eq_getD_getElem?, hsz, hjl] at this h0
    rw [this] at h0
    cases h0
  | succ fuel ih =>
    intro listed U a w φ I hsz hU hlen hc hr hf hn hd hs
    refine ⟨fun he => hend listed a w φ I (hready listed hsz he) hr hf hn hd hs, fun i hi => ?_⟩
    obtain ⟨h0, o, ho, hall⟩ := mem_ready.1 hi
    have hil : i < ops.size := (Array.getElem?_eq_some_iff.1 ho).1
    have hot : ops.toList[i]? = some o := by rw [Array.getElem?_toList]; exact ho
    have hLi : listed.getD i false = false := by
      rw [← h0]
      simp [Array.getD_eq_getD_getElem?, hsz, hil]
    have hanc : ∀ e ∈ o.after.toList, bindsAny e = true → listed.getD e.on false = true := fun e he hb => hall e (by simpa using he) (by rw [← bindsAny_eq]; exact hb)
    obtain ⟨x, hx⟩ : ∃ x, xs[i]? = some x := ⟨xs[i]'(by rw [hxl]; simpa using hil), List.getElem?_eq_getElem _⟩
    obtain ⟨hdst, fr, len, hlen2, hg, hsim, hskip, hfr⟩ := hch.nth (i0 := 0) i o x hot hx
    simp only [Nat.zero_add] at hsim hfr
    -- who stands behind i is not yet listed, who stands ahead is
    have back : ∀ j, behind (ancsGo ops.toList []) i j = true → listed.getD j false = true := fun j hb => behind_listed (L := fun j => listed.getD j false) hc i o hot hanc hb
    have fore : ∀ j, j < ops.toList.length → behind (ancsGo ops.toList []) j i = true → listed.getD j false = false := by
      intro j hj hb
      cases hl : listed.getD j false with
      | false => rfl
      | true =>
        have := behind_listed (L := fun j => listed.getD j false) hc j ops.toList[j] (List.getElem?_eq_getElem hj) (hc j _ (List.getElem?_eq_getElem hj) hl) hb
        rw [hLi] at this
        cases this
    have agree : ∀ j, j < ops.toList.length → (i < j → behind (ancsGo ops.toList []) j i = true) → (j < i → behind (ancsGo ops.toList []) i j = true) → listed.getD j false = decide (j < i) := by
      intro j hj h1 h2
      rcases Nat.lt_trichotomy j i with h | h | h
      · rw [back j (h2 h), decide_eq_true h]
      · subst h; rw [hLi]; simp
      · rw [fore j hj (h1 h)]; simp; omega
    -- temporaries
    have htmp : ∀ t ∈ namesO ops o, ∀ (j : Nat) o', ops.toList[j]? = some o' → o'.dst = some t → i ≠ j → (i < j → behind (ancsGo ops.toList []) j i = true) ∧ (j < i → behind (ancsGo ops.toList []) i j = true) := by
      intro t htn j o' e1 e2 hne
      have := (hto i o hot).2 j o' t e1 e2 htn (by omega)
      simp only [Nat.zero_add, ordered] at this
      refine ⟨fun h => ?_, fun h => ?_⟩
      · rwa [show Nat.blt i j = true by simpa [Nat.blt_eq] using h] at this
      · rwa [show Nat.blt i j = false by rw [Bool.eq_false_iff]; intro e; rw [Nat.blt_eq] at e; omega] at this
    have hfrt : ∀ t ∈ namesO ops o, fr t = tmpL ops xs s (fun j => listed.getD j false) t := by
      intro t htn
      rw [hfr]
      refine (foldU_congr _ 0 _ _ (tmpsU_law _ _) (fun j u e hT => ?_) rfl).symm
      obtain ⟨o', x', e1, e2, rfl⟩ := tmpsU_get e
      simp only [Nat.zero_add]
      by_cases hne : i = j
      · subst hne; rw [hLi]; simp
      · obtain ⟨h1, h2⟩ := htmp t htn j o' e1 hT hne
        exact agree j (List.getElem?_eq_some_iff.1 e1).1 h1 h2
    have hL' : ∀ j, (listed.setIfInBounds i true).getD j false = (listed.getD j false || decide (j = 0 + i)) := by
      intro j
      by_cases hj : i = j
      · subst hj
        simp [Array.getD_eq_getD_getElem?, hsz, hil]
      · rw [getD_set_ne false hj, decide_eq_false (show ¬ (j = 0 + i) by omega), Bool.or_false]
    have hsz' : (listed.setIfInBounds i true).size = ops.size := by simpa using hsz
    have hc' : Closed ops.toList (fun j => (listed.setIfInBounds i true).getD j false) := by
      intro j oj ej hj e he hb
      simp only [hL'] at hj ⊢
      rw [Bool.or_eq_true] at hj
      rcases hj with hj | hj
      · have := hc j oj ej hj e he hb
        simp only at this
        rw [this]; rfl
      · have : j = i := by simpa using hj
        subst this
        rw [hot] at ej
        cases ej
        rw [hanc e he hb]; rfl
    have hiU : i ∈ U := hU i hil hLi
    have hU' : ∀ j, j < ops.size → (listed.setIfInBounds i true).getD j false = false → j ∈ U.filter (· ≠ i) := by
      intro j hj hl
      rw [hL', Bool.or_eq_false_iff] at hl
      refine List.mem_filter.2 ⟨hU j hj hl.1, ?_⟩
      have := hl.2
      simpa using this
    have hlen' : (U.filter (· ≠ i)).length ≤ fuel := by
      have : (U.filter (· ≠ i)).length < U.length := by
        rw [List.length_filter_lt_length_iff_exists]
        exact ⟨i, hiU, by simp⟩
      omega
    -- the new frame and the new memory
    have hnewT : ∀ t, tmpL ops xs s (fun j => (listed.setIfInBounds i true).getD j false) t = putF o.dst x.v (tmpL ops xs s fun j => listed.getD j false) t := by
      intro t
      refine foldU_add (L := fun j => listed.getD j false) (x := x.tmp o) _ 0 i _ (tmpsU_law _ _) (tmpsU_get' hot hx) (by simpa using hLi) hL' fun hT j u e hij hT' => ?_
      obtain ⟨o', x', e1, e2, rfl⟩ := tmpsU_get e
      simp only [Nat.zero_add]
      have hn : t ∈ namesO ops o := by
        have : o.dst = some t := hT
        unfold namesO; rw [this]; simp
      exact fore j (List.getElem?_eq_some_iff.1 e1).1 ((htmp t hn j o' e1 hT' (by omega)).1 hij)
    have hnewM : (∀ b, x.e.touch b → ∀ (j : Nat) y, xs[j]? = some y → i < j → y.e.touch b → behind (ancsGo ops.toList []) j i = true) →
        ∀ b, memL xs s (fun j => (listed.setIfInBounds i true).getD j false) b = x.e.rd (memL xs s fun j => listed.getD j false) b := by
      intro hb b
      refine foldU_add (L := fun j => listed.getD j false) (x := x.mem) _ 0 i _ (mems_law _) (by simp only [mems, List.getElem?_map, hx, Option.map_some]) (by simpa using hLi) hL' fun hT j u e hij hT' => ?_
      obtain ⟨y, e1, rfl⟩ := mems_get e
      simp only [Nat.zero_add]
      exact fore j (by rw [← hxl]; exact (List.getElem?_eq_some_iff.1 e1).1) (hb b hT j y e1 hij hT')
    have hwant : Region.wanted o (yielded ops a.tmps) = x.ran := guard_ok hf (by rw [← hg]; exact guardV_congr fun t ht => (hfrt t ht).symm)
    have hdst' := dstOk_le hdst hn
    unfold wpOp
    rw [ho]
    simp only [hwant]
    cases hran : x.ran with
    | false =>
      simp only [Bool.false_eq_true, if_false]
      have hxs := hskip hran
      have hM := hnewM fun b hb => by rw [hxs] at hb; obtain ⟨p, hp, _⟩ := hb; simp at hp
      have hMe : memL xs s (fun j => (listed.setIfInBounds i true).getD j false) = memL xs s fun j => listed.getD j false := by
        funext b; rw [hM b, hxs]; rfl
      refine ih _ _ (a.put o.dst undef) w φ I hsz' hU' hlen' hc' (by rw [hMe]; exact hr) (fun t => ?_) (by simpa using hn) (by simpa using hd) (by rw [hMe]; exact hs)
      rw [hnewT t]
      refine hf.put' ?_ hdst' t
      rw [hxs]
      exact RV.skip _ _ _
    | true =>
      simp only [if_true]
      refine .inl ?_
      have hqe1 : ∀ (j : Nat) y, xs[j]? = some y → i < j → QuietE (ancsGo ops.toList []) i x j y := fun j y e hij => quietE hq hij hx e (hsk i x hx) (hsk j y e)
      have hqe2 : ∀ (j : Nat) y, xs[j]? = some y → j < i → QuietE (ancsGo ops.toList []) j y i x := fun j y e hij => quietE hq hij e hx (hsk j y e) (hsk i x hx)
      have hM := hnewM fun b hb j y e hij ht => (hqe1 j y e hij).1 b (.inl ⟨hb, .inl ht⟩)
      have hmem : ∀ b, x.meet b → memL xs s (fun j => listed.getD j false) b = foldU (fun j => decide (j < i)) 0 (mems xs) (hget s.hp) b := by
        intro b hb
        refine foldU_congr _ 0 _ _ (mems_law _) (fun j u e hT => ?_) rfl
        obtain ⟨y, e1, rfl⟩ := mems_get e
        simp only [Nat.zero_add]
        exact agree j (by rw [← hxl]; exact (List.getElem?_eq_some_iff.1 e1).1) (fun h => (hqe1 j y e1 h).1 b (.inr ⟨hT, hb⟩)) (fun h => (hqe2 j y e1 h).1 b (.inl ⟨hT, hb⟩))
      have hfit : x.e.fits (foldU (fun j => decide (j < i)) 0 (mems xs) (hget s.hp)) (memL xs s fun j => listed.getD j false) := by
        cases he : x.e with
        | wr l => exact fun p hp => hmem p.1 (.inl (by rw [he]; exact ⟨p, hp, rfl⟩))
        | full h' =>
          show memL xs s _ = _
          funext b
          exact hmem b (.inl (by rw [he]; exact trivial))
      refine hsim hran _ a w φ I (fun b hb => hmem b (.inr hb)) hfit hr (fun y hy => ?_) _ Q fun u w' φ' I' b1 b2 b3 b4 => ?_
      · rw [evalO_congr (fun t ht => hfrt t ht) hy]
        exact hf.eval y
      · have hMe : memL xs s (fun j => (listed.setIfInBounds i true).getD j false) = x.e.rd (memL xs s fun j => listed.getD j false) := funext hM
        refine ih _ _ (a.put o.dst u) w' φ' I' hsz' hU' hlen' hc' (by rw [hMe]; exact b2) (fun t => ?_) (by simpa using hn) (by simpa using hd) (fun base hb => by rw [hMe]; exact (hs base hb).trans (b3 base (Nat.le_trans hb hlen2)))
        rw [hnewT t]
        exact (hf.step hr (b3 0 (Nat.zero_le _)) b4).put' b1 hdst' t

theorem region_ok (henv : EnvOk P env) (hrun : RunOk P run) (hm : P.follows .mixedOrders = true) {id : Nat} {draw : Bool} {k : St → Option R} (hok : okCode (.region id ops draw) = true)
    (h : opsK env run nt ops draw ops.toList 0 [] s k = some r) :
    ∃ s', k s' = some r ∧ s.hp.length ≤ s'.hp.length ∧ ∀ (w : World) (I : Nat → Prop) (φ : Phi) (a : Act), StOk w I φ s a → nt ≤ a.tmps.size → ∀ Q : Exit → Act → World → Prop,
      (∀ a' w' φ' I', nt ≤ a'.tmps.size → a'.defers = a.defers → StOk w' I' φ' s' a' → (∀ base, base ≤ s.hp.length → Step base (hget s.hp) φ I w (hget s'.hp) φ' I' w') → Q .normal a' w') → (Code.region id ops draw).wp P Q a w := by
  cases draw with
  | false =>
    obtain ⟨s', h1, h2, h3⟩ := ops_plain henv hrun _ _ _ _ _ h
    exact ⟨s', h1, h2, fun w I φ a hs ha Q hQ => wp_region_list (h3 w I φ a hs ha Q hQ)⟩
  | true =>
    have ht : tempsOk ops = true := by simpa [okCode] using hok
    obtain ⟨xs, s', s2, h1, hf2, hp2, h2, h3⟩ := ops_chain henv hrun _ _ _ _ s _ rfl rfl h
    refine ⟨s2, h1, by rw [hp2]; exact h2.length.2, fun w I φ a hs ha Q hQ2 => wp_region_any hm ?_⟩
    have hQ : ∀ a' w' φ' I', nt ≤ a'.tmps.size → a'.defers = a.defers → StOk w' I' φ' s' a' → (∀ base, base ≤ s.hp.length → Step base (hget s.hp) φ I w (hget s'.hp) φ' I' w') → Q .normal a' w' :=
      fun a' w' φ' I' c1 c2 c3 c4 => hQ2 a' w' φ' I' c1 c2 ⟨by rw [hp2]; exact c3.hh, by rw [hf2]; exact c3.fr⟩ (by rw [hp2]; exact c4)
    have hdr := hs.hh.drew (base := 0)
    have hL : ∀ j, (Array.replicate ops.size false).getD j false = false := fun j => by
      simp only [Array.getD_eq_getD_getElem?, Array.getElem?_replicate]
      split <;> rfl
    have e1 : memL xs s (fun j => (Array.replicate ops.size false).getD j false) = hget s.hp := foldU_false _ 0 _ fun j => hL _
    have e2 : tmpL ops xs s (fun j => (Array.replicate ops.size false).getD j false) = fget s.fr := foldU_false _ 0 _ fun j => hL _
    refine draw_any (a0 := a) (w0 := w) (φ0 := φ) (I0 := I) ht h2 h3 hQ ops.size _ (List.range ops.size) a w.drew φ I (by simp) (fun j hj _ => by simpa using hj) (by simp) (fun j o _ hj => by have hj : (Array.replicate ops.size false).getD j false = true := hj; rw [hL] at hj; cases hj) (by rw [e1]; exact hdr.1) (fun t => ?_) ha rfl fun base _ => by rw [e1]; exact (hs.hh.drew base).2
    rw [e2]
    exact hs.fr.step hs.hh hdr.2 (Phi.le_refl _) t

end
end Go.AM
