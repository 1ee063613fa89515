/- Part 6 of the texts that the proof needs: the abstract machine, plain laws, contracts of the program's functions. No statement is claimed here. -/
import Derived.Test.YtiehekhdjafbaaaGreatPart5
set_option linter.unusedVariables false
set_option linter.unusedSimpArgs false
section
open Go Go.AM Go.Md Go.Fl
namespace Go.Wk
set_option maxRecDepth 100000
set_option maxHeartbeats 400000
def Up1 (R R' : List Rep) : Prop := ∀ r' ∈ R', ∃ r ∈ R, (r'.self = r.self ∧ r.frozen ≤ r'.frozen) ∨ (r'.self.node = r.self.node ∧ r.self.boot < r'.self.boot)
theorem Kn.up {R R' : List Rep} {m : Member} (h : Kn R m) (hu : Up1 R R') : Kn R' m := by
  intro r' hr' hn
  obtain ⟨r, hr, e⟩ := hu r' hr'
  rcases e with ⟨e, _⟩ | ⟨e1, e2⟩
  · rw [e] at hn ⊢; exact h r hr hn
  · have := h r hr (by rw [← e1]; exact hn)
    omega
theorem FzOk.up {R R' : List Rep} {m : Member} {e : Int} (h : FzOk R m e) (hu : Up1 R R') : FzOk R' m e := by
  refine ⟨h.1.up hu, fun r' hr' hs => ?_⟩
  obtain ⟨r, hr, x⟩ := hu r' hr'
  rcases x with ⟨x, hf⟩ | ⟨x1, x2⟩
  · have := h.2 r hr (by rw [← x]; exact hs)
    omega
  · have := h.1 r hr (by rw [← x1, hs])
    rw [hs] at x2
    omega
theorem OB.up {H : Hist} {R R' : List Rep} {s : ES} (h : OB H R s) (hu : Up1 R R') : OB H R' s :=
  { h with
    hk := fun x hx m hm => (h.hk x hx m hm).up hu
    old := fun x hx => by
      obtain ⟨m, h1, h2⟩ := h.old x hx
      exact ⟨m, h1, h2.up hu⟩
    fz := fun f hf => (h.fz f hf).up hu
    nd := fun a ha => (h.nd a ha).up hu }
theorem OW.up {H : Hist} {R R' : List Rep} {m : Msg} (h : OW H R m) (hu : Up1 R R') : OW H R' m := ⟨fun k => (h.1 k).up hu, fun k => (h.2.1 k).up hu, h.2.2⟩
structure XO (H : Hist) (r : Rep) (x : Msg) : Prop where
  n7 : x.kind ≠ 7
  n10 : x.kind ≠ 10
  k9 : x.kind = 9 → x.src = r.self.node ∧ x.sboot = r.self.boot ∧ x.epoch ≤ r.frozen
  k11 : x.kind = 11 → (x.epoch, x.chain) ∈ H
theorem insts_o {H : Hist} {r : Rep} (h : (r.view.epoch, r.view.chain) ∈ H) : ∀ (l : List Member) (s : List Bool), ∀ x ∈ instsP r l s, XO H r x
  | [], s => fun m hm => by simp [instsP] at hm
  | a :: l, [] => fun m hm => by simp [instsP] at hm
  | a :: l, b :: s => fun m hm => by
    have ih := insts_o h l s
    unfold instsP at hm
    cases b with
    | true => exact ih m hm
    | false =>
      rw [cond_false] at hm
      rcases List.mem_cons.1 hm with e | e
      · subst e
        exact ⟨(by show (11 : Int) ≠ 7; decide), (by show (11 : Int) ≠ 10; decide), (fun k => by cases k), fun _ => h⟩
      · exact ih m e
theorem acks_o {H : Hist} {r : Rep} : ∀ x ∈ acksP r, XO H r x := by
  intro x hx
  unfold acksP at hx
  split at hx
  · cases hx
  · simp only [List.mem_singleton] at hx
    subst hx
    exact ⟨(by show (14 : Int) ≠ 7; decide), (by show (14 : Int) ≠ 10; decide), (fun k => by cases k), (fun k => by cases k)⟩
theorem forws_o {H : Hist} {r : Rep} : ∀ x ∈ forwsP r, XO H r x := by
  intro x hx
  unfold forwsP at hx
  split at hx
  · cases hx
  · simp only [List.mem_singleton] at hx
    subst hx
    exact ⟨(by show (13 : Int) ≠ 7; decide), (by show (13 : Int) ≠ 10; decide), (fun k => by cases k), (fun k => by cases k)⟩
theorem again_o {H : Hist} {r : Rep} (h : OR H r) : ∀ x ∈ againP r, XO H r x := by
  intro m hm
  unfold againP at hm
  cases h1 : syncsP r with
  | true =>
    rw [h1] at hm
    have hp : r.view.phase ≠ 0 := by
      unfold syncsP at h1
      have := of_decide_eq_true (and_true' h1).2
      omega
    exact insts_o (h hp) _ _ m hm
  | false =>
    rw [h1, cond_false] at hm
    cases h2 : worksP r with
    | true =>
      rw [h2, cond_true] at hm
      rcases List.mem_append.1 hm with e | e
      · exact forws_o m e
      · exact acks_o m e
    | false => rw [h2] at hm; cases hm
structure HO (H : Hist) (r : Rep) (o : Rep × List Msg) : Prop where
  fr : r.frozen ≤ o.1.frozen
  or : OR H o.1
  ms : ∀ x ∈ o.2, XO H o.1 x
theorem HO.same {H : Hist} {r : Rep} (h : OR H r) : HO H r (r, []) := ⟨Int.le_refl _, h, fun m hm => by cases hm⟩
theorem hand_o {H : Hist} {r : Rep} {m : Msg} (h : OR H r) (hw : m.kind = 10 ∨ m.kind = 11 → (m.epoch, m.chain) ∈ H) : HO H r (handP r m) := by
  unfold handP
  cases ht : toMe r m with
  | false => exact .same h
  | true =>
    rw [cond_true]
    unfold handK
    cases e8 : decide (m.kind = 8) with
    | true =>
      rw [cond_true]
      unfold freezeP
      cases ha : aboveP r m with
      | false => exact .same h
      | true =>
        refine ⟨(above_iff.1 ha).2, h, fun x hx => ?_⟩
        simp only [cond_true, List.mem_singleton] at hx
        subst hx
        exact ⟨(by show (9 : Int) ≠ 7; decide), (by show (9 : Int) ≠ 10; decide), fun _ => ⟨rfl, rfl, Int.le_refl _⟩, (fun k => by cases k)⟩
    | false =>
    rw [cond_false]
    cases e10 : decide (m.kind = 10) with
    | true =>
      rw [cond_true]
      unfold actP
      cases actG r m with
      | false => exact .same h
      | true =>
        have hr : OR H (actR r m) := fun _ => hw (.inl (of_decide_eq_true e10))
        exact ⟨Int.le_refl _, hr, again_o hr⟩
    | false =>
    rw [cond_false]
    cases e11 : decide (m.kind = 11) with
    | true =>
      rw [cond_true]
      unfold insP
      cases decide (0 < idx m.chain r.self) with
      | false => exact .same h
      | true =>
        rw [cond_true]
        have hr : r.frozen ≤ (insR r m).frozen ∧ OR H (insR r m) := by
          unfold insR
          cases aboveP r m with
          | true => exact ⟨Int.le_refl _, fun _ => hw (.inr (of_decide_eq_true e11))⟩
          | false => exact ⟨Int.le_refl _, h⟩
        refine ⟨hr.1, hr.2, fun x hx => ?_⟩
        dsimp only at hx
        cases hc : liveP (insR r m) && decide (m.epoch = (insR r m).view.epoch) with
        | false => rw [hc] at hx; cases hx
        | true =>
          rw [hc] at hx
          simp only [cond_true, List.mem_singleton] at hx
          subst hx
          exact ⟨(by show (12 : Int) ≠ 7; decide), (by show (12 : Int) ≠ 10; decide), (fun k => by cases k), (fun k => by cases k)⟩
    | false =>
    rw [cond_false]
    cases e12 : decide (m.kind = 12) with
    | true =>
      rw [cond_true]
      unfold indP
      cases hc : syncsP r && (decide (m.epoch = r.view.epoch) && decide (0 ≤ idx r.view.chain (who m))) with
      | false => exact .same h
      | true =>
        have hp : r.view.phase ≠ 0 := by
          have := (and_true' hc).1
          unfold syncsP at this
          have := of_decide_eq_true (and_true' this).2
          omega
        have hr : r.frozen ≤ (indR r m).frozen ∧ OR H (indR r m) := by
          unfold indR
          cases (indS r m).all id with
          | true => exact ⟨Int.le_refl _, fun _ => h hp⟩
          | false => exact ⟨Int.le_refl _, fun _ => h hp⟩
        exact ⟨hr.1, hr.2, fun m hm => by cases hm⟩
    | false =>
    rw [cond_false]
    cases e13 : decide (m.kind = 13) with
    | true =>
      rw [cond_true]
      unfold fwdP
      cases nextG r m (-1) with
      | false => exact .same h
      | true =>
        have hk := fwdR_self r m
        have hr : OR H (fwdR r m) := fun hp => by
          have hv := hk.view
          rw [hv] at hp ⊢
          exact h hp
        exact ⟨by show r.frozen ≤ (fwdR r m).frozen; rw [hk.frozen]; exact Int.le_refl _, hr, again_o hr⟩
    | false =>
    rw [cond_false]
    cases e14 : decide (m.kind = 14) with
    | true =>
      rw [cond_true]
      unfold ackP
      cases nextG r m 1 with
      | false => exact .same h
      | true =>
        have hr : r.frozen ≤ (ackR r m).frozen ∧ OR H (ackR r m) := by
          unfold ackR
          cases vlt r.tail.last m.ver with
          | true => exact ⟨Int.le_refl _, h⟩
          | false => exact ⟨Int.le_refl _, h⟩
        exact ⟨hr.1, hr.2, acks_o⟩
    | false => exact .same h
structure OI (H : Hist) (c : CConf) (p : PlayB) : Prop where
  b : OB H p.reps (p.b.es c)
  w : ∀ m ∈ p.way, OW H p.reps m
  r : ∀ r ∈ p.reps, OR H r
def OX (H : Hist) (c : CConf) (p : PlayB) : Prop := ∃ H' : Hist, (∀ y ∈ H, y ∈ H') ∧ OI H' c p
theorem OX.of {H : Hist} {c : CConf} {p : PlayB} (h : OI H c p) : OX H c p := ⟨H, fun _ h => h, h⟩
theorem OI.lay {H : Hist} {c : CConf} {p : PlayB} {l : List Msg} (h : OI H c p) (hl : ∀ m ∈ l, OW H p.reps m) : OI H c (layB p l) :=
  { h with w := fun m hx => (List.mem_append.1 hx).elim (h.w m) (hl m) }
theorem OI.wayB {H : Hist} {c : CConf} {p : PlayB} {l : List Msg} (h : OI H c p) (hl : ∀ m ∈ l, m ∈ p.way) : OI H c (wayB p l) := { h with w := fun m hx => h.w m (hl m hx) }
theorem OB.bu {H : Hist} {R : List Rep} {c : CConf} {r : ES} (h : OB H R r) : OB H R (r.bu.es c) := { h with }
theorem rp_mem {p : PlayB} {j : Nat} (h : j < p.reps.length) : rpB p j ∈ p.reps := by
  unfold rpB; simp [List.getD, h]
theorem mem_rp {p : PlayB} {r : Rep} (h : r ∈ p.reps) : ∃ j, j < p.reps.length ∧ rpB p j = r := by
  obtain ⟨j, hj, e⟩ := List.getElem_of_mem h
  exact ⟨j, hj, by unfold rpB; simpa [List.getD, hj] using e⟩
theorem up_put {p : PlayB} {j : Nat} {r : Rep} (hj : j < p.reps.length) (hr : (r.self = (rpB p j).self ∧ (rpB p j).frozen ≤ r.frozen) ∨ (r.self.node = (rpB p j).self.node ∧ (rpB p j).self.boot < r.self.boot)) : Up1 p.reps (putB p j r).reps := by
  intro x hx
  rcases List.mem_or_eq_of_mem_set hx with e | e
  · exact ⟨x, e, .inl ⟨rfl, Int.le_refl _⟩⟩
  · subst e; exact ⟨rpB p j, rp_mem hj, hr⟩
theorem OI.put {H : Hist} {c : CConf} {p : PlayB} {j : Nat} {r : Rep} (h : OI H c p) (hj : j < p.reps.length) (hu : Up1 p.reps (putB p j r).reps) (hr : OR H r) : OI H c (putB p j r) :=
  ⟨h.b.up hu, fun m hm => (h.w m hm).up hu, fun x hx => by
    rcases List.mem_or_eq_of_mem_set hx with e | e
    · exact h.r x e
    · subst e; exact hr⟩
theorem node_inj {N : Nat} {c : CConf} {p : PlayB} (h : PIs N c p) {a b : Rep} (ha : a ∈ p.reps) (hb : b ∈ p.reps) (hn : a.self.node = b.self.node) : a = b := by
  obtain ⟨i, hi, e1⟩ := mem_rp ha
  obtain ⟨j, hj, e2⟩ := mem_rp hb
  have h1 := h.self i (by rw [← h.rl]; exact hi)
  have h2 := h.self j (by rw [← h.rl]; exact hj)
  rw [e1] at h1
  rw [e2] at h2
  have : i = j := by omega
  subst this
  rw [← e1, ← e2]
theorem Kn.self {N : Nat} {c : CConf} {p : PlayB} (h : PIs N c p) {r : Rep} (hr : r ∈ p.reps) : Kn p.reps r.self := by
  intro x hx hn
  rw [node_inj h hx hr hn]
  exact Int.le_refl _
theorem FzOk.self {N : Nat} {c : CConf} {p : PlayB} (h : PIs N c p) {r : Rep} (hr : r ∈ p.reps) {e : Int} (he : e ≤ r.frozen) : FzOk p.reps r.self e := by
  refine ⟨Kn.self h hr, fun x hx hs => ?_⟩
  rw [node_inj h hx hr (by rw [hs])]
  exact he
theorem XO.ow {N : Nat} {c : CConf} {p : PlayB} {H : Hist} {r : Rep} {x : Msg} (h : XO H r x) (hp : PIs N c p) (hr : r ∈ p.reps) : OW H p.reps x := by
  refine ⟨fun k => ?_, fun k => absurd k h.n7, fun k => ?_⟩
  · obtain ⟨a1, a2, a3⟩ := h.k9 k
    rw [a1, a2]
    exact FzOk.self hp hr a3
  · rcases k with k | k
    · exact absurd k h.n10
    · exact h.k11 k
theorem give_o {N : Nat} {c : CConf} {p : PlayB} {m : Msg} {H : Hist} (h : PIs N c p) (ho : OI H c p) (hm : WyM N m) (hw : OW H p.reps m) (hN : N ≤ 980) : OX H c (giveB c p m) := by
  have hg := give_is21 h hm (by omega)
  have hgi := hg.is
  have hrl := h.rl
  unfold giveB at hgi ⊢
  cases h0 : decide (m.dst = 0) with
  | true =>
    rw [cond_true]
    have h1 : OI H c { p with fe := maxI p.fe m.epoch } := { ho with }
    refine .of (h1.lay fun x hx => ?_)
    have : x = fncMg (maxI p.fe m.epoch) := by simpa using hx
    subst this
    exact .no (by show (20 : Int) ≠ 9; decide) (by show (20 : Int) ≠ 7; decide) (by show (20 : Int) ≠ 10; decide) (by show (20 : Int) ≠ 11; decide)
  | false =>
    rw [h0, cond_false] at hgi
    rw [cond_false]
    cases h1 : decide (m.dst = 1) with
    | true =>
      rw [cond_true]
      obtain ⟨H', a1, a2, a3⟩ := (hd_o ho.b h.b hm (of_decide_eq_true h1) hw (by omega)).ex
      refine ⟨H', a1, ?_⟩
      have h2 : OI H' c { p with b := (hdS (p.b.es c) m).1.bu } := ⟨a2.bu, fun m hm => (ho.w m hm).ext a1, fun r hr => (ho.r r hr).ext a1⟩
      exact h2.lay a3
    | false =>
      rw [h1, cond_false] at hgi
      rw [cond_false]
      rcases giveR_cases m p.reps.length 0 p with e | ⟨j, j1, j2, e⟩
      · rw [e]; exact .of ho
      · rw [e] at hgi ⊢
        have hj : j < p.reps.length := by omega
        have hr := h.rep j (by omega)
        have hh := hand_o (ho.r _ (rp_mem hj)) hw.2.2
        have hself : (handP (rpB p j) m).1.self = (rpB p j).self := by
          cases hm with
          | chain _ h1 hk hd h8 h11 => exact (handP_is hr h1 (by omega) (by omega)).self
          | fence ep => simp [fenMg] at h0
          | fenced ep => simp [fncMg] at h1
          | beat r h1' h2 => simp [beatMg] at h1
          | froze _ h1' hk hd => exact absurd hd (of_decide_eq_false h1)
          | reset n => simp [resMg] at h1
          | was a ha =>
            have := h.self j (by omega)
            have j2 : (rpB p j).self.node = a.1 := j2
            omega
        have hu : Up1 p.reps (putB p j (handP (rpB p j) m).1).reps := up_put hj (.inl ⟨hself, hh.fr⟩)
        have h3 := ho.put hj hu hh.or
        refine .of (h3.lay fun x hx => ?_)
        have hp3 : PIs (N + 3) c (putB p j (handP (rpB p j) m).1) := { hgi with way := fun y hy => hgi.way y (List.mem_append_left _ hy) }
        have hj' : j < (putB p j (handP (rpB p j) m).1).reps.length := by
          show j < (p.reps.set j _).length
          rw [List.length_set]; exact hj
        have hmm := rp_mem hj'
        have hpp := rp_put (p := p) (i := j) (j := j) (r := (handP (rpB p j) m).1) hj
        rw [if_pos rfl] at hpp
        rw [hpp] at hmm
        exact (hh.ms x hx).ow hp3 hmm
theorem do_o {N : Nat} {c : CConf} {p : PlayB} {k i : Nat} {H : Hist} (h : PIs N c p) (ho : OI H c p) (hN : N ≤ 970) : OX H c (doB c k i p) := by
  have hrl := h.rl
  have hat : i % p.reps.length < 3 := by rw [hrl]; exact Nat.mod_lt _ (by omega)
  have hatl : i % p.reps.length < p.reps.length := by omega
  unfold doB
  cases decide (k ≤ 5) with
  | true =>
    rw [cond_true]
    by_cases hw : p.way.length = 0
    · rw [decide_eq_true hw]; exact .of ho
    · have hlt : i % p.way.length < p.way.length := Nat.mod_lt _ (by omega)
      have hm := mem_getDw hlt
      rw [decide_eq_false hw, cond_false]
      cases decide (k = 5) with
      | true =>
        refine .of (ho.lay fun x hx => ?_)
        have : x = p.way.getD (i % p.way.length) default := by simpa using hx
        rw [this]; exact ho.w _ hm
      | false =>
        rw [cond_false]
        have he : ∀ x ∈ p.way.eraseIdx (i % p.way.length), x ∈ p.way := fun x hx => List.mem_of_mem_eraseIdx hx
        cases decide (k = 4) with
        | true => exact .of (ho.wayB he)
        | false => exact give_o (h.wayB he) (ho.wayB he) (h.way _ hm) (ho.w _ hm) (by omega)
  | false =>
    rw [cond_false]
    cases decide (k = 6) with
    | true =>
      rw [cond_true]
      obtain ⟨H', a1, a2, a3⟩ := (tick_o ho.b h.b (by omega)).ex
      refine ⟨H', a1, ?_⟩
      have h2 : OI H' c { p with b := (tickQ (p.b.es c)).1.bu } := ⟨a2.bu, fun m hm => (ho.w m hm).ext a1, fun r hr => (ho.r r hr).ext a1⟩
      exact h2.lay a3
    | false =>
      rw [cond_false]
      cases decide (k = 10) with
      | true =>
        have hb := ho.b
        have h1 : OB H p.reps ((openB ⟨p.b.e, p.b.g, p.b.p⟩).es c) := { hb with ke := (fun m hm => by cases hm), k3 := fun _ => rfl, fz := (fun f hf => by cases hf), nd := (fun a ha => by cases ha) }
        exact .of { ho with b := h1 }
      | false =>
        rw [cond_false]
        cases decide (k = 11) with
        | true =>
          have h1 : OI H c { p with reset := IntKind.i64.wrap (p.reset + 1) } := { ho with }
          refine .of (h1.lay fun x hx => ?_)
          have : x = resMg (IntKind.i64.wrap (p.reset + 1)) := by simpa using hx
          subst this
          exact .no (by show (21 : Int) ≠ 9; decide) (by show (21 : Int) ≠ 7; decide) (by show (21 : Int) ≠ 10; decide) (by show (21 : Int) ≠ 11; decide)
        | false =>
          rw [cond_false]
          have hmem := rp_mem hatl
          cases decide (k = 7) with
          | true =>
            rw [cond_true]
            refine .of ((ho.lay fun x hx => ?_).lay fun x hx => ?_)
            · have : x = beatMg (rpB p (i % p.reps.length)) := by simpa using hx
              subst this
              exact ⟨(fun k => by cases k), fun _ => Kn.self h hmem, (fun k => by rcases k with k | k <;> cases k)⟩
            · have hx1 : OW H p.reps x := (again_o (ho.r _ hmem) x hx).ow h hmem
              exact hx1
          | false =>
            rw [cond_false]
            cases decide (k = 8) with
            | true =>
              rw [cond_true]
              have hb := h.boot _ hat
              have hb1 := (h.rep _ hat).self.2.2.1
              have hw : IntKind.i64.wrap ((rpB p (i % p.reps.length)).self.boot + 1) = (rpB p (i % p.reps.length)).self.boot + 1 := wrap64 (by omega)
              rw [hw]
              exact .of (ho.put hatl (up_put hatl (.inr ⟨rfl, by show _ < _ + (1 : Int); omega⟩)) (fun hp => absurd rfl hp))
            | false =>
              rw [cond_false]
              have hpu : ∀ r : Rep, (pushB r).self = r.self ∧ (pushB r).frozen = r.frozen ∧ (pushB r).view = r.view := by
                intro r
                unfold pushB headPush
                dsimp only
                cases headP r with
                | false => exact ⟨rfl, rfl, rfl⟩
                | true =>
                  rw [cond_true]
                  unfold pushP
                  cases vlt r.tail.last (entP (nextV r)).ver with
                  | false => exact ⟨rfl, rfl, rfl⟩
                  | true => exact ⟨rfl, rfl, rfl⟩
              have hu : Up1 p.reps (p.reps.map pushB) := by
                intro x hx
                obtain ⟨r, hr, e⟩ := List.mem_map.1 hx
                subst e
                obtain ⟨a1, a2, _⟩ := hpu r
                exact ⟨r, hr, .inl ⟨a1, by rw [a2]; exact Int.le_refl _⟩⟩
              refine .of ⟨ho.b.up hu, fun m hm => (ho.w m hm).up hu, fun x hx => ?_⟩
              obtain ⟨r, hr, e⟩ := List.mem_map.1 hx
              subst e
              obtain ⟨_, _, a3⟩ := hpu r
              intro hp
              rw [a3] at hp ⊢
              exact ho.r r hr hp
theorem repL_mem {m : Member} : ∀ {l : List Rep}, (repL m l).2 = true → (repL m l).1 ∈ l ∧ (repL m l).1.self = m
  | [], h => by cases h
  | r :: l, h => by
    have e : repL m (r :: l) = bif decide (r.self = m) then (r, true) else repL m l := rfl
    rw [e] at h ⊢
    cases hs : decide (r.self = m) with
    | true => exact ⟨List.mem_cons_self .., of_decide_eq_true hs⟩
    | false =>
      rw [hs] at h
      have := repL_mem h
      exact ⟨List.mem_cons_of_mem _ this.1, this.2⟩
theorem able_head {H : Hist} {c : CConf} {p : PlayB} (ho : OI H c p) {r : Rep} (hr : r ∈ p.reps) (ha : abl1 p r = true) : (∃ rest, H = (r.view.epoch, r.view.chain) :: rest) ∧ ∃ t, r.view.chain = r.self :: t := by
  unfold abl1 at ha
  obtain ⟨h1, h2⟩ := and_true' ha
  unfold headP at h1
  obtain ⟨h3, h4⟩ := and_true' h1
  have hp : r.view.phase ≠ 0 := by
    unfold worksP at h3
    have := of_decide_eq_true (and_true' h3).2
    omega
  have hin := ho.r r hr hp
  refine ⟨?_, isFirst_cons h4⟩
  match hH : H with
  | [] => cases hin
  | y :: rest =>
    rcases List.mem_cons.1 hin with e | e
    · exact ⟨rest, by rw [← e]⟩
    · obtain ⟨m, m1, m2⟩ := ho.b.old _ e
      have hk := List.all_eq_true.1 h2 m m1
      unfold isOk at hk
      obtain ⟨k1, k2⟩ := and_true' hk
      obtain ⟨k3, k4⟩ := and_true' k2
      have k4 := of_decide_eq_true k4
      obtain ⟨q1, q2⟩ := repL_mem k1
      have := m2.2 _ q1 q2
      unfold worksP liveP at k3
      have k5 := of_decide_eq_true (and_true' (and_true' k3).1).2
      have this : r.view.epoch + 1 ≤ (repL m p.reps).1.frozen := this
      omega
theorem able_one {N : Nat} {H : Hist} {c : CConf} {p : PlayB} (h : PIs N c p) (ho : OI H c p) {i j : Nat} (hi : i < 3) (hj : j < 3) (ai : abl1 p (rpB p i) = true) (aj : abl1 p (rpB p j) = true) : i = j := by
  have hrl := h.rl
  obtain ⟨⟨r1, e1⟩, t1, c1⟩ := able_head ho (rp_mem (by omega)) ai
  obtain ⟨⟨r2, e2⟩, t2, c2⟩ := able_head ho (rp_mem (by omega)) aj
  rw [e1] at e2
  injection e2 with e2 _
  injection e2 with _ e3
  rw [c1, c2] at e3
  injection e3 with e3 _
  have s1 := h.self i hi
  have s2 := h.self j hj
  rw [e3, s2] at s1
  omega
theorem ables_le {N : Nat} {H : Hist} {c : CConf} {p : PlayB} (h : PIs N c p) (ho : OI H c p) : ablesN p p.reps.length 0 ≤ 1 := by
  rw [h.rl]
  show (bif abl1 p (rpB p 0) then 1 else 0) + ((bif abl1 p (rpB p 1) then 1 else 0) + ((bif abl1 p (rpB p 2) then 1 else 0) + 0)) ≤ 1
  cases h0 : abl1 p (rpB p 0) <;> cases h1 : abl1 p (rpB p 1) <;> cases h2 : abl1 p (rpB p 2)
  · decide
  · decide
  · decide
  · have := able_one h ho (by omega) (by omega) h1 h2; omega
  · decide
  · have := able_one h ho (by omega) (by omega) h0 h2; omega
  · have := able_one h ho (by omega) (by omega) h0 h1; omega
  · have := able_one h ho (by omega) (by omega) h0 h1; omega
theorem one_ok {c : CConf} : ∀ (l : List Stp) (n : Nat) (H : Hist) (p : PlayB), n + 3 * l.length ≤ 900 → PIs n c p → OI H c p → OneOk c l p
  | [], _, _, _, _, _, _ => trivial
  | s :: l, n, H, p, hn, hp, ho => by
    have hn' : n + 3 * (l.length + 1) ≤ 900 := hn
    obtain ⟨H', _, ho'⟩ := do_o (k := s.1 % 12) (i := s.2) hp ho (by omega)
    have hp' := (do_is21 (k := s.1 % 12) (i := s.2) hp (by omega)).1
    exact ⟨ables_le hp' ho', one_ok l (n + 3) H' _ (by omega) hp' ho'⟩
end Go.Wk
end
section
open Go Go.AM Go.Md Go.Fl
namespace Go.Wk
set_option maxRecDepth 100000
set_option maxHeartbeats 400000
def stC (s : Int × Int) : List AV := [.int .u8 s.1, .int .u8 s.2]
def stepsV (n : Nat) (f : Nat → Int × Int) : AV := .tr 2 n fun i => stC (f i)
def StOk (s : Int × Int) : Prop := (0 ≤ s.1 ∧ s.1 ≤ 255) ∧ 0 ≤ s.2 ∧ s.2 ≤ 255
def sFs : Option TypeDesc → Option (List TypeId)
  | some (.struct fs) => some (fs.toList.map (·.type))
  | _ => none
theorem sFs_some {d : Option TypeDesc} {l : List TypeId} (h : sFs d = some l) : ∃ fs, d = some (.struct fs) ∧ fs.toList.map (·.type) = l := by
  unfold sFs at h
  split at h
  · exact ⟨_, rfl, Option.some.inj h⟩
  · cases h
theorem two_fs {l : List Field} {s t : TypeId} (h : l.map (·.type) = [s, t]) : ∃ x y, l = [x, y] ∧ x.type = s ∧ y.type = t := by
  cases l with
  | nil => cases h
  | cons x l =>
    cases l with
    | nil => cases h
    | cons y l =>
      cases l with
      | nil => simp only [List.map_cons, List.map_nil, List.cons.injEq, and_true] at h; exact ⟨x, y, rfl, h.1, h.2⟩
      | cons z l => simp at h
theorem steps_shape {avs : List AV} (h : Args PG 9 [5, 22] avs) : ∃ (k : Int) (n : Nat) (f : Nat → Int × Int), (0 ≤ k ∧ k ≤ 255) ∧ (∀ i, i < n → StOk (f i)) ∧ SubC avs [.int .u8 k, stepsV n f] := by
  obtain ⟨av, r, hs, rfl, av2, r2, hs2, rfl, rfl⟩ := h
  have u5 : PG.underlying 5 = some (.int .u8) := by kernel_rfl
  have u22 : PG.underlying 22 = some (.slice 44) := by kernel_rfl
  obtain ⟨a1, a2⟩ := Shape.num u5 hs
  obtain ⟨c, n, f, rfl, b1, b2, b3⟩ := Shape.list u22 hs2
  have e1 : argOf PG 5 av = .int .u8 (getI av 0) := by unfold argOf; rw [u5, a1]; rfl
  have e2 : argOf PG 22 [c] = c := by unfold argOf; rw [u22]; rfl
  rw [e1, e2]
  have hb : IntKind.u8.min = 0 ∧ IntKind.u8.max = 255 := by decide
  rw [hb.1, hb.2] at a2
  have hst : ∀ i, i < n → f i = stC (getI (f i) 0, getI (f i) 1) ∧ StOk (getI (f i) 0, getI (f i) 1) := by
    intro i hi
    have h3 := b3 i hi
    unfold Shape at h3
    have hu : sFs (PG.underlying 44) = some [5, 5] := by kernel_rfl
    obtain ⟨fs, u44, hfs⟩ := sFs_some hu
    rw [u44] at h3
    simp only [] at h3
    obtain ⟨x, y, hl, hx, hy⟩ := two_fs hfs
    rw [hl] at h3
    obtain ⟨a, b, hab, h4, c, d, hcd, h5, h6⟩ := h3
    have h6 : d = [] := h6
    rw [hx] at h4
    rw [hy] at h5
    obtain ⟨c1, c2⟩ := Shape.num u5 h4
    obtain ⟨d1, d2⟩ := Shape.num u5 h5
    rw [hb.1, hb.2] at c2 d2
    rw [h6, List.append_nil] at hcd
    rw [hab, hcd, c1, d1]
    exact ⟨rfl, c2, d2⟩
  refine ⟨getI av 0, n, fun i => (getI (f i) 0, getI (f i) 1), a2, fun i hi => (hst i hi).2, .cons (.refl _) (.cons (b1.trans ?_) .nil)⟩
  have ec : PG.cellsOf 44 = 2 := by kernel_rfl
  rw [ec]
  exact .trs fun i hi => by
    have := (hst i hi).1
    rw [← this]
    exact .refl _
theorem steps_list (n : Nat) (f : Nat → Int × Int) (hf : ∀ i, i < n → StOk (f i)) : ∃ l : List Stp, l.length = n ∧ (∀ s ∈ l, s.1 ≤ 255 ∧ s.2 ≤ 255) ∧ SubV (stepsV n f) (encStps l) := by
  refine ⟨(List.range n).map fun i => ((f i).1.toNat, (f i).2.toNat), by simp, fun s hs => ?_, ?_⟩
  · obtain ⟨i, hi, e⟩ := List.mem_map.1 hs
    have := hf i (List.mem_range.1 hi)
    unfold StOk at this
    subst e
    dsimp only
    omega
  · unfold stepsV encStps encL
    rw [List.length_map, List.length_range]
    refine SubV.trs fun i hi => ?_
    have h := hf i hi
    unfold StOk at h
    have e : ((List.range n).map fun i => ((f i).1.toNat, (f i).2.toNat)).getD i (0, 0) = ((f i).1.toNat, (f i).2.toNat) := by
      simp [List.getD, hi]
    rw [e]
    unfold stC encStp
    dsimp only
    rw [Int.toNat_of_nonneg h.1.1, Int.toNat_of_nonneg h.2.1]
    exact .refl _
theorem confP_ok {k : Int} (h : 0 ≤ k ∧ k ≤ 255) : 1 ≤ (confP (IntKind.i64.wrap k)).chain ∧ (confP (IntKind.i64.wrap k)).chain ≤ 3 := by
  have h0 : IntKind.i64.wrap k = k := wrap64 (by omega)
  rw [h0]
  show 1 ≤ IntKind.i64.wrap (1 + k.tmod 3) ∧ IntKind.i64.wrap (1 + k.tmod 3) ≤ 3
  have h1 := Int.tmod_nonneg (3 : Int) h.1
  have h2 := Int.tmod_lt_of_pos k (show (0 : Int) < 3 by omega)
  rw [wrap64 (by omega)]
  omega
theorem begin_pis {c : CConf} (h1 : 1 ≤ c.chain) (h2 : c.chain ≤ 3) : PIs 1 c beginB21 := by
  have hm : ∀ n : Int, 2 ≤ n → n ≤ 4 → MemIs ⟨n, 1⟩ := fun n a b => ⟨a, by show n ≤ 5; omega, by show (1 : Int) ≤ 1; omega, by show (1 : Int) ≤ 1000; omega⟩
  have z0 : (0 : Int) ≤ 0 := by omega
  have z1 : (0 : Int) ≤ ((1 : Nat) : Int) := by omega
  refine ⟨⟨h1, h2, rfl, z0, z1, z0, z1, z0, z1, .nil, .nil, ⟨Nat.zero_le _, .nil, (fun a ha => by cases ha), (fun a ha => by cases ha)⟩, .nil, Nat.zero_le _, (fun f hf => by cases hf), (fun e => by cases e), Nat.zero_le _, (fun a ha => by cases ha), fun _ => rfl⟩, rfl, fun i hi => ?_, fun i hi => ?_, fun i hi => ?_, (fun m hm => by cases hm)⟩
  · match i, hi with
    | 0, _ => exact rep0_is (hm 2 (by omega) (by omega)) (by decide)
    | 1, _ => exact rep0_is (hm 3 (by omega) (by omega)) (by decide)
    | 2, _ => exact rep0_is (hm 4 (by omega) (by omega)) (by decide)
  · match i, hi with
    | 0, _ => rfl
    | 1, _ => rfl
    | 2, _ => rfl
  · match i, hi with
    | 0, _ => show (1 : Int) ≤ 1; omega
    | 1, _ => show (1 : Int) ≤ 1; omega
    | 2, _ => show (1 : Int) ≤ 1; omega
theorem begin_oi (c : CConf) : OI [] c beginB21 := by
  refine ⟨⟨.nil, (fun h hh => by cases hh), fun _ => rfl, (fun e C rest h => by cases h), (fun h => by cases h), (fun h hh => by cases hh), (fun h hh => by cases hh), (fun m hm => by cases hm), (fun m hm => by cases hm), (fun h => by cases h), (fun f hf => by cases hf), (fun a ha => by cases ha)⟩, (fun m hm => by cases hm), fun r hr => ?_⟩
  intro hp
  have : r = rep0 ⟨2, 1⟩ ∨ r = rep0 ⟨3, 1⟩ ∨ r = rep0 ⟨4, 1⟩ := by
    have hr : r ∈ [rep0 ⟨2, 1⟩, rep0 ⟨3, 1⟩, rep0 ⟨4, 1⟩] := hr
    simpa using hr
  rcases this with e | e | e <;> (subst e; exact absurd rfl hp)
theorem one_law {k : Int} {l : List Stp} (hk : 0 ≤ k ∧ k ≤ 255) (hs : ∀ s ∈ l, s.1 ≤ 255 ∧ s.2 ≤ 255) : callT (envO kns83) 2001 F_lockgatelaw21_CoordOne [.int .u8 k, encStps l] = some (.bool true) := by
  have e := one_in 2000 k l
  have qA : ∀ K : Option AV, gAwk K = K := fun K => gC_eq () rfl trivial (.refl _)
  rw [qA, qA] at e
  rw [e]
  by_cases h : 120 < l.length
  · rw [decide_eq_true (by omega), cond_true]
  · rw [decide_eq_false (by omega), cond_false]
    have qC : ∀ K : CConf → Option AV, gCnf (IntKind.i64.wrap k) K = K (confP (IntKind.i64.wrap k)) := fun K => by
      unfold gCnf
      have q1 : ∀ K : Int → Option AV, gC (fun a => getI a 0) (fun _ => True) (fun k => [.int .i64 k]) [.int .i64 (IntKind.i64.wrap k)] K = K (IntKind.i64.wrap k) := fun K => gC_eq _ rfl trivial (.refl _)
      rw [q1]
      exact gC_eq (confP (IntKind.i64.wrap k)) rfl trivial (.refl _)
    rw [qC]
    obtain ⟨c1, c2⟩ := confP_ok hk
    have hp := begin_pis c1 c2
    have ho := one_ok l 1 [] beginB21 (by omega) hp (begin_oi _)
    have r := ou_run (N := 2000) (n := 1) (l := l) (c := confP (IntKind.i64.wrap k)) hs (by omega) (by omega) l.length 0 2000 beginB21 (by omega) (by omega) (by simpa using hp) (by omega) (by rw [List.drop_zero]; exact ho)
    rw [Int.natCast_zero] at r
    exact r
theorem coordOne_ok : LawC PG 9 F_lockgatelaw21_CoordOne [5, 22] := by
  intro avs h
  obtain ⟨k, n, f, h1, h2, h3⟩ := steps_shape h
  obtain ⟨l, l1, l2, l3⟩ := steps_list n f h2
  exact (con83 (one_law h1 l2)).args (h3.trans (.cons (.refl _) (.cons l3 .nil)))
end Go.Wk
end
