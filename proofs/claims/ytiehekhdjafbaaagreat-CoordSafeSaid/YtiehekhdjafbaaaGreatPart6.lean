/- Part 6 of the texts that the proof needs: the abstract machine, plain laws, contracts of the program's functions. No statement is claimed here. -/
import Derived.Test.YtiehekhdjafbaaaGreatPart5
set_option linter.unusedVariables false
set_option linter.unusedSimpArgs false
noncomputable section
open Go Go.AM Go.Md Go.Fl
namespace Go.Wk
set_option maxRecDepth 100000
set_option maxHeartbeats 400000
theorem hand_mv {r : Rep} {m : Msg} : r.view.epoch <= (handP r m).1.view.epoch /\ (r.view.phase ≠ 0 -> (handP r m).1.view.phase ≠ 0) := by
 have same : r.view.epoch <= r.view.epoch /\ (r.view.phase ≠ 0 -> r.view.phase ≠ 0) := ⟨Int.le_refl _, id⟩
 unfold handP
 cases toMe r m with
 | false => exact same
 | true =>
  rw [cond_true]
  unfold handK
  cases decide (m.kind = 8) with
  | true =>
   rw [cond_true]
   unfold freezeP
   cases aboveP r m with
   | false => exact same
   | true => exact same
  | false =>
  rw [cond_false]
  cases decide (m.kind = 10) with
  | true =>
   rw [cond_true]
   unfold actP
   cases ha : actG r m with
   | false => exact same
   | true =>
    unfold actG at ha
    have := (above_iff.1 (and_true' ha).1).1
    refine ⟨by show r.view.epoch <= m.epoch; omega, fun _ => ?_⟩
    show (bif decide (m.chain.length = 1) then (3 : Int) else 2) ≠ 0
    cases decide (m.chain.length = 1) <;> decide
  | false =>
  rw [cond_false]
  cases decide (m.kind = 11) with
  | true =>
   rw [cond_true]
   unfold insP
   cases decide (0 < idx m.chain r.self) with
   | false => exact same
   | true =>
    rw [cond_true]
    unfold insR
    cases ha : aboveP r m with
    | false => exact same
    | true =>
     have := (above_iff.1 ha).1
     exact ⟨by show r.view.epoch <= m.epoch; omega, fun _ => by show (3 : Int) ≠ 0; decide⟩
  | false =>
  rw [cond_false]
  cases decide (m.kind = 12) with
  | true =>
   rw [cond_true]
   unfold indP
   cases syncsP r && (decide (m.epoch = r.view.epoch) && decide (0 <= idx r.view.chain (who m))) with
   | false => exact same
   | true =>
    rw [cond_true]
    unfold indR
    cases (indS r m).all id with
    | true => exact ⟨Int.le_refl _, fun _ => by show (3 : Int) ≠ 0; decide⟩
    | false => exact same
  | false =>
  rw [cond_false]
  cases decide (m.kind = 13) with
  | true =>
   rw [cond_true]
   unfold fwdP
   cases nextG r m (-1) with
   | false => exact same
   | true =>
    have hv := (fwdR_self r m).view
    exact ⟨by show r.view.epoch <= (fwdR r m).view.epoch; rw [hv]; exact Int.le_refl _, fun x => by show (fwdR r m).view.phase ≠ 0; rw [hv]; exact x⟩
  | false =>
  rw [cond_false]
  cases decide (m.kind = 14) with
  | true =>
   rw [cond_true]
   unfold ackP
   cases nextG r m 1 with
   | false => exact same
   | true =>
    have hv : (ackR r m).view = r.view := by unfold ackR; cases vlt r.tail.last m.ver <;> rfl
    exact ⟨by show r.view.epoch <= (ackR r m).view.epoch; rw [hv]; exact Int.le_refl _, fun x => by show (ackR r m).view.phase ≠ 0; rw [hv]; exact x⟩
  | false => exact same
structure GP (H : Hist) (G : Gh) (fr : Int -> Bool) (c : CConf) (p : PlayB) : Prop where
 a : BA p.reps H G fr (p.b.es c)
 ow : ∀ m ∈ p.way, OW H p.reps m
 wy : ∀ m ∈ p.way, WyI p.reps H G fr m
 sf : p.safe = ⟨0, 0⟩ \/ ∃ es, KI H G p.safe es
def GpX (c : CConf) (p : PlayB) : Prop := ∃ H G fr, GP H G fr c p
theorem GP.lay {H : Hist} {G : Gh} {fr : Int -> Bool} {c : CConf} {p : PlayB} {l : List Msg} (h : GP H G fr c p) (hl : ∀ m ∈ l, OW H p.reps m /\ WyI p.reps H G fr m) : GP H G fr c (layB p l) :=
 { h with ow := fun m hx => (List.mem_append.1 hx).elim (h.ow m) fun x => (hl m x).1, wy := fun m hx => (List.mem_append.1 hx).elim (h.wy m) fun x => (hl m x).2 }
theorem GP.wayB {H : Hist} {G : Gh} {fr : Int -> Bool} {c : CConf} {p : PlayB} {l : List Msg} (h : GP H G fr c p) (hl : ∀ m ∈ l, m ∈ p.way) : GP H G fr c (wayB p l) := { h with ow := fun m hx => h.ow m (hl m hx), wy := fun m hx => h.wy m (hl m hx) }
theorem BA.bu {R : List Rep} {H : Hist} {G : Gh} {fr : Int -> Bool} {s : ES} {c : CConf} (h : BA R H G fr s) : BA R H G fr (s.bu.es c) := by
 have ho := h.o
 have hb := h.b
 exact ⟨{ ho with }, h.g, { hb with }, h.h0, h.or, h.u⟩
theorem GP.bur {H : Hist} {G : Gh} {fr : Int -> Bool} {c : CConf} {p : PlayB} {x : ES × List Msg} (h : GP H G fr c p) (hx : BO p.reps H G fr x) : GpX c (layB { p with b := x.1.bu } x.2) := by
 obtain ⟨H', fr', h1, h2, h3, h4⟩ := hx
 have hp : GP H' G fr' c { p with b := x.1.bu } := ⟨h2.bu, fun m hm => (h.ow m hm).ext h1, fun m hm => h4 m (h.wy m hm), by
  rcases h.sf with e | ⟨es, e⟩
  ·exact .inl e
  ·exact .inr ⟨es, e.ext h1 (.refl _)⟩⟩
 exact ⟨H', G, fr', hp.lay h3⟩
theorem GP.st {H : Hist} {G G' : Gh} {fr : Int -> Bool} {c : CConf} {p : PlayB} {R' : List Rep} (h : GP H G fr c p) (hs : StI H fr p.reps R' G G') (hor : ∀ r ∈ R', OR H r) (hu : ∀ x ∈ R', ∀ r ∈ R', x.self = r.self -> x = r) : GP H G' fr c { p with reps := R' } :=
 ⟨⟨h.a.o.up hs.up, hs.gi h.a.g h.a.b, hs.bu h.a.g h.a.b h.a.o, h.a.h0, hor, hu⟩, fun m hm => (h.ow m hm).up hs.up, fun m hm => hs.wy (h.wy m hm) (h.ow m hm), by
  rcases h.sf with e | ⟨es, e⟩
  ·exact .inl e
  ·exact .inr ⟨es, e.ext (fun _ h => h) hs.le⟩⟩
theorem XI.wy {N : Nat} {c : CConf} {p : PlayB} {H : Hist} {G : Gh} {fr : Int -> Bool} {r : Rep} {x : Msg} (h : XI H G r x) (hp : PIs N c p) (hr : r ∈ p.reps) (hi : RI G r) (hH : x.kind = 10 \/ x.kind = 11 -> (x.epoch, x.chain) ∈ H) : WyI p.reps H G fr x := by
 refine ⟨⟨fun k => absurd k h.n10, h.k11, h.k12, h.k13, h.k14, hH, h.kh⟩, fun k => ?_, fun k => absurd k h.n7, fun k => absurd k h.n7⟩
 obtain ⟨a1, a2, a3, a4, a5, a6⟩ := h.k9 k
 refine ⟨fun y hy hs hf hv => ?_, fun hx => ?_⟩
 ·have : y = r := node_inj hp hy hr (by rw [hs, a1])
  subst this
  exact ⟨a4, a5, a6⟩
 ·have hph : r.view.phase ≠ 0 := by
   intro e
   rw [hx, e] at a5
   cases a5
  rw [a1, a2, a4]
  show (G.F r.self r.view.epoch).isSome = true
  rw [(hi.i hph).r1]; rfl
theorem give_i {N : Nat} {c : CConf} {p : PlayB} {m : Msg} {H : Hist} {G : Gh} {fr : Int -> Bool} (h : PIs N c p) (hg : GP H G fr c p) (hm : WyM N m) (hw : OW H p.reps m) (hi : WyI p.reps H G fr m) (hN : N <= 980) : GpX c (giveB c p m) := by
 have hgi := (give_is21 h hm (by omega)).is
 have hrl := h.rl
 unfold giveB at hgi ⊢
 cases h0 : decide (m.dst = 0) with
 | true =>
  rw [cond_true]
  have h1 : GP H G fr c { p with fe := maxI p.fe m.epoch } := { hg with }
  refine ⟨H, G, fr, h1.lay fun x hx => ?_⟩
  have : x = fncMg (maxI p.fe m.epoch) := by simpa using hx
  subst this
  exact ⟨.no (by show (20 : Int) ≠ 9; decide) (by show (20 : Int) ≠ 7; decide) (by show (20 : Int) ≠ 10; decide) (by show (20 : Int) ≠ 11; decide), .no (.inr (.inl rfl))⟩
 | false =>
  rw [h0, cond_false] at hgi
  rw [cond_false]
  cases h1 : decide (m.dst = 1) with
  | true =>
   rw [cond_true]
   have hd := of_decide_eq_true h1
   refine hg.bur ?_
   cases hm with
   | fence ep => cases hd
   | fenced ep => exact h20_i hg.a h.b (by omega)
   | beat r b1 b2 =>
    refine .same (h7_i hg.a (hw.2.1 rfl) rfl hi fun v hv => ?_) fun m hm => by cases hm
    have hv : (match (beatMg r).views with | [] => VF.nil | v :: _ => .one v) = .one v := hv
    cases hvs : (beatMg r).views with
    | nil => rw [hvs] at hv; cases hv
    | cons a l =>
     rw [hvs] at hv
     injection hv with hv
     rw [<- hv]; exact List.mem_cons_self ..
   | froze _ b1 hk hd2 =>
    have e : hdS (p.b.es c) m = h9P (p.b.es c) m := by
     unfold hdS
     rw [decide_eq_false (by omega), decide_eq_true hk]; rfl
    rw [e]
    exact h9_i hg.a h.b (by omega) b1 hk hw hi
   | reset n => exact h21_i hg.a h.b rfl (by omega)
   | chain _ b1 hk hd2 => omega
   | was a ha =>
    have hd : a.1 = 1 := hd
    omega
  | false =>
   rw [h1, cond_false] at hgi
   rw [cond_false]
   rcases giveR_cases m p.reps.length 0 p with e | ⟨j, j1, j2, e⟩
   ·rw [e]; exact ⟨H, G, fr, hg⟩
   ·rw [e] at hgi ⊢
    have hj : j < p.reps.length := by omega
    have hr := h.rep j (by omega)
    have hrj := rp_mem hj
    have hmi : MsgIs N N m := by
     cases hm with
     | chain _ h1 hk hd h8 h11 => exact h1
     | fence ep => simp [fenMg] at h0
     | fenced ep => simp [fncMg] at h1
     | beat r h1' h2 => simp [beatMg] at h1
     | froze _ h1' hk hd => exact h1'
     | reset n => simp [resMg] at h1
     | was a ha =>
      have := h.self j (by omega)
      have j2 : (rpB p j).self.node = a.1 := j2
      omega
    have hout := handP_is hr hmi (by omega) (by omega)
    have hor := hg.a.or _ hrj
    have hho := hand_o hor hw.2.2
    have hf := hfun hg.a.o.fn
    obtain ⟨G', hh⟩ := hand_i (hg.a.g.ri _ hrj) hr hmi (by omega) (by omega) hor hf hg.a.g.ok hi.q hg.a.g.tf
    have hbnd : ∀ e C, (e, C) ∈ H -> 0 <= e /\ e <= 1000 := fun e C hC => by
     refine ⟨hg.a.h0 _ hC, ?_⟩
     match hH : H with
     | [] => cases hC
     | (e0, C0) :: rest =>
      obtain ⟨_, q2, _⟩ := hg.a.o.hd e0 C0 rest rfl
      have q3 := hg.a.o.top e0 C0 rest rfl _ hC
      have q3 : e <= e0 := q3
      have q4 := h.b.ep
      omega
    have hst := StI.one h (by omega) hj hg.a.g hbnd hf (o := handP (rpB p j) m) (fun x => hand_stuck x) hout.self hho.fr hh hand_mv
    have hp3 : PIs (N + 3) c (putB p j (handP (rpB p j) m).1) := { hgi with way := fun y hy => hgi.way y (List.mem_append_left _ hy) }
    have hj' : j < (putB p j (handP (rpB p j) m).1).reps.length := by
     show j < (p.reps.set j _).length
     rw [List.length_set]; exact hj
    have hmm := rp_mem hj'
    have hpp := rp_put (p := p) (i := j) (j := j) (r := (handP (rpB p j) m).1) hj
    rw [if_pos rfl] at hpp
    rw [hpp] at hmm
    have h3 : GP H G' fr c (putB p j (handP (rpB p j) m).1) := hg.st hst (fun r hr => by
     rcases List.mem_or_eq_of_mem_set hr with x | x
     ·exact hg.a.or r x
     ·subst x; exact hho.or) (fun x hx r hr hs => node_inj hp3 hx hr (by rw [hs]))
    refine ⟨H, G', fr, h3.lay fun x hx => ?_⟩
    have hxo := hho.ms x hx
    exact ⟨hxo.ow hp3 hmm, (hh.ms x hx).wy hp3 hmm hh.ri (fun k => by
     rcases k with k | k
     ·exact absurd k hxo.n10
     ·exact hxo.k11 k)⟩
theorem put_mem {N : Nat} {c : CConf} {p : PlayB} {j : Nat} {x : Rep} (hp : PIs N c p) (hj : j < p.reps.length) : ∀ r ∈ (putB p j x).reps, (r ∈ p.reps /\ r.self ≠ (rpB p j).self) \/ r = x := by
 intro r hr
 obtain ⟨i, hi, e⟩ := List.getElem_of_mem hr
 have hi' : i < p.reps.length := by
  have : i < (p.reps.set j x).length := hi
  rwa [List.length_set] at this
 have e : (p.reps.set j x)[i]'(by rw [List.length_set]; exact hi') = r := e
 rw [List.getElem_set] at e
 by_cases c1 : j = i
 ·rw [if_pos c1] at e; exact .inr e.symm
 ·rw [if_neg c1] at e
  refine .inl ⟨by rw [<- e]; exact List.getElem_mem _, fun hs => c1 ?_⟩
  have s1 := hp.self i (by rw [<- hp.rl]; exact hi')
  have s2 := hp.self j (by rw [<- hp.rl]; exact hj)
  have e3 : rpB p i = r := by unfold rpB; simpa [List.getD, hi'] using e
  rw [e3, hs] at s1
  omega
theorem GP.bnd {N : Nat} {H : Hist} {G : Gh} {fr : Int -> Bool} {c : CConf} {p : PlayB} (h : PIs N c p) (hg : GP H G fr c p) (hN : N <= 1000) : ∀ e C, (e, C) ∈ H -> 0 <= e /\ e <= 1000 := by
 intro e C hC
 refine ⟨hg.a.h0 _ hC, ?_⟩
 match hH : H with
 | [] => cases hC
 | (e0, C0) :: rest =>
  obtain ⟨_, q2, _⟩ := hg.a.o.hd e0 C0 rest rfl
  have q3 := hg.a.o.top e0 C0 rest rfl _ hC
  have q3 : e <= e0 := q3
  have q4 := h.b.ep
  omega
theorem crash_i {N : Nat} {c : CConf} {p : PlayB} {H : Hist} {G : Gh} {fr : Int -> Bool} {j : Nat} (h : PIs N c p) (hg : GP H G fr c p) (hj : j < p.reps.length)
  (hp2 : PIs (N + 3) c (putB p j (rep0 ⟨(rpB p j).self.node, (rpB p j).self.boot + 1⟩))) : GP H G fr c (putB p j (rep0 ⟨(rpB p j).self.node, (rpB p j).self.boot + 1⟩)) := by
 have hrj := rp_mem hj
 have hrij := hg.a.g.ri _ hrj
 refine hg.st (R' := (putB p j (rep0 ⟨(rpB p j).self.node, (rpB p j).self.boot + 1⟩)).reps) ⟨up_put hj (.inr ⟨rfl, by show (rpB p j).self.boot < (rpB p j).self.boot + 1; omega⟩), .refl _, hg.a.g.ok, fun _ _ _ => rfl, fun e he => absurd rfl he, fun r' hr' f h1 h2 _ => ?_, fun r hr => ?_, fun r' hr' r hr hs => ?_⟩ (fun r hr => ?_) (fun x hx r hr hs => node_inj hp2 hx hr (by rw [hs]))
 ·rcases put_mem h hj r' hr' with ⟨m1, _⟩ | m1
  ·exact ⟨r', m1, rfl, h1, rfl, rfl⟩
  ·subst m1
   have h1 : (0 : Int) = f := h1
   have h2 : (0 : Int) < f := h2
   omega
 ·rcases put_mem h hj r hr with ⟨m1, _⟩ | m1
  ·exact hg.a.g.ri r m1
  ·subst m1
   refine ⟨fun e he => ?_, fun b e hb => ?_, fun hp => absurd rfl hp⟩
   ·have := hrij.fb ((rpB p j).self.boot + 1) e (by omega)
    have he : (G.F ⟨(rpB p j).self.node, (rpB p j).self.boot + 1⟩ e).isSome = true := he
    rw [this] at he; cases he
   ·have hb : (rpB p j).self.boot + 1 < b := hb
    exact hrij.fb b e (by omega)
 ·rcases put_mem h hj r' hr' with ⟨m1, m2⟩ | m1
  ·have := node_inj h hr m1 (by rw [hs])
   subst this
   exact ⟨Int.le_refl _, id⟩
  ·subst m1
   have : r = rpB p j := node_inj h hr hrj (by rw [hs]; rfl)
   subst this
   have := congrArg Member.boot hs
   have this : (rpB p j).self.boot = (rpB p j).self.boot + 1 := this
   omega
 ·rcases List.mem_or_eq_of_mem_set hr with x | x
  ·exact hg.a.or r x
  ·subst x; exact fun hp => absurd rfl hp
theorem push_cases (r : Rep) : pushB r = r \/ (headP r = true /\ pushB r = (pushP r (entP (nextV r))).1) := by
 unfold pushB headPush
 dsimp only
 cases headP r with
 | false => exact .inl rfl
 | true => exact .inr ⟨rfl, rfl⟩
theorem pushP_k (r : Rep) (e : Entry) : (pushP r e).1.self = r.self /\ (pushP r e).1.frozen = r.frozen /\ (pushP r e).1.view = r.view /\ (pushP r e).1.got = r.got := by
 unfold pushP
 cases vlt r.tail.last e.ver <;> exact ⟨rfl, rfl, rfl, rfl⟩
theorem pushB_k (r : Rep) : (pushB r).self = r.self /\ (pushB r).frozen = r.frozen /\ (pushB r).view = r.view := by
 rcases push_cases r with e | ⟨_, e⟩
 ·rw [e]; exact ⟨rfl, rfl, rfl⟩
 ·rw [e]
  obtain ⟨a, b, c, _⟩ := pushP_k r (entP (nextV r))
  exact ⟨a, b, c⟩
theorem push_hr {E : Int} {N : Nat} {H : Hist} {G : Gh} {fr : Int -> Bool} {r : Rep} (h : RI G r) (hr : RepIs E N r) (hE : E <= 1000) (hg : GOk G) : ∃ G', HR H G fr r (pushB r, []) G' := by
 rcases push_cases r with e | ⟨hh, e⟩
 ·rw [e]; exact ⟨G, .same h hg⟩
 ·rw [e]
  unfold headP at hh
  obtain ⟨s1, s2⟩ := works_ph (and_true' hh).1
  have hp : r.view.phase ≠ 0 := by omega
  have hlv := (live_ph s1).2
  obtain ⟨k1, k2, k3, k4⟩ := pushP_k r (entP (nextV r))
  have e0 := hr.ep0
  have e1 := hr.ep
  have hn : (ep (entP (nextV r)).ver : Int) <= r.view.epoch := by
   show (ep (vr r.view.epoch.toNat (nu r.tail.last + 1)) : Int) <= _
   rw [ep_vr (by omega)]; omega
  obtain ⟨q1, q2, q3⟩ := RI.tail (H := H) (r' := (pushP r (entP (nextV r))).1) h s2 hg k1 k3 k4 (vlast_push r _) (tep_push (h.tep hp) hn) rfl
  refine ⟨_, q1, q2, fun x e hx => ?_, fun e hx => absurd rfl hx, q3, fun m hm => by cases hm⟩
  by_cases c : x = r.self /\ e = r.view.epoch
  ·refine ⟨c.1, by rw [c.2]; exact hlv, ?_, ?_⟩
   ·show e = (pushP r (entP (nextV r))).1.view.epoch; rw [k3]; exact c.2
   ·show (pushP r (entP (nextV r))).1.view.phase ≠ 0; rw [k3]; exact hp
  ·rw [setF_no c] at hx; exact absurd rfl hx
theorem push1_i {N M : Nat} {c : CConf} {q : PlayB} {H : Hist} {G : Gh} {fr : Int -> Bool} {j : Nat} {r : Rep} (h : PIs M c q) (hM : M <= 1000) (hg : GP H G fr c q) (hj : j < 3) (hq : rpB q j = r) (hr : RepIs N N r) (hN : N <= 990) (hNM : N + 3 <= M) :
  ∃ G', GP H G' fr c (putB q j (pushB r)) /\ PIs M c (putB q j (pushB r)) := by
 have hjl : j < q.reps.length := by rw [h.rl]; exact hj
 have hb := pushB_is hr hN
 obtain ⟨b1, b2, b3⟩ := pushB_k r
 have hp2 : PIs M c (putB q j (pushB r)) := h.put hj (hb.1.mono (by omega) hNM) (by rw [b1, <- hq]; exact h.self j hj) (by rw [b1, <- hq]; exact h.boot j hj)
 have hrm : r ∈ q.reps := by rw [<- hq]; exact rp_mem hjl
 obtain ⟨G', hh⟩ := push_hr (H := H) (fr := fr) (hg.a.g.ri r hrm) hr (by omega) hg.a.g.ok
 subst hq
 have hst := StI.one h hM hjl hg.a.g (hg.bnd h hM) (hfun hg.a.o.fn) (o := (pushB (rpB q j), [])) (fun hlt => ?_) b1 (by rw [b2]; exact Int.le_refl _) hh ⟨by show _ <= (pushB (rpB q j)).view.epoch; rw [b3]; exact Int.le_refl _, fun x => by show (pushB (rpB q j)).view.phase ≠ 0; rw [b3]; exact x⟩
 ·refine ⟨G', hg.st hst (fun r hr => ?_) (fun x hx r hr hs => node_inj hp2 hx hr (by rw [hs])), hp2⟩
  rcases List.mem_or_eq_of_mem_set hr with x | x
  ·exact hg.a.or r x
  ·subst x
   intro hp
   rw [b3] at hp ⊢
   exact hg.a.or _ hrm hp
 ·rcases push_cases (rpB q j) with e | ⟨hh, e⟩
  ·right; exact ⟨(rpB q j).frozen, Int.le_refl _, by show pushB (rpB q j) = _; rw [e]⟩
  ·unfold headP at hh
   have := (live_ph (works_ph (and_true' hh).1).1).2
   omega
theorem push_i {N : Nat} {c : CConf} {p : PlayB} {H : Hist} {G : Gh} {fr : Int -> Bool} (h : PIs N c p) (hg : GP H G fr c p) (hN : N <= 990) : GpX c { p with reps := p.reps.map pushB } := by
 have h0 : PIs (N + 3) c p := h.mono (by omega)
 have hl : ∀ q : PlayB, PIs (N + 3) c q -> ∀ j, j < 3 -> j < q.reps.length := fun q hq j hj => by rw [hq.rl]; exact hj
 obtain ⟨G1, g1, h1⟩ := push1_i (j := 0) h0 (by omega) hg (by omega) rfl (h.rep 0 (by omega)) hN (by omega)
 have e1 : ∀ j, j < 3 -> j ≠ 0 -> rpB (putB p 0 (pushB (rpB p 0))) j = rpB p j := fun j hj hne => by rw [rp_put (hl p h0 0 (by omega)), if_neg hne]
 obtain ⟨G2, g2, h2⟩ := push1_i (j := 1) h1 (by omega) g1 (by omega) (e1 1 (by omega) (by omega)) (h.rep 1 (by omega)) hN (by omega)
 have e2 : rpB (putB (putB p 0 (pushB (rpB p 0))) 1 (pushB (rpB p 1))) 2 = rpB p 2 := by rw [rp_put (hl _ h1 1 (by omega)), if_neg (by omega)]; exact e1 2 (by omega) (by omega)
 obtain ⟨G3, g3, h3⟩ := push1_i (j := 2) h2 (by omega) g2 (by omega) e2 (h.rep 2 (by omega)) hN (by omega)
 have e : ({ p with reps := p.reps.map pushB } : PlayB) = putB (putB (putB p 0 (pushB (rpB p 0))) 1 (pushB (rpB p 1))) 2 (pushB (rpB p 2)) := by
  have hr := h.rl
  obtain ⟨b, fe, reps, way, safe, reset⟩ := p
  match reps, hr with
  | [x, y, z], _ => rfl
 rw [e]
 exact ⟨H, G3, fr, g3⟩
theorem beat_i {G : Gh} {H : Hist} {R : List Rep} {fr : Int -> Bool} {r : Rep} (h : RI G r) (ho : OR H r) (hf : HFun H) : WyI R H G fr (beatMg r) := by
 have hv : ∀ v ∈ (beatMg r).views, v = (⟨0, r.view.epoch, 0, r.view.phase, []⟩ : Md.View) := fun v hv => by
  rw [beat_v] at hv
  cases hl : liveB r with
  | false => rw [hl] at hv; cases hv
  | true => rw [hl] at hv; simpa using hv
 refine ⟨⟨(fun k => by cases k), (fun k => by cases k), (fun k => by cases k), (fun k => by cases k), (fun k => by cases k), (fun k => by rcases k with k | k <;> cases k), (fun k => by cases k)⟩, (fun k => by cases k), fun _ v hx hp C hC hfi y hy => ?_, fun _ v hx hp => ?_⟩
 ·have := hv v hx
  subst this
  have hp : r.view.phase = 3 := hp
  have hC : (r.view.epoch, C) ∈ H := hC
  have hph : r.view.phase ≠ 0 := by omega
  have := hf _ _ _ hC (ho hph)
  subst this
  have hfi : isFirst r.view.chain r.self = true := hfi
  obtain ⟨k, k1, k2⟩ := idx_at hy
  have hk : k < r.view.chain.length := (List.getElem?_eq_some_iff.1 k2).1
  have h6 := (h.i hph).r6 hfi k hk (.inl hp)
  have hx2 : r.view.chain.getD k default = y := by simp [List.getD, k2]
  rw [hx2] at h6
  exact h6
 ·have := hv v hx
  subst this
  have hp : r.view.phase = 3 := hp
  exact ⟨_, ho (by omega)⟩
theorem do_i {N : Nat} {c : CConf} {p : PlayB} {k i : Nat} {H : Hist} {G : Gh} {fr : Int -> Bool} (h : PIs N c p) (hg : GP H G fr c p) (hN : N <= 970) : GpX c (doB c k i p) := by
 have hrl := h.rl
 have hat : i % p.reps.length < 3 := by rw [hrl]; exact Nat.mod_lt _ (by omega)
 have hatl : i % p.reps.length < p.reps.length := by omega
 have hdo := (do_is21 (k := k) (i := i) h (by omega)).1
 unfold doB at hdo ⊢
 cases h5 : decide (k <= 5) with
 | true =>
  rw [cond_true]
  by_cases hw : p.way.length = 0
  ·rw [decide_eq_true hw]; exact ⟨H, G, fr, hg⟩
  ·have hlt : i % p.way.length < p.way.length := Nat.mod_lt _ (by omega)
   have hm := mem_getDw hlt
   rw [decide_eq_false hw, cond_false]
   cases decide (k = 5) with
   | true =>
    refine ⟨H, G, fr, hg.lay fun x hx => ?_⟩
    have : x = p.way.getD (i % p.way.length) default := by simpa using hx
    rw [this]; exact ⟨hg.ow _ hm, hg.wy _ hm⟩
   | false =>
    rw [cond_false]
    have he : ∀ x ∈ p.way.eraseIdx (i % p.way.length), x ∈ p.way := fun x hx => List.mem_of_mem_eraseIdx hx
    cases decide (k = 4) with
    | true => exact ⟨H, G, fr, hg.wayB he⟩
    | false => exact give_i (h.wayB he) (hg.wayB he) (h.way _ hm) (hg.ow _ hm) (hg.wy _ hm) (by omega)
 | false =>
  rw [h5, cond_false] at hdo
  rw [cond_false]
  cases h6 : decide (k = 6) with
  | true => exact hg.bur (tick_i hg.a h.b (by omega))
  | false =>
   rw [h6, cond_false] at hdo
   rw [cond_false]
   cases h10 : decide (k = 10) with
   | true =>
    have ho := hg.a.o
    have hb := hg.a.b
    have h1 : OB H p.reps ((openB ⟨p.b.e, p.b.g, p.b.p⟩).es c) := { ho with ke := (fun m hm => by cases hm), k3 := fun _ => rfl, fz := (fun f hf => by cases hf), nd := (fun a ha => by cases ha) }
    have h2 : BuI p.reps H G fr ((openB ⟨p.b.e, p.b.g, p.b.p⟩).es c) := { hb with fz := (fun f hf => by cases hf) }
    exact ⟨H, G, fr, { hg with a := ⟨h1, hg.a.g, h2, hg.a.h0, hg.a.or, hg.a.u⟩ }⟩
   | false =>
    rw [h10, cond_false] at hdo
    rw [cond_false]
    cases h11 : decide (k = 11) with
    | true =>
     have h1 : GP H G fr c { p with reset := IntKind.i64.wrap (p.reset + 1) } := { hg with }
     refine ⟨H, G, fr, h1.lay fun x hx => ?_⟩
     have : x = resMg (IntKind.i64.wrap (p.reset + 1)) := by simpa using hx
     subst this
     exact ⟨.no (by show (21 : Int) ≠ 9; decide) (by show (21 : Int) ≠ 7; decide) (by show (21 : Int) ≠ 10; decide) (by show (21 : Int) ≠ 11; decide), .no (.inr (.inr (.inl rfl)))⟩
    | false =>
     rw [h11, cond_false] at hdo
     rw [cond_false]
     have hmem := rp_mem hatl
     have hf := hfun hg.a.o.fn
     cases h7 : decide (k = 7) with
     | true =>
      rw [cond_true]
      refine ⟨H, G, fr, (hg.lay fun x hx => ?_).lay fun x hx => ?_⟩
      ·have : x = beatMg (rpB p (i % p.reps.length)) := by simpa using hx
       subst this
       exact ⟨⟨(fun k => by cases k), fun _ => Kn.self h hmem, (fun k => by rcases k with k | k <;> cases k)⟩, beat_i (hg.a.g.ri _ hmem) (hg.a.or _ hmem) hf⟩
      ·have hxo := again_o (hg.a.or _ hmem) x hx
       have hx1 : OW H p.reps x := hxo.ow h hmem
       have hri := hg.a.g.ri _ hmem
       have hx2 : WyI p.reps H G fr x := (again_i hri (h.rep _ hat).chain.2.1 (hg.a.or _ hmem) hf x hx).wy h hmem hri fun k => by
        rcases k with k | k
        ·exact absurd k hxo.n10
        ·exact hxo.k11 k
       exact ⟨hx1, hx2⟩
     | false =>
      rw [h7, cond_false] at hdo
      rw [cond_false]
      cases h8 : decide (k = 8) with
      | true =>
       rw [h8, cond_true] at hdo
       rw [cond_true]
       have hb := h.boot _ hat
       have hb1 := (h.rep _ hat).self.2.2.1
       have hw : IntKind.i64.wrap ((rpB p (i % p.reps.length)).self.boot + 1) = (rpB p (i % p.reps.length)).self.boot + 1 := wrap64 (by omega)
       rw [hw] at hdo ⊢
       exact ⟨H, G, fr, crash_i h hg hatl hdo⟩
      | false => exact push_i h hg (by omega)
structure BQ (s : ES) : Prop where
 e : s.p.phase ≠ 0 -> 1 <= s.p.epoch
 b : 1 <= s.p.base \/ (s.p.valid = [] /\ s.keep = [] /\ s.p.phase ≠ 3)
theorem begin_q {s : ES} {f : Bool} (h : BQ s) (h0 : 0 <= s.p.epoch) (h1 : s.p.epoch <= 1000) : BQ (beginS s f) := by
 unfold beginS
 rw [decide_eq_false (by omega), cond_false]
 have hw : IntKind.i64.wrap (s.p.epoch + 1) = s.p.epoch + 1 := wrap64 (by omega)
 refine ⟨fun _ => ?_, ?_⟩
 ·show 1 <= IntKind.i64.wrap (s.p.epoch + 1)
  rw [hw]; omega
 ·rcases h.b with b | ⟨b1, b2, b3⟩
  ·exact .inl b
  ·right
   refine ⟨b1, ?_, by show (1 : Int) ≠ 3; decide⟩
   show (bif f then [] else bothP s.p.valid (upP s.ns s.c.susp)) = []
   rw [b1]
   cases f <;> rfl
theorem endP_ep (s : ES) : (endP s).2.epoch = s.p.epoch := by
 unfold endP
 cases (bestP (wkE s) s.p.base).isSome && !s.p.fresh with
 | true => rfl
 | false =>
  rw [cond_false]
  cases s.p.fresh && decide (0 < s.p.chain.length) <;> rfl
theorem endS_q {s : ES} (h : BQ s) (hm : mayE s = true) : BQ (endS s) := by
 have hph := may_phase hm
 have he := h.e (by omega)
 refine ⟨fun _ => by show 1 <= (endP s).2.epoch; rw [endP_ep]; exact he, .inl ?_⟩
 show 1 <= (endP s).2.base
 rcases end_cases s with ⟨h1, h2, _⟩ | ⟨h1, _⟩
 ·rw [h2]
  rcases h.b with b | ⟨_, b, _⟩
  ·exact b
  ·have := (best_is h1).1
   have this : fstB (bestP (wkE s) s.p.base) ∈ s.keep := this
   rw [b] at this
   cases this
 ·rw [h1]; exact he
theorem endQ_q {s : ES} (h : BQ s) : BQ (endQ s).1 := by
 unfold endQ
 cases hm : mayE s with
 | false => exact h
 | true => exact endS_q h hm
theorem h20_q {s : ES} {m : Msg} (h : BQ s) : BQ (h20P s m).1 := by
 unfold h20P
 cases decide (s.p.phase = 1) && decide (s.p.epoch = m.epoch) with
 | false => exact h
 | true => exact endQ_q (s := { s with fe := true }) ⟨h.e, h.b⟩
theorem h9_q {s : ES} {m : Msg} (h : BQ s) : BQ (h9P s m).1 := by
 unfold h9P
 cases decide (s.p.phase = 1) && decide (s.p.epoch = m.epoch) with
 | false => exact h
 | true =>
  refine endQ_q ?_
  unfold frzS
  cases (frozenP (wkE s) ⟨m.src, m.sboot⟩).2 with
  | true => exact h
  | false => exact ⟨h.e, h.b⟩
theorem h21_q {s : ES} {m : Msg} (h : BQ s) (h0 : 0 <= s.p.epoch) (h1 : s.p.epoch <= 1000) : BQ (h21P s m).1 := by
 have hA : BQ (askS s m) /\ (askS s m).p = s.p := by
  unfold askS
  cases s.l.any (isAsk m) with
  | true => exact ⟨h, rfl⟩
  | false => exact ⟨⟨h.e, h.b⟩, rfl⟩
 unfold h21P
 cases isNo s m with
 | true => exact h
 | false =>
  rw [cond_false]
  cases decide (s.p.reset < m.num) with
  | false => exact hA.1
  | true =>
   refine endQ_q ?_
   have h2 : BQ { askS s m with p := rsP1 (askS s m).p m } := ⟨hA.1.e, hA.1.b⟩
   unfold afS
   cases decide ((askS s m).p.phase = 1) && (askS s m).p.fresh with
   | true => exact h2
   | false => exact begin_q h2 (by show 0 <= (askS s m).p.epoch; rw [hA.2]; exact h0) (by show (askS s m).p.epoch <= 1000; rw [hA.2]; exact h1)
theorem h7_q {s : ES} {m : Msg} {x : VF} (h : BQ s) : BQ (h7P s m x) := by
 unfold h7P
 cases stale s.ns m with
 | true => exact h
 | false =>
  rw [cond_false]
  cases x with
  | nil => exact ⟨h.e, h.b⟩
  | emp => exact ⟨h.e, h.b⟩
  | one v =>
   have e : vwP (.one v) s m = bif serves s m v then (bif decide (v.phase = 3) then { s.p with valid := s.p.chain } else s.p, true) else (s.p, s.he) := rfl
   rw [e]
   cases hs : serves s m v with
   | false => exact ⟨h.e, h.b⟩
   | true =>
    cases hv3 : decide (v.phase = 3) with
    | false => exact ⟨h.e, h.b⟩
    | true =>
     unfold serves at hs
     have s1 := of_decide_eq_true (and_true' hs).1
     refine ⟨h.e, .inl ?_⟩
     rcases h.b with b | ⟨_, _, b⟩
     ·exact b
     ·exact absurd s1 b
theorem tick_q {s : ES} (h : BQ s) (h0 : 0 <= s.p.epoch) (h1 : s.p.epoch <= 1000) : BQ (tickQ s).1 := by
 have hb : BQ (blkS s) := ⟨h.e, h.b⟩
 have hl : BQ (lookP (blkS s)) := by
  rcases look_begin (blkS s) with e | ⟨f, e⟩
  ·rw [e]; exact hb
  ·rw [e]; exact begin_q hb h0 h1
 unfold tickQ againQ
 cases hm : mayE (lookP (blkS s)) with
 | true => exact endS_q hl hm
 | false => exact hl
theorem BQ.bu {s : ES} {c : CConf} (h : BQ s) : BQ (s.bu.es c) := ⟨h.e, h.b⟩
theorem do_q {N : Nat} {c : CConf} {p : PlayB} {k i : Nat} (h : PIs N c p) (hq : BQ (p.b.es c)) (hN : N <= 970) : BQ ((doB c k i p).b.es c) := by
 have h0 := h.b.ep0
 have h1 : (p.b.es c).p.epoch <= 1000 := by have := h.b.ep; omega
 have hg : ∀ (q : PlayB) (m : Msg), q.b = p.b -> BQ ((giveB c q m).b.es c) := by
  intro q m hqb
  unfold giveB
  cases decide (m.dst = 0) with
  | true => show BQ (q.b.es c); rw [hqb]; exact hq
  | false =>
   rw [cond_false]
   cases decide (m.dst = 1) with
   | true =>
    rw [cond_true]
    show BQ ((hdS (q.b.es c) m).1.bu.es c)
    rw [hqb]
    refine BQ.bu ?_
    unfold hdS
    cases decide (m.kind = 20) with
    | true => exact h20_q hq
    | false =>
     cases decide (m.kind = 9) with
     | true => exact h9_q hq
     | false =>
      cases decide (m.kind = 21) with
      | true => exact h21_q hq h0 h1
      | false => exact h7_q hq
   | false =>
    rw [cond_false]
    rcases giveR_cases m q.reps.length 0 q with e | ⟨j, _, _, e⟩
    ·rw [e, hqb]; exact hq
    ·rw [e]; show BQ (q.b.es c); rw [hqb]; exact hq
 unfold doB
 cases decide (k <= 5) with
 | true =>
  rw [cond_true]
  cases decide (p.way.length = 0) with
  | true => exact hq
  | false =>
   rw [cond_false]
   cases decide (k = 5) with
   | true => exact hq
   | false =>
    rw [cond_false]
    cases decide (k = 4) with
    | true => exact hq
    | false => rw [cond_false]; exact hg _ _ rfl
 | false =>
  rw [cond_false]
  cases decide (k = 6) with
  | true => exact (tick_q hq h0 h1).bu
  | false =>
   rw [cond_false]
   cases decide (k = 10) with
   | true =>
    rw [cond_true]
    refine ⟨hq.e, ?_⟩
    rcases hq.b with b | ⟨b1, _, b3⟩
    ·exact .inl b
    ·exact .inr ⟨b1, rfl, b3⟩
   | false =>
    rw [cond_false]
    cases decide (k = 11) <;> cases decide (k = 7) <;> cases decide (k = 8) <;> exact hq
theorem note_sf {H : Hist} {G : Gh} : ∀ (l : List Rep) (v : Ver), (v = ⟨0, 0⟩ \/ ∃ es, KI H G v es) -> (∀ r ∈ l, commitP r = ⟨0, 0⟩ \/ ∃ es, KI H G (commitP r) es) -> noteR v l = ⟨0, 0⟩ \/ ∃ es, KI H G (noteR v l) es
 | [], _, h, _ => h
 | r :: l, v, h, hl => note_sf l (vmax v (commitP r)) (by
   rcases vmax_or v (commitP r) with e | e
   ·rw [e]; exact h
   ·rw [e]; exact hl r (List.mem_cons_self ..)) fun x hx => hl x (List.mem_cons_of_mem _ hx)
theorem GP.note {N : Nat} {H : Hist} {G : Gh} {fr : Int -> Bool} {c : CConf} {p : PlayB} (h : PIs N c p) (hg : GP H G fr c p) : GP H G fr c (noteB p) :=
 ⟨hg.a, hg.ow, hg.wy, note_sf p.reps p.safe hg.sf fun r hr => by
  rcases commit_ki (hg.a.g.ri r hr) (hg.a.or r hr) (h.reps r hr) with e | e
  ·exact .inl e
  ·exact .inr ⟨_, e⟩⟩
theorem safe_ok {H : Hist} {G : Gh} {fr : Int -> Bool} {c : CConf} {p : PlayB} (hg : GP H G fr c p) (hq : BQ (p.b.es c)) : p.b.p.valid.all (memOk p p.b.p.base) = true := by
 refine List.all_eq_true.2 fun m hm => ?_
 unfold memOk
 cases hf : (repL m p.reps).2 with
 | false => rfl
 | true =>
  obtain ⟨hr, hs⟩ := repL_mem hf
  generalize (repL m p.reps).1 = r at hr hs
  by_cases hlt : (ep p.safe : Int) < p.b.p.base
  ·rw [decide_eq_true hlt]; rfl
  ·have key : r.view.phase ≠ 0 /\ p.b.p.base <= r.view.epoch /\ vle p.safe r.tail.last := by
    rcases hg.sf with e | ⟨es, e⟩
    ·exfalso
     rw [e] at hlt
     have h0 : ep (⟨0, 0⟩ : Ver) = 0 := by decide
     rw [h0] at hlt
     rcases hq.b with b | ⟨b, _, _⟩
     ·have b : 1 <= p.b.p.base := b
      omega
     ·have b : p.b.p.valid = [] := b
      rw [b] at hm; cases hm
    ·have hep := e.ep
     exact safe_le hg.a.g hg.a.b (hfun hg.a.o.fn) hg.a.or (fun e C rest hH x hx => hg.a.o.top e C rest hH x hx) e (by show p.b.p.base <= es; omega) hm hr hs
   obtain ⟨k1, k2, k3⟩ := key
   have k3 : vlt r.tail.last p.safe = false := k3
   unfold hasP
   rw [decide_eq_false hlt, decide_eq_false k1, decide_eq_false (by omega : ¬ r.view.epoch < p.b.p.base), k3]
   rfl
theorem safe_all {c : CConf} : ∀ (l : List Stp) (n : Nat) (p : PlayB), n + 3 * l.length <= 900 -> PIs n c p -> GpX c p -> BQ (p.b.es c) -> SafeOk c l p
 | [], _, _, _, _, _, _ => trivial
 | s :: l, n, p, hn, hp, ⟨H, G, fr, hg⟩, hq => by
  have hn' : n + 3 * (l.length + 1) <= 900 := hn
  obtain ⟨H', G', fr', hg'⟩ := do_i (k := s.1 % 12) (i := s.2) hp hg (by omega)
  have hp' := (do_is21 (k := s.1 % 12) (i := s.2) hp (by omega)).1
  have hq' := do_q (k := s.1 % 12) (i := s.2) hp hq (by omega)
  have hn2 := hg'.note hp'
  exact ⟨safe_ok hn2 hq', safe_all l (n + 3) _ (by omega) hp'.note ⟨H', G', fr', hn2⟩ hq'⟩
def stC (s : Int × Int) : List AV := [.int .u8 s.1, .int .u8 s.2]
def stepsV (n : Nat) (f : Nat -> Int × Int) : AV := .tr 2 n fun i => stC (f i)
def StOk (s : Int × Int) : Prop := (0 <= s.1 /\ s.1 <= 255) /\ 0 <= s.2 /\ s.2 <= 255
def sFs : Option TypeDesc -> Option (List TypeId)
 | some (.struct fs) => some (fs.toList.map (·.type))
 | _ => none
theorem sFs_some {d : Option TypeDesc} {l : List TypeId} (h : sFs d = some l) : ∃ fs, d = some (.struct fs) /\ fs.toList.map (·.type) = l := by
 unfold sFs at h
 split at h
 ·exact ⟨_, rfl, Option.some.inj h⟩
 ·cases h
theorem two_fs {l : List Field} {s t : TypeId} (h : l.map (·.type) = [s, t]) : ∃ x y, l = [x, y] /\ x.type = s /\ y.type = t := by
 cases l with
 | nil => cases h
 | cons x l =>
  cases l with
  | nil => cases h
  | cons y l =>
   cases l with
   | nil => simp only [List.map_cons, List.map_nil, List.cons.injEq, and_true] at h; exact ⟨x, y, rfl, h.1, h.2⟩
   | cons z l => simp at h
theorem steps_shape {avs : List AV} (h : Args PG 9 [5, 22] avs) : ∃ (k : Int) (n : Nat) (f : Nat -> Int × Int), (0 <= k /\ k <= 255) /\ (∀ i, i < n -> StOk (f i)) /\ SubC avs [.int .u8 k, stepsV n f] := by
 obtain ⟨av, r, hs, rfl, av2, r2, hs2, rfl, rfl⟩ := h
 have u5 : PG.underlying 5 = some (.int .u8) := by kernel_rfl
 have u22 : PG.underlying 22 = some (.slice 44) := by kernel_rfl
 obtain ⟨a1, a2⟩ := Shape.num u5 hs
 obtain ⟨c, n, f, rfl, b1, b2, b3⟩ := Shape.list u22 hs2
 have e1 : argOf PG 5 av = .int .u8 (getI av 0) := by unfold argOf; rw [u5, a1]; rfl
 have e2 : argOf PG 22 [c] = c := by unfold argOf; rw [u22]; rfl
 rw [e1, e2]
 have hb : IntKind.u8.min = 0 /\ IntKind.u8.max = 255 := by decide
 rw [hb.1, hb.2] at a2
 have hst : ∀ i, i < n -> f i = stC (getI (f i) 0, getI (f i) 1) /\ StOk (getI (f i) 0, getI (f i) 1) := by
  intro i hi
  have h3 := b3 i hi
  unfold Shape at h3
  have hu : sFs (PG.underlying 44) = some [5, 5] := by kernel_rfl
  obtain ⟨fs, u44, hfs⟩ := sFs_some hu
  rw [u44] at h3
  simp only [] at h3
  obtain ⟨x, y, hl, hx, hy⟩ := two_fs hfs
  rw [hl] at h3
  obtain ⟨a, b, hab, h4, c, d, hcd, h5, h6⟩ := h3
  have h6 : d = [] := h6
  rw [hx] at h4
  rw [hy] at h5
  obtain ⟨c1, c2⟩ := Shape.num u5 h4
  obtain ⟨d1, d2⟩ := Shape.num u5 h5
  rw [hb.1, hb.2] at c2 d2
  rw [h6, List.append_nil] at hcd
  rw [hab, hcd, c1, d1]
  exact ⟨rfl, c2, d2⟩
 refine ⟨getI av 0, n, fun i => (getI (f i) 0, getI (f i) 1), a2, fun i hi => (hst i hi).2, .cons (.refl _) (.cons (b1.trans ?_) .nil)⟩
 have ec : PG.cellsOf 44 = 2 := by kernel_rfl
 rw [ec]
 exact .trs fun i hi => by
  have := (hst i hi).1
  rw [<- this]
  exact .refl _
theorem steps_list (n : Nat) (f : Nat -> Int × Int) (hf : ∀ i, i < n -> StOk (f i)) : ∃ l : List Stp, l.length = n /\ (∀ s ∈ l, s.1 <= 255 /\ s.2 <= 255) /\ SubV (stepsV n f) (encStps l) := by
 refine ⟨(List.range n).map fun i => ((f i).1.toNat, (f i).2.toNat), by simp, fun s hs => ?_, ?_⟩
 ·obtain ⟨i, hi, e⟩ := List.mem_map.1 hs
  have := hf i (List.mem_range.1 hi)
  unfold StOk at this
  subst e
  dsimp only
  omega
 ·unfold stepsV encStps encL
  rw [List.length_map, List.length_range]
  refine SubV.trs fun i hi => ?_
  have h := hf i hi
  unfold StOk at h
  have e : ((List.range n).map fun i => ((f i).1.toNat, (f i).2.toNat)).getD i (0, 0) = ((f i).1.toNat, (f i).2.toNat) := by
   simp [List.getD, hi]
  rw [e]
  unfold stC encStp
  dsimp only
  rw [Int.toNat_of_nonneg h.1.1, Int.toNat_of_nonneg h.2.1]
  exact .refl _
theorem confP_ok {k : Int} (h : 0 <= k /\ k <= 255) : 1 <= (confP (IntKind.i64.wrap k)).chain /\ (confP (IntKind.i64.wrap k)).chain <= 3 := by
 have h0 : IntKind.i64.wrap k = k := wrap64 (by omega)
 rw [h0]
 show 1 <= IntKind.i64.wrap (1 + k.tmod 3) /\ IntKind.i64.wrap (1 + k.tmod 3) <= 3
 have h1 := Int.tmod_nonneg (3 : Int) h.1
 have h2 := Int.tmod_lt_of_pos k (show (0 : Int) < 3 by omega)
 rw [wrap64 (by omega)]
 omega
theorem begin_pis {c : CConf} (h1 : 1 <= c.chain) (h2 : c.chain <= 3) : PIs 1 c beginB21 := by
 have hm : ∀ n : Int, 2 <= n -> n <= 4 -> MemIs ⟨n, 1⟩ := fun n a b => ⟨a, by show n <= 5; omega, by show (1 : Int) <= 1; omega, by show (1 : Int) <= 1000; omega⟩
 have z0 : (0 : Int) <= 0 := by omega
 have z1 : (0 : Int) <= ((1 : Nat) : Int) := by omega
 refine ⟨⟨h1, h2, rfl, z0, z1, z0, z1, z0, z1, .nil, .nil, ⟨Nat.zero_le _, .nil, (fun a ha => by cases ha), (fun a ha => by cases ha)⟩, .nil, Nat.zero_le _, (fun f hf => by cases hf), (fun e => by cases e), Nat.zero_le _, (fun a ha => by cases ha), fun _ => rfl⟩, rfl, fun i hi => ?_, fun i hi => ?_, fun i hi => ?_, (fun m hm => by cases hm)⟩
 ·match i, hi with
  | 0, _ => exact rep0_is (hm 2 (by omega) (by omega)) (by decide)
  | 1, _ => exact rep0_is (hm 3 (by omega) (by omega)) (by decide)
  | 2, _ => exact rep0_is (hm 4 (by omega) (by omega)) (by decide)
 ·match i, hi with
  | 0, _ => rfl
  | 1, _ => rfl
  | 2, _ => rfl
 ·match i, hi with
  | 0, _ => show (1 : Int) <= 1; omega
  | 1, _ => show (1 : Int) <= 1; omega
  | 2, _ => show (1 : Int) <= 1; omega
theorem begin_oi (c : CConf) : OI [] c beginB21 := by
 refine ⟨⟨.nil, (fun h hh => by cases hh), fun _ => rfl, (fun e C rest h => by cases h), (fun h => by cases h), (fun h hh => by cases hh), (fun h hh => by cases hh), (fun m hm => by cases hm), (fun m hm => by cases hm), (fun h => by cases h), (fun f hf => by cases hf), (fun a ha => by cases ha)⟩, (fun m hm => by cases hm), fun r hr => ?_⟩
 intro hp
 have : r = rep0 ⟨2, 1⟩ \/ r = rep0 ⟨3, 1⟩ \/ r = rep0 ⟨4, 1⟩ := by
  have hr : r ∈ [rep0 ⟨2, 1⟩, rep0 ⟨3, 1⟩, rep0 ⟨4, 1⟩] := hr
  simpa using hr
 rcases this with e | e | e <;> (subst e; exact absurd rfl hp)
def gh0 : Gh := ⟨fun _ => none, fun _ _ => none⟩
theorem begin_gp {c : CConf} (h1 : 1 <= c.chain) (h2 : c.chain <= 3) : GP [] gh0 (fun _ => false) c beginB21 := by
 have ho := begin_oi c
 have hp := begin_pis h1 h2
 have hr : ∀ r ∈ beginB21.reps, RI gh0 r := by
  intro r hr
  have : r = rep0 ⟨2, 1⟩ \/ r = rep0 ⟨3, 1⟩ \/ r = rep0 ⟨4, 1⟩ := by
   have hr : r ∈ [rep0 ⟨2, 1⟩, rep0 ⟨3, 1⟩, rep0 ⟨4, 1⟩] := hr
   simpa using hr
  have hph : r.view.phase = 0 := by rcases this with e | e | e <;> (subst e; rfl)
  exact ⟨(fun e he => by cases he), fun _ _ _ => rfl, fun x => absurd hph x⟩
 exact ⟨⟨ho.b, ⟨(fun x e u hu => by cases hu), hr, (fun e t C ht => by cases ht), (fun e t ht => by cases ht), (fun e C a C' t hC => by cases hC)⟩,
  ⟨(fun f hf => by cases hf), (fun e => by cases e), Int.le_refl _, (fun e C rest hH => by cases hH), fun _ => rfl, (fun m hm => by cases hm), (fun m hm => by cases hm), (fun e C t hC => by cases hC), (fun a C hC => by cases hC), (fun a C hC => by cases hC)⟩,
  (fun x hx => by cases hx), ho.r, fun x hx r hr hs => node_inj hp hx hr (by rw [hs])⟩, ho.w, (fun m hm => by cases hm), .inl rfl⟩
theorem begin_q0 (c : CConf) : BQ (beginB21.b.es c) := ⟨fun h => absurd rfl h, .inr ⟨rfl, rfl, by show (0 : Int) ≠ 3; decide⟩⟩
theorem vb0 (N : Nat) : VB N ⟨0, 0⟩ := ⟨0, 0, Nat.zero_le _, Nat.zero_le _, by decide⟩
theorem safe_law {k : Int} {l : List Stp} (hk : 0 <= k /\ k <= 255) (hs : ∀ s ∈ l, s.1 <= 255 /\ s.2 <= 255) : callT (envO kns95) 2001 F_lockgatelaw21_CoordSafe [.int .u8 k, encStps l] = some (.bool true) := by
 have e := sf_in 2000 k l
 have qA : ∀ K : Option AV, gAwk K = K := fun K => gC_eq () rfl trivial (.refl _)
 rw [qA, qA] at e
 rw [e]
 by_cases h : 120 < l.length
 ·rw [decide_eq_true (by omega), cond_true]
 ·rw [decide_eq_false (by omega), cond_false]
  have qC : ∀ K : CConf -> Option AV, gCnf (IntKind.i64.wrap k) K = K (confP (IntKind.i64.wrap k)) := fun K => by
   unfold gCnf
   have q1 : ∀ K : Int -> Option AV, gC (fun a => getI a 0) (fun _ => True) (fun k => [.int .i64 k]) [.int .i64 (IntKind.i64.wrap k)] K = K (IntKind.i64.wrap k) := fun K => gC_eq _ rfl trivial (.refl _)
   rw [q1]
   exact gC_eq (confP (IntKind.i64.wrap k)) rfl trivial (.refl _)
  rw [qC]
  obtain ⟨c1, c2⟩ := confP_ok hk
  have hp := begin_pis c1 c2
  have ho := safe_all l 1 beginB21 (by omega) hp ⟨_, _, _, begin_gp c1 c2⟩ (begin_q0 _)
  have r := sf_run (N := 2000) (n := 1) (l := l) (c := confP (IntKind.i64.wrap k)) hs (by omega) (by omega) l.length 0 2000 beginB21 (by omega) (by omega) (by simpa using hp) (vb0 _) (by omega) (by rw [List.drop_zero]; exact ho)
  rw [Int.natCast_zero] at r
  exact r
theorem coordSafe_ok : LawC PG 9 F_lockgatelaw21_CoordSafe [5, 22] := by
 intro avs h
 obtain ⟨k, n, f, h1, h2, h3⟩ := steps_shape h
 obtain ⟨l, l1, l2, l3⟩ := steps_list n f h2
 exact (con95 (safe_law h1 l2)).args (h3.trans (.cons (.refl _) (.cons l3 .nil)))
end Go.Wk
end
