/- Part 5 of the texts that the proof needs: the abstract machine, plain laws, contracts of the program's functions. No statement is claimed here. -/
import Derived.Test.YtiehekhdjafbaaaGreatPart4
set_option linter.unusedVariables false
set_option linter.unusedSimpArgs false
noncomputable section
open Go Go.AM Go.Md
namespace Go.Wk
set_option maxRecDepth 100000
set_option maxHeartbeats 400000
theorem fin_endN {s : ES} (b : Bool) (g : Int) (p : Plan) (hn : s.nb = true) (ho : s.op = .nil) : ∃ v, fin (outE (wrE s g p) b) = some v /\ SubV v (ansB ({ s with g := g, p := p, fe := false, keep := [], fz := .nil, he := false, l := [] }, outMs p s.l)) := by
 obtain ⟨e, g0, p0, ns, nb, op, keep, fz, fe, he, l, c⟩ := s
 subst hn ho
 have hw : SubV (.trl 4 [wk0]) (.trl 4 [wkA ⟨e, g, p, ns, false, .nil, [], .nil, false, false, [], c⟩]) := one_trl (wk0_sub _ rfl rfl rfl rfl)
 have hN : SubV (nVT .blk ns) (encAlives ns) := .refl _
 cases l with
 | nil =>
  refine ⟨.tup [.agg [.int .i64 e, .int .i64 g, .trl 8 [encPlan p], nVT .blk ns, .trl 4 [wk0], .nils, aqV b], .trl 31 [actC p]], ?_, ?_⟩
  ·have : (bif (gUL ns.length && true) && true then some (AV.tup [.agg [.int .i64 e, .int .i64 g, .trl 8 [encPlan p], nVT .blk ns, .trl 4 [wk0], .nils, aqV b], .trl 31 [actC p]]) else none) = some (AV.tup [.agg [.int .i64 e, .int .i64 g, .trl 8 [encPlan p], nVT .blk ns, .trl 4 [wk0], .nils, aqV b], .trl 31 [actC p]]) := by rw [gUL_eq]; rfl
   refine Eq.trans ?_ this
   cases b <;> rfl
  ·refine .tup (.cons (.agg (.cons (.refl _) (.cons (.refl _) (.cons (.refl _) (.cons hN (.cons hw (.cons (.refl _) (.cons (aqV_ask b) .nil)))))))) (.cons ?_ .nil))
   exact SubV.trans (one_trl (act_sub p)) (SubV.trl_encL (e := encMsg) (z := default) [actMg p])
 | cons a t =>
  refine ⟨.tup [.agg [.int .i64 e, .int .i64 g, .trl 8 [encPlan p], nVT .blk ns, .trl 4 [wk0], .nils, .tr 31 0 fun i => bif (i + 0).blt (0 + (a :: t).length) then zMsgC else encAsk ((a :: t).getD (i + 0) (0, 0))], .tr 31 ((a :: t).length + 1) fun i => canF idC [] (actC p :: (a :: t).map ansC) (i + 0)], ?_, ?_⟩
  ·have : (bif (gUL ns.length && (true && true)) && (gUL ((a :: t).length + 1) && true) then some (AV.tup [.agg [.int .i64 e, .int .i64 g, .trl 8 [encPlan p], nVT .blk ns, .trl 4 [wk0], .nils, .tr 31 0 fun i => bif (i + 0).blt (0 + (a :: t).length) then zMsgC else encAsk ((a :: t).getD (i + 0) (0, 0))], .tr 31 ((a :: t).length + 1) fun i => canF idC [] (actC p :: (a :: t).map ansC) (i + 0)]) else none) = some (AV.tup [.agg [.int .i64 e, .int .i64 g, .trl 8 [encPlan p], nVT .blk ns, .trl 4 [wk0], .nils, .tr 31 0 fun i => bif (i + 0).blt (0 + (a :: t).length) then zMsgC else encAsk ((a :: t).getD (i + 0) (0, 0))], .tr 31 ((a :: t).length + 1) fun i => canF idC [] (actC p :: (a :: t).map ansC) (i + 0)]) := by
    rw [gUL_eq, gUL_eq]; rfl
   exact this
  ·refine .tup (.cons (.agg (.cons (.refl _) (.cons (.refl _) (.cons (.refl _) (.cons hN (.cons hw (.cons (.refl _) (.cons ?_ .nil)))))))) (.cons (outs_sub p (a :: t)) .nil))
   exact SubV.trs fun i hi => absurd hi (Nat.not_lt_zero i)
theorem fin_Ag {d : ND} {s : ES} {b : Bool} (h : TOk d s) : ∃ v, fin (hpAg d s b) = some v /\ SubV v (ansB (againQ s)) := by
 unfold hpAg againQ
 cases hm : mayE s with
 | true =>
  have hd : d = .blk := by
   cases d with
   | blk => rfl
   | emp n => have := h.no (fun e => by cases e); rw [hm] at this; cases this
  subst hd
  exact fin_endN b _ _ h.nb h.op
 | false =>
  rw [cond_false, cond_false]
  have hc := ag_cms s
  match ha : agC s with
  | [] =>
   rw [ha] at hc
   have e := fin_T0 d s b
   rw [gND_eq, gLD_eq] at e
   exact ⟨_, e, tkV_sub h.nd hc⟩
  | [x] =>
   rw [ha] at hc
   have e := fin_T1 d s b x
   rw [gND_eq, gLD_eq] at e
   exact ⟨_, e, tkV_sub h.nd hc⟩
  | x :: y :: r =>
   rw [ha] at hc
   have e := fin_Tn d s b x y r
   rw [gND_eq, gLD_eq, gUL_eq] at e
   exact ⟨_, e, tkV_sub h.nd hc⟩
theorem tkE_ok {t : Bool} {c : AC} {d : ND} {s : ES} {b : Bool} (h : TOk d s) (ht : lkC t s) (h2 : TOk d (lookP s)) (hc : acC c (lookP s)) : tkE t c (hpT9 d true s b) = fin (hpAg d (lookP s) b) := by
 have e1 : (dEn A0 (hpT9 d true s b)).s = s := congrArg EB.s (dT9_eq (t := true) (b := b) h.nb h.nd h.op)
 have e2 : (dEn A0 (hpT9 d false (lookP s) b)).s = lookP s := congrArg EB.s (dT9_eq (t := false) (b := b) h2.nb h2.nd h2.op)
 unfold tkE
 rw [gLk_eq h ht, e1, lkH_eq ht, gAgn_eq h2 hc, e2, agH_eq h2 hc]
theorem begin_or (s : ES) (fr : Bool) : beginS s fr = s \/ ∃ p keep, beginS s fr = wkS s p keep /\ p.chain = s.p.chain /\ p.valid = s.p.valid /\ keep.length <= s.p.valid.length := by
 unfold beginS
 cases decide (1099511627776 <= s.p.epoch) with
 | true => exact .inl rfl
 | false =>
  refine .inr ⟨_, _, rfl, rfl, rfl, ?_⟩
  cases fr with
  | true => exact Nat.zero_le _
  | false => exact List.length_filterMap_le _ _
theorem look_begin (s : ES) : lookP s = s \/ ∃ fr, lookP s = beginS s fr := by
 unfold lookP
 cases decide (s.p.phase = 0) with
 | true =>
  cases decide (0 < (upP s.ns s.c.susp).length) with
  | true => exact .inr ⟨true, rfl⟩
  | false => exact .inl rfl
 | false =>
  rw [cond_false]
  cases decide (s.p.phase = 3) with
  | true =>
   rw [cond_true]
   cases s.p.chain.any (fun m => !inUp (upP s.ns s.c.susp) m) && s.p.valid.any (fun m => inUp (upP s.ns s.c.susp) m) || growsP s.p s.c (upP s.ns s.c.susp) with
   | true => exact .inr ⟨false, rfl⟩
   | false => exact .inl rfl
  | false =>
   rw [cond_false]
   cases decide (s.p.phase = 1) && !s.p.fresh with
   | false => exact .inl rfl
   | true =>
    rw [cond_true]
    cases (decide (s.keep.length = 0) || s.keep.any (fun m => !inUp (upP s.ns s.c.susp) m)) && s.p.valid.any (fun m => inUp (upP s.ns s.c.susp) m) with
    | true => exact .inr ⟨false, rfl⟩
    | false => exact .inl rfl
theorem look_or (s : ES) : lookP s = s \/ ∃ p keep, lookP s = wkS s p keep /\ p.chain = s.p.chain /\ p.valid = s.p.valid /\ keep.length <= s.p.valid.length := by
 rcases look_begin s with h | ⟨fr, h⟩
 ·exact .inl h
 ·rw [h]; exact begin_or s fr
theorem lkC_or (s : ES) : ∃ t, lkC t s := by
 rcases look_or s with h | ⟨p, keep, h, _⟩
 ·exact ⟨false, h⟩
 ·refine ⟨true, ?_⟩
  show lookP s = wkS s (lookP s).p (lookP s).keep
  rw [h]; rfl
theorem TOk.look {s : ES} (h : TOk .blk s) : TOk .blk (lookP s) := by
 rcases look_or s with e | ⟨p, keep, e, h1, h2, h3⟩
 ·rw [e]; exact h
 ·rw [e]
  have := h.val
  exact ⟨⟨by rw [show (wkS s p keep).p.chain = s.p.chain from h1]; exact h.eok.ch, h.eok.ns, by show keep.length <= 3; omega, Nat.zero_le _, (fun f hf => by cases hf), h.eok.c1, h.eok.c2, h.eok.l⟩,
   .inl rfl, fun e => absurd rfl e, h.nb, h.op, by rw [show (wkS s p keep).p.valid = s.p.valid from h2]; exact h.val, (fun f hf => by cases hf), by rw [show (wkS s p keep).p.chain = s.p.chain from h1]; exact h.pc⟩
theorem look_nil {s : ES} (h : s.ns = []) : lookP s = s := by
 have hu : upP s.ns s.c.susp = [] := by rw [h]; rfl
 unfold lookP
 rw [hu]
 have h1 : ∀ l : List Member, l.any (fun m => inUp [] m) = false := fun l => by
  rw [List.any_eq_false]
  intro m _ hm
  unfold inUp at hm
  have : idx [] m = -1 := rfl
  rw [this] at hm
  exact absurd (of_decide_eq_true hm) (by omega)
 have h2 : growsP s.p s.c [] = false := by
  unfold growsP
  cases decide (s.c.chain <= (s.p.chain.length : Int)) with
  | true => rfl
  | false => rw [cond_false, List.any_nil, Bool.and_false]
 rw [h1, h2, Bool.and_false, Bool.and_false]
 cases decide (s.p.phase = 0) <;> cases decide (s.p.phase = 3) <;> cases (decide (s.p.phase = 1) && !s.p.fresh) <;> rfl
theorem may_nil {s : ES} (h : s.ns = []) (hk : s.keep = []) : mayE s = false := by
 have hu : upP s.ns s.c.susp = [] := by rw [h]; rfl
 show (bif !decide (s.p.phase = 1) then false else bif !s.fe then false else
  bif s.p.fresh then bif decide (0 < s.p.chain.length) then bif !s.p.chain.any (fun m => overP (wkE s) s.ns m) then false else decide (0 < (upP s.ns s.c.susp).length) else decide (0 < (upP s.ns s.c.susp).length)
  else bif s.keep.all (fun m => (frozenP (wkE s) m).2) then bif decide (0 < s.keep.length) then bif (bestP (wkE s) s.p.base).isSome then true else decide (0 < (upP s.ns s.c.susp).length) else false else false) = false
 rw [hu, hk]
 have e0 : decide (0 < ([] : List Member).length) = false := rfl
 rw [e0]
 cases decide (s.p.phase = 1) <;> cases s.fe <;> cases s.p.fresh <;> cases decide (0 < s.p.chain.length) <;> cases s.p.chain.any (fun m => overP (wkE s) s.ns m) <;> rfl
def gInc (g : Nat -> Alive) (i k : Nat) : Alive := bif k.blt i then incA (g k) else g k
theorem blt_false' {a b : Nat} (h : ¬ a < b) : a.blt b = false := by
 cases e : a.blt b with
 | false => rfl
 | true => exact absurd (Nat.le_of_ble_eq_true e) h
theorem incF_gInc (g : Nat -> Alive) (i : Nat) : incF (gInc g i) i = fun k => encAlive (gInc g (i + 1) k) := by
 funext k
 unfold incF
 by_cases e : k = i
 ·subst e
  have e1 : gInc g k k = g k := by unfold gInc; rw [blt_false' (Nat.lt_irrefl k)]; rfl
  have e2 : gInc g (k + 1) k = incA (g k) := by unfold gInc; rw [blt_true (Nat.lt_succ_self k)]; rfl
  rw [AM.beq_true rfl, cond_true, e1, e2]; rfl
 ·rw [AM.beq_false e, cond_false]
  unfold gInc
  by_cases h : k < i
  ·rw [blt_true h, blt_true (by omega)]
  ·rw [blt_false' h, blt_false' (by omega)]
def blkS (s : ES) : ES := { incS s with nb := true }
theorem tk_hp (s : ES) (b : Bool) : hpT8 s b s.ns.length (fun k => encAlive (gInc (fun k => s.ns.getD k default) s.ns.length k)) = hpT9 .blk true (blkS s) b := by
 have e : (fun k => encAlive (gInc (fun k => s.ns.getD k default) s.ns.length k)) = fun k => encAlive ((s.ns.map incA).getD k default) := by
  funext k
  congr 1
  unfold gInc
  by_cases h : k < s.ns.length
  ·rw [blt_true h, cond_true]
   simp [List.getD, h]
  ·rw [blt_false' h, cond_false]
   have h' : s.ns.length <= k := by omega
   simp [List.getD, List.getElem?_eq_none h']
 rw [e]
 have e2 : s.ns.length = (s.ns.map incA).length := by simp
 rw [e2]
 rfl
theorem tk_run (N : Nat) (t : Bool) (c : AC) (s : ES) (b : Bool) (hl : s.ns.length <= 1000) : ∀ d i j, i + d = s.ns.length -> d < j -> LTk N t c j (STc s b s.ns.length (fun k => encAlive (gInc (fun k => s.ns.getD k default) i k)) (i : Nat)) = tkE t c (hpT9 .blk true (blkS s) b) := by
 intro d
 induction d with
 | zero =>
  intro i j hi hj
  obtain ⟨j, rfl⟩ : ∃ k, j = k + 1 := ⟨j - 1, by omega⟩
  have : i = s.ns.length := by omega
  subst this
  rw [tk_st, decide_eq_false (by omega), cond_false, tk_hp]
 | succ d ih =>
  intro i j hi hj
  obtain ⟨j, rfl⟩ : ∃ k, j = k + 1 := ⟨j - 1, by omega⟩
  have hil : i < s.ns.length := by omega
  rw [tk_st, decide_eq_true (by omega), cond_true, rg_eq hil, Int.toNat_natCast, Nat.zero_add, blt_true hil, cond_true, rg_eq hil, Bool.and_true, cond_true, wrapS (by omega), incF_gInc]
  exact ih (i + 1) j (by omega) (by omega)
structure KOk (s : ES) : Prop where
 eok : EOk s
 nb : s.nb = false
 op : s.op = .nil
 val : s.p.valid.length <= 3
 cp : ∀ f ∈ s.fz.l, CpOk f
 kn : s.ns = [] -> s.keep = []
theorem KOk.blk {s : ES} (h : KOk s) : TOk .blk (blkS s) :=
 ⟨⟨h.eok.ch, by show (s.ns.map incA).length <= 1000; rw [List.length_map]; exact h.eok.ns, h.eok.keep, h.eok.fz, h.eok.ver, h.eok.c1, h.eok.c2, h.eok.l⟩, .inl rfl, fun e => absurd rfl e, rfl, h.op, h.val, h.cp, h.eok.ch⟩
theorem KOk.emp {s : ES} (h : KOk s) (hns : s.ns = []) (n : Bool) : TOk (.emp n) s := ⟨h.eok, .inr hns, fun _ => may_nil hns (h.kn hns), h.nb, h.op, h.val, h.cp, h.eok.ch⟩
def tickQ (s : ES) : ES × List Msg := againQ (lookP (blkS s))
theorem tick_blk {s : ES} {b : Bool} (h : KOk s) (hne : s.ns ≠ []) : Contract PG F_coord_Tick [.agg (buD .blk s b), .agg (encCf s.c)] [] (ansB (tickQ s)) [] := by
 have h1 := h.blk
 obtain ⟨t, ht⟩ := lkC_or (blkS s)
 obtain ⟨c, hc⟩ := acC_or (lookP (blkS s))
 have e := tk_in 2000 t c s b
 have hl := h.eok.ns
 rw [gBuX_eq ⟨h.eok, Nat.le_trans h.val (by omega), h.cp, .inl ⟨rfl, hne⟩⟩] at e
 have r := tk_run 2000 t c s b hl s.ns.length 0 (2000 + 19) (by omega) (by omega)
 have e0 : (fun k => encAlive (gInc (fun k => s.ns.getD k default) 0 k)) = fun k => encAlive (s.ns.getD k default) := rfl
 rw [e0] at r
 obtain ⟨v, f1, f2⟩ := fin_Ag (b := b) h1.look
 have e := e.trans (r.trans ((tkE_ok h1 ht h1.look hc).trans f1))
 exact (conT9 (kn47_ok _ _) e).res f2
theorem tick_emp {s : ES} {b n : Bool} (h : KOk s) (hns : s.ns = []) : Contract PG F_coord_Tick [.agg (buD (.emp n) s b), .agg (encCf s.c)] [] (ansB (tickQ s)) [] := by
 have h1 := h.emp hns n
 have hl := look_nil hns
 have h2 : TOk (.emp n) (lookP s) := by rw [hl]; exact h1
 obtain ⟨t, ht⟩ := lkC_or s
 obtain ⟨c, hc⟩ := acC_or (lookP s)
 have e := tk_e t c n s b
 rw [gBuX_eq ⟨h.eok, Nat.le_trans h.val (by omega), h.cp, .inr ⟨(fun e => by cases e), hns⟩⟩] at e
 obtain ⟨v, f1, f2⟩ := fin_Ag (b := b) h2
 have e := e.trans ((tkE_ok h1 ht h2 hc).trans f1)
 have eq : ansB (againQ (lookP s)) = ansB (tickQ s) := by
  have hm : mayE s = false := may_nil hns (h.kn hns)
  have hb : (blkS s).ns = [] := by show s.ns.map incA = []; rw [hns]; rfl
  have hm2 : mayE (blkS s) = false := may_nil hb (h.kn hns)
  unfold tickQ
  rw [hl, look_nil hb]
  unfold againQ
  rw [hm, hm2, cond_false, cond_false]
  have : blkS s = { s with nb := true } := by
   unfold blkS incS
   rw [hns]; rfl
  rw [this]
  rfl
 rw [<- eq]
 exact (conT9 (kn47_ok _ _) e).res f2
theorem tick_asks {s : ES} {d : ND} (h : ∀ b, Contract PG F_coord_Tick [.agg (buD d s b), .agg (encCf s.c)] [] (ansB (tickQ s)) []) : Contract PG F_coord_Tick [.agg [.int .i64 s.e, .int .i64 s.g, .trl 8 [encPlan s.p], nV d s.ns, .trl 4 [wkA s], .nils, encAsks s.l], .agg (encCf s.c)] [] (ansB (tickQ s)) [] := by
 by_cases hl : s.l = []
 ·refine Contract.split (args1 := [.agg (buD d s false), .agg (encCf s.c)]) (args2 := [.agg (buD d s true), .agg (encCf s.c)]) ?_ (h false) (h true)
  unfold buD akAV
  rw [hl]
  exact OrC.of [] [.agg (encCf s.c)] (.agg (OrC.of [.int .i64 s.e, .int .i64 s.g, .trl 8 [encPlan s.p], nV d s.ns, .trl 4 [wkA s], .nils] [] .nil))
 ·have : encAsks s.l = akAV s.l false := by
   unfold akAV
   cases h : s.l with
   | nil => exact absurd h hl
   | cons a t => rfl
  rw [this]
  exact h false
theorem tick_con {s : ES} (h : KOk s) : Contract PG F_coord_Tick [.agg (buT s), .agg (encCf s.c)] [] (ansB (tickQ s)) [] := by
 by_cases hns : s.ns = []
 ·have h0 := tick_asks (d := .emp false) (s := s) fun b => tick_emp h hns
  have h1 := tick_asks (d := .emp true) (s := s) fun b => tick_emp h hns
  refine Contract.split ?_ h0 h1
  unfold buT
  rw [hns]
  exact OrC.of [] [.agg (encCf s.c)] (.agg (OrC.of [.int .i64 s.e, .int .i64 s.g, .trl 8 [encPlan s.p]] [.trl 4 [wkA s], .nils, encAsks s.l] .nil))
 ·exact tick_asks (d := .blk) fun b => tick_blk h hns
def CG (f : Nat) (args : List AV) (hp : Heap) (r : AV) (H : Heap) : Prop := Contract PG f args hp r H /\ hp.length <= H.length
def kCon (f : Nat) (r : AV) (H : Heap) : Known := { f := f, ans := fun args hp => some { X := Unit, g := cd (CG f args hp r H), a := (), r := fun _ => (r, H) } }
theorem kCon_ok (f : Nat) (r : AV) (H : Heap) : (kCon f r H).Ok PG := by
 intro args hp A e hg
 cases e
 exact cd_iff.1 hg
def gCon {R : Type} (f : Nat) (args : List AV) (hp : Heap) (r : AV) (H : Heap) (K : Option R) : Option R := gX (CG f args hp r H) () fun _ => K
theorem gCon_eq {R : Type} {f : Nat} {args : List AV} {hp : Heap} {r : AV} {H : Heap} {K : Option R} (h : CG f args hp r H) : gCon f args hp r H K = K := gX_of h
inductive RH where
 | kp (s : ES)
 | en (x : WR)
def RH.t : RH -> Bool
 | .kp _ => false
 | .en _ => true
def dd (sh : Bool) (B : List BS) : List BS := bif sh then .dead :: B else B
def RH.H (sh : Bool) : RH -> Heap
 | .kp s => hpD false s.e s.g s.ns .nils (.sl 31 (3 + sft sh) 0 s.l.length 0) .nils s.c (encPlan s.p) (wkA s) (dd sh [blkA s.l])
 | .en y => hpD false y.e y.g y.ns .nils (.sl 31 (3 + sft sh) 0 0 0) (.sl 31 (4 + sft sh) 0 (y.l.length + 1) 0) y.c (encPlan y.p) wk0 (dd sh [clrA y.l, .seq true 31 (y.l.length + 1) (canF idC [] (outW y))])
def kn52 (R : RH) : List Known := [kCon F_coord_desk_end (.bool R.t) (R.H false)]
theorem kn52_ok (R : RH) : ∀ k ∈ kn52 R, k.Ok PG := ak (kCon_ok _ _ _) ank
def A1 (m : Msg) : List AV := [.ptr 0 0 0, .agg (encMsg (kM m 21))]
def hpR (s : ES) (P W : List AV) (A O : AV) (B : List BS) : Heap := hpD false s.e s.g s.ns .nils A O s.c P W B
def rsP1 (p : Plan) (m : Msg) : Plan := { p with reset := m.num }
structure AQ where
 A : Nat -> AV
 B : BS
def AQ.hp (q : AQ) (sh : Bool) (s : ES) (P W : List AV) : Heap := hpR s P W (q.A (3 + sft sh)) .nils (dd sh [q.B])
def rsT (R : RH) (sh : Bool) (q : AQ) (s : ES) (p : Plan) (W : List AV) : Option (AV × Heap) := gCon F_coord_desk_end A0 (q.hp false s (encPlan p) W) (.bool R.t) (R.H false) (some (.tup [], R.H sh))
def rsB (R : RH) (sh : Bool) (q : AQ) (s : ES) (m : Msg) : Option (AV × Heap) := bif decide (1099511627776 <= s.p.epoch) then rsT R sh q s (rsP1 s.p m) (wkA s) else rsT R sh q s (begP (rsP1 s.p m) true) wk0
def rsE (R : RH) (sh : Bool) (q : AQ) (s : ES) (m : Msg) : Option (AV × Heap) := bif !s.p.fresh then rsB R sh q s m else rsT R sh q s (rsP1 s.p m) (wkA s)
def rsK (sh : Bool) (q : AQ) (s : ES) : Option (AV × Heap) := some (.tup [], q.hp sh s (encPlan s.p) (wkA s))
def rsA (R : RH) (sh : Bool) (q : AQ) (s : ES) (m : Msg) (fr : Bool) : Option (AV × Heap) := bif !decide (s.p.reset < m.num) then rsK sh q s else bif fr then rsE R sh q s m else rsB R sh q s m
def aq1 (m : Msg) : AQ := ⟨fun k => .sl 31 k 0 1 1, .arr true 31 [encAsk (m.src, m.num)]⟩
def qE (b : Bool) (k : Nat) : AV := bif b then .sl 31 k 0 0 0 else .nils
def bE (b : Bool) : List BS := bif b then [.arr true 31 []] else []
def hpN1 (s : ES) (b : Bool) (m : Msg) : Heap := hpR s (encPlan s.p) (wkA s) (qE b 3) (.sl 31 (3 + sft b) 0 1 1) (bE b ++ [.arr true 31 [ansC (m.src, m.num)]])
def rsN (s : ES) (b : Bool) (m : Msg) : Option (AV × Heap) := some (.tup [], hpN1 s b m)
theorem rs_0 (R : RH) (s : ES) (b : Bool) (m : Msg) : callH (envK2 (kn52 R)) 20 F_coord_desk_reset (A1 m) (hpR s (encPlan s.p) (wkA s) (qE b 3) .nils (bE b)) =
 bif decide (s.p.phase = 1) then bif !decide (s.p.reset < m.num) then bif !s.p.fresh then rsN s b m else rsA R b (aq1 m) s m true else rsA R b (aq1 m) s m true
 else bif !decide (s.p.reset < m.num) then rsN s b m else rsA R b (aq1 m) s m false := by
 obtain ⟨e, g, p, ns, nb, op, keep, fz, fe, he, l, c⟩ := s
 cases R with
 | kp s1 =>
  obtain ⟨e, g, p, ns, nb, op, keep, fz1, fe, he, l, c⟩ := s1
  cases b <;> cases fz <;> cases fz1 <;> kernel_rfl
 | en x => cases b <;> cases fz <;> kernel_rfl
def hpQ2 (s : ES) : Heap := hpR s (encPlan s.p) (wkA s) (.sl 31 3 0 s.l.length 0) .nils [blkA s.l]
def SRs (s : ES) (m : Msg) (w sm : Bool) (i : Int) : St := { fr := [(0, .ptr 0 0 0), (3, .ptr 4 0 0), (4, .ptr 1 0 0), (5, .bool w), (6, .bool sm), (29, .sl 31 3 0 s.l.length 0), (30, .int .i64 s.l.length), (31, .int .i64 i)], hp := hpQ2 s ++ [.arr true 31 [encMsg (kM m 21)]] }
def LRs (R : RH) (N : Nat) (s : ES) (m : Msg) (j : Nat) (w sm : Bool) (i : Int) : Option (AV × Heap) := LP (envK2 (kn52 R)) (N + 9) 4 F_coord_desk_reset (hnK 4) 0 [] j (SRs s m w sm i)
theorem rs_in (R : RH) (N : Nat) (s : ES) (m : Msg) : callH (envK2 (kn52 R)) (N + 10) F_coord_desk_reset (A1 m) (hpQ2 s) = LRs R N s m (N + 9) false false 0 := by
 obtain ⟨e, g, p, ns, nb, op, keep, fz, fe, he, l, c⟩ := s
 cases fz <;> kernel_rfl
def aqN (l : List Ask) (m : Msg) : AQ := ⟨fun k => .sl 31 k 0 (l.length + 1) 0, .seq true 31 (l.length + 1) fun k => bif k.blt l.length then encAsk (l.getD k (0, 0)) else bif k.blt (l.length + 1) then [encAsk (m.src, m.num)].getD (k - l.length) [] else encAsk (l.getD l.length (0, 0))⟩
def aqL (l : List Ask) : AQ := ⟨fun k => .sl 31 k 0 l.length 0, blkA l⟩
def rsW (R : RH) (s : ES) (m : Msg) (sm fr : Bool) : Option (AV × Heap) := bif !sm then room1 s.l.length 392 (rsA R true (aqN s.l m) s m fr) else rsA R false (aqL s.l) s m fr
def rsZ (R : RH) (s : ES) (m : Msg) (sm : Bool) : Option (AV × Heap) :=
 bif decide (s.p.phase = 1) then bif !decide (s.p.reset < m.num) then rsW R s m sm true else rsW R s m sm true
 else bif !decide (s.p.reset < m.num) then rsW R s m sm false else rsW R s m sm false
theorem rs_st (R : RH) (N j : Nat) (s : ES) (m : Msg) (sm : Bool) (i : Int) : LRs R N s m (j + 1) true sm i =
 bif decide (i < (s.l.length : Int)) then rg i s.l.length <| bif (0 + i.toNat).blt s.l.length then
  bif sm then LRs R N s m j true true (IntKind.i64.wrap (i + 1)) else bif decide ((s.l.getD (0 + i.toNat) (0, 0)).1 = m.src) then LRs R N s m j true (decide ((s.l.getD (0 + i.toNat) (0, 0)).2 = m.num)) (IntKind.i64.wrap (i + 1)) else LRs R N s m j true false (IntKind.i64.wrap (i + 1))
  else none
 else rsZ R s m sm := by
 obtain ⟨e, g, p, ns, nb, op, keep, fz, fe, he, l, c⟩ := s
 cases R with
 | kp s1 =>
  obtain ⟨e, g, p, ns, nb, op, keep, fz1, fe, he, l, c⟩ := s1
  cases fz <;> cases fz1 <;> kernel_rfl
 | en x => cases fz <;> kernel_rfl
def rsZ0 (R : RH) (s : ES) (m : Msg) : Option (AV × Heap) :=
 let an : Option (AV × Heap) := some (.tup [], hpR s (encPlan s.p) (wkA s) (.sl 31 3 0 s.l.length 0) (.sl 31 4 0 1 1) [blkA s.l, .arr true 31 [ansC (m.src, m.num)]])
 bif decide (s.p.phase = 1) then bif !decide (s.p.reset < m.num) then bif !s.p.fresh then an else room1 s.l.length 392 (rsA R true (aqN s.l m) s m true) else room1 s.l.length 392 (rsA R true (aqN s.l m) s m true)
 else bif !decide (s.p.reset < m.num) then an else room1 s.l.length 392 (rsA R true (aqN s.l m) s m false)
theorem rs_st0 (R : RH) (N j : Nat) (s : ES) (m : Msg) (i : Int) : LRs R N s m (j + 1) false false i =
 bif decide (i < (s.l.length : Int)) then rg i s.l.length <| bif (0 + i.toNat).blt s.l.length then
  bif decide ((s.l.getD (0 + i.toNat) (0, 0)).1 = m.src) then LRs R N s m j true (decide ((s.l.getD (0 + i.toNat) (0, 0)).2 = m.num)) (IntKind.i64.wrap (i + 1)) else LRs R N s m j true false (IntKind.i64.wrap (i + 1))
  else none
 else rsZ0 R s m := by
 obtain ⟨e, g, p, ns, nb, op, keep, fz, fe, he, l, c⟩ := s
 cases R with
 | kp s1 =>
  obtain ⟨e, g, p, ns, nb, op, keep, fz1, fe, he, l, c⟩ := s1
  cases fz <;> cases fz1 <;> kernel_rfl
 | en x => cases fz <;> kernel_rfl
theorem emp_blk : callH (envC2 []) 20 F_twin_Msgs [.trl 31 []] [] = some (.sl 31 0 0 0 0, [.arr true 31 []]) := by kernel_rfl
def kMsgX : Known := { f := F_twin_Msgs, ans := fun args hp => match isEmpT (args.getD 0 .undef) with
 | true => match args, hp with
  | [_], [] => some { X := Unit, g := true, a := (), r := fun _ => (.sl 31 0 0 0 0, [.arr true 31 []]) }
  | _, _ => none
 | false => kMsgT.ans args hp }
theorem kMsgX_ok : kMsgX.Ok PG := by
 intro args hp A e hg
 unfold kMsgX at e
 simp only [] at e
 cases hE : isEmpT (args.getD 0 .undef) with
 | true =>
  rw [hE] at e
  simp only [] at e
  split at e
  ·rename_i v
   cases e
   have : v = .trl 31 [] := isEmpT_eq hE
   subst this
   exact conC2H ank emp_blk
  ·cases e
 | false => rw [hE] at e; exact kMsgT_ok args hp A e hg
inductive RsO where
 | st (sh : Bool) (R : RH)
 | an (s : ES) (b : Bool) (m : Msg)
def RsO.H : RsO -> Heap
 | .st sh R => R.H sh
 | .an s b m => hpN1 s b m
def kn53 (O : RsO) : List Known := [kMsgX, kCloneAlive, kCloneMember, kCon F_coord_desk_reset (.tup []) O.H]
theorem kn53_ok (O : RsO) : ∀ k ∈ kn53 O, k.Ok PG := ak kMsgX_ok (ak kCloneAlive_ok (ak kCloneMember_ok (ak (kCon_ok _ _ _) ank)))
def md53 (f : Nat) : Option Nat := bif Nat.beq f F_coord_desk_reset then some 5 else mdK f
def env53 (l : List Known) : Env := { envL [] md53 l with msk := fun f => bif Nat.beq f F_coord_Up then [2, 4, 5, 6] else [] }
theorem env53_ok {l : List Known} (h : ∀ k ∈ l, k.Ok PG) : EnvOk PG (env53 l) := ⟨tt_ok rfl, orc_ok h⟩
theorem con53 {l : List Known} (h : ∀ k ∈ l, k.Ok PG) {n f : Nat} {xs : List AV} {r : AV} (e : callT (env53 l) n f xs = some r) : Contract PG f xs [] r [] := callT_ok (env53_ok h) (codeOf_ok rfl) mixed e
def gAkX {R : Type} (l : List Ask) (b : Bool) (K : AV -> List BS -> Option R) : Option R := match l with
 | [] => K (qE b 3) (bE b)
 | a :: t => gC dAk pAk eAk [encAsks (a :: t)] fun y => K (.sl 31 3 0 y.length 0) [blkA y]
def gBuX1 {R : Type} (s : ES) (b : Bool) (K : Plan -> List Alive -> List Member -> AV -> AV -> List BS -> Option R) : Option R :=
 gMs s.p.chain fun y0 => gMs s.p.valid fun y1 => gAls s.ns fun y2 => gMs s.keep fun y3 => gFzV s.fz fun F => gAkX s.l b fun A B => K { s.p with chain := y0, valid := y1 } y2 y3 F A B
def eqH21 (O : RsO) (s : ES) (b : Bool) (m : Msg) : Prop := callT (env53 (kn53 O)) 20 F_coord_Handle [.agg (buV s b), .agg (encCf s.c), .agg (encMsg (kM m 21))] =
 gBuX1 s b fun p ns ke F A B => gCon F_coord_desk_reset (A1 m) (hpB s p ns [.bool s.fe, encMembers ke, F, .bool s.he] A B) (.tup []) O.H (fin O.H)
theorem h21kn (sh : Bool) (s1 : ES) (e g : Int) (p : Plan) (ns : List Alive) (nb : Bool) (op : LN Opn) (keep : List Member) (fe he : Bool) (l : List Ask) (c : CConf) (b : Bool) (m : Msg) : callT (env53 (kn53 (RsO.st sh (.kp s1)))) 20 F_coord_Handle [.agg (buV ⟨e, g, p, ns, nb, op, keep, .nil, fe, he, l, c⟩ b), .agg (encCf c), .agg (encMsg (kM m 21))] =
 gBuX1 ⟨e, g, p, ns, nb, op, keep, .nil, fe, he, l, c⟩ b fun p ns ke F A B => gCon F_coord_desk_reset (A1 m) (hpB ⟨e, g, p, ns, nb, op, keep, .nil, fe, he, l, c⟩ p ns [.bool fe, encMembers ke, F, .bool he] A B) (.tup []) ((RsO.st sh (.kp s1))).H (fin ((RsO.st sh (.kp s1))).H) := by
 obtain ⟨e1, g1, p1, ns1, nb1, op1, keep1, fz1, fe1, he1, l1, c1⟩ := s1
 cases sh <;> cases l <;> cases b <;> cases fz1 <;> kernel_rfl
theorem h21xn (sh : Bool) (y : WR) (e g : Int) (p : Plan) (ns : List Alive) (nb : Bool) (op : LN Opn) (keep : List Member) (fe he : Bool) (l : List Ask) (c : CConf) (b : Bool) (m : Msg) : callT (env53 (kn53 (RsO.st sh (.en y)))) 20 F_coord_Handle [.agg (buV ⟨e, g, p, ns, nb, op, keep, .nil, fe, he, l, c⟩ b), .agg (encCf c), .agg (encMsg (kM m 21))] =
 gBuX1 ⟨e, g, p, ns, nb, op, keep, .nil, fe, he, l, c⟩ b fun p ns ke F A B => gCon F_coord_desk_reset (A1 m) (hpB ⟨e, g, p, ns, nb, op, keep, .nil, fe, he, l, c⟩ p ns [.bool fe, encMembers ke, F, .bool he] A B) (.tup []) ((RsO.st sh (.en y))).H (fin ((RsO.st sh (.en y))).H) := by
 cases sh <;> cases l <;> cases b <;> kernel_rfl
theorem h21an (s1 : ES) (b1 : Bool) (m1 : Msg) (e g : Int) (p : Plan) (ns : List Alive) (nb : Bool) (op : LN Opn) (keep : List Member) (fe he : Bool) (l : List Ask) (c : CConf) (b : Bool) (m : Msg) : callT (env53 (kn53 (RsO.an s1 b1 m1))) 20 F_coord_Handle [.agg (buV ⟨e, g, p, ns, nb, op, keep, .nil, fe, he, l, c⟩ b), .agg (encCf c), .agg (encMsg (kM m 21))] =
 gBuX1 ⟨e, g, p, ns, nb, op, keep, .nil, fe, he, l, c⟩ b fun p ns ke F A B => gCon F_coord_desk_reset (A1 m) (hpB ⟨e, g, p, ns, nb, op, keep, .nil, fe, he, l, c⟩ p ns [.bool fe, encMembers ke, F, .bool he] A B) (.tup []) ((RsO.an s1 b1 m1)).H (fin ((RsO.an s1 b1 m1)).H) := by
 obtain ⟨e1, g1, p1, ns1, nb1, op1, keep1, fz1, fe1, he1, l1, c1⟩ := s1
 cases l <;> cases b <;> cases b1 <;> cases fz1 <;> kernel_rfl
theorem h21ke (sh : Bool) (s1 : ES) (e g : Int) (p : Plan) (ns : List Alive) (nb : Bool) (op : LN Opn) (keep : List Member) (fe he : Bool) (l : List Ask) (c : CConf) (f : Msg) (fs : List Msg) (b : Bool) (m : Msg) : callT (env53 (kn53 (RsO.st sh (.kp s1)))) 20 F_coord_Handle [.agg (buV ⟨e, g, p, ns, nb, op, keep, .ne f fs, fe, he, l, c⟩ b), .agg (encCf c), .agg (encMsg (kM m 21))] =
 gBuX1 ⟨e, g, p, ns, nb, op, keep, .ne f fs, fe, he, l, c⟩ b fun p ns ke F A B => gCon F_coord_desk_reset (A1 m) (hpB ⟨e, g, p, ns, nb, op, keep, .ne f fs, fe, he, l, c⟩ p ns [.bool fe, encMembers ke, F, .bool he] A B) (.tup []) ((RsO.st sh (.kp s1))).H (fin ((RsO.st sh (.kp s1))).H) := by
 obtain ⟨e1, g1, p1, ns1, nb1, op1, keep1, fz1, fe1, he1, l1, c1⟩ := s1
 cases sh <;> cases l <;> cases b <;> cases fz1 <;> kernel_rfl
theorem h21xe (sh : Bool) (y : WR) (e g : Int) (p : Plan) (ns : List Alive) (nb : Bool) (op : LN Opn) (keep : List Member) (fe he : Bool) (l : List Ask) (c : CConf) (f : Msg) (fs : List Msg) (b : Bool) (m : Msg) : callT (env53 (kn53 (RsO.st sh (.en y)))) 20 F_coord_Handle [.agg (buV ⟨e, g, p, ns, nb, op, keep, .ne f fs, fe, he, l, c⟩ b), .agg (encCf c), .agg (encMsg (kM m 21))] =
 gBuX1 ⟨e, g, p, ns, nb, op, keep, .ne f fs, fe, he, l, c⟩ b fun p ns ke F A B => gCon F_coord_desk_reset (A1 m) (hpB ⟨e, g, p, ns, nb, op, keep, .ne f fs, fe, he, l, c⟩ p ns [.bool fe, encMembers ke, F, .bool he] A B) (.tup []) ((RsO.st sh (.en y))).H (fin ((RsO.st sh (.en y))).H) := by
 cases sh <;> cases l <;> cases b <;> kernel_rfl
theorem h21ae (s1 : ES) (b1 : Bool) (m1 : Msg) (e g : Int) (p : Plan) (ns : List Alive) (nb : Bool) (op : LN Opn) (keep : List Member) (fe he : Bool) (l : List Ask) (c : CConf) (f : Msg) (fs : List Msg) (b : Bool) (m : Msg) : callT (env53 (kn53 (RsO.an s1 b1 m1))) 20 F_coord_Handle [.agg (buV ⟨e, g, p, ns, nb, op, keep, .ne f fs, fe, he, l, c⟩ b), .agg (encCf c), .agg (encMsg (kM m 21))] =
 gBuX1 ⟨e, g, p, ns, nb, op, keep, .ne f fs, fe, he, l, c⟩ b fun p ns ke F A B => gCon F_coord_desk_reset (A1 m) (hpB ⟨e, g, p, ns, nb, op, keep, .ne f fs, fe, he, l, c⟩ p ns [.bool fe, encMembers ke, F, .bool he] A B) (.tup []) ((RsO.an s1 b1 m1)).H (fin ((RsO.an s1 b1 m1)).H) := by
 obtain ⟨e1, g1, p1, ns1, nb1, op1, keep1, fz1, fe1, he1, l1, c1⟩ := s1
 cases l <;> cases b <;> cases b1 <;> cases fz1 <;> kernel_rfl
theorem h21 (O : RsO) (s : ES) (b : Bool) (m : Msg) (hf : s.fz ≠ .emp) : eqH21 O s b m := by
 obtain ⟨e, g, p, ns, nb, op, keep, fz, fe, he, l, c⟩ := s
 cases fz with
 | emp => exact absurd rfl hf
 | nil => cases O with
  | st sh R => cases R with
   | kp s1 => exact h21kn sh s1 e g p ns nb op keep fe he l c b m
   | en y => exact h21xn sh y e g p ns nb op keep fe he l c b m
  | an s1 b1 m1 => exact h21an s1 b1 m1 e g p ns nb op keep fe he l c b m
 | ne f fs => cases O with
  | st sh R => cases R with
   | kp s1 => exact h21ke sh s1 e g p ns nb op keep fe he l c f fs b m
   | en y => exact h21xe sh y e g p ns nb op keep fe he l c f fs b m
  | an s1 b1 m1 => exact h21ae s1 b1 m1 e g p ns nb op keep fe he l c f fs b m
def askOf (m : Msg) : Ask := (m.src, m.num)
def isAsk (m : Msg) (a : Ask) : Bool := decide (a.1 = m.src) && decide (a.2 = m.num)
def afS (s : ES) (m : Msg) : ES := bif decide (s.p.phase = 1) && s.p.fresh then { s with p := rsP1 s.p m } else beginS { s with p := rsP1 s.p m } true
def askS (s : ES) (m : Msg) : ES := bif s.l.any (isAsk m) then s else { s with l := s.l ++ [askOf m] }
def isNo (s : ES) (m : Msg) : Bool := !decide (s.p.reset < m.num) && s.l.isEmpty && !(decide (s.p.phase = 1) && s.p.fresh)
def h21P (s : ES) (m : Msg) : ES × List Msg :=
 bif isNo s m then (s, [wasMg (askOf m)])
 else bif decide (s.p.reset < m.num) then endQ (afS (askS s m) m) else (askS s m, [])
def RofE (s : ES) : RH := bif mayE s then .en (wrE s (endP s).1 (endP s).2) else .kp s
theorem SubB.trans {x y z : BS} (h : SubB x y) (h' : SubB y z) : SubB x z := ⟨h'.non.trans h.non, h'.lv.trans h.lv, h'.mt.trans h.mt, fun w I φ B o sz a => h'.rb w I φ B o sz (h.rb w I φ B o sz a)⟩
theorem SubH.trans {x y z : Heap} (h : SubH x y) (h' : SubH y z) : SubH x z := ⟨h.1.trans h'.1, fun b => (h.2 b).trans (h'.2 b)⟩
theorem SubH.dd {sh : Bool} {x y : List BS} (h : SubH x y) : SubH (dd sh x) (dd sh y) := by
 cases sh with
 | false => exact h
 | true => exact .cons (.refl _) h
def hpL (s : ES) (P W : List AV) (sh : Bool) (l : List Ask) : Heap := hpR s P W (.sl 31 (3 + sft sh) 0 l.length 0) .nils (dd sh [blkA l])
def QOk (q : AQ) (l : List Ask) : Prop := ∀ (sh : Bool) (s : ES) (P W : List AV), SubH (q.hp sh s P W) (hpL s P W sh l)
theorem hpR_sub {s : ES} {P W W' : List AV} {A A' O : AV} {B B' : List BS} (h1 : SubF A A') (h2 : SubFs W W') (h3 : SubH B B') : SubH (hpR s P W A O B) (hpR s P W' A' O B') := by
 refine .cons (.arr1 ?_) (.cons (.refl _) (.cons (.arr1 h2) h3))
 exact .cons (.refl _) (.cons (.refl _) (.cons (.refl _) (.cons (.refl _) (.cons (.refl _) (.cons (.refl _) (.cons h1 (.refl _)))))))
theorem aqL_ok (l : List Ask) : QOk (aqL l) l := fun sh s P W => .refl _
theorem aq1_ok (m : Msg) : QOk (aq1 m) [askOf m] := fun sh s P W => by
 refine hpR_sub .slack (.refl _) (.dd (.cons ?_ (.refl _)))
 exact .arr_seq rfl rfl
theorem aqN_B (l : List Ask) (m : Msg) : (aqN l m).B = blkA (l ++ [askOf m]) := by
 have e : (fun k => bif k.blt l.length then encAsk (l.getD k (0, 0)) else bif k.blt (l.length + 1) then [encAsk (m.src, m.num)].getD (k - l.length) [] else encAsk (l.getD l.length (0, 0))) = fun k => encAsk ((l ++ [askOf m]).getD k (0, 0)) := by
  funext k
  by_cases h : k < l.length
  ·rw [blt_true h, cond_true]
   simp [List.getD, List.getElem?_append_left h]
  ·rw [blt_false' h, cond_false]
   by_cases h' : k = l.length
   ·subst h'
    rw [blt_true (by omega), cond_true]
    simp [List.getD, askOf]
   ·rw [blt_false' (by omega), cond_false]
    have h2 : (l ++ [askOf m]).length <= k := by simp; omega
    simp only [List.getD, List.getElem?_eq_none h2, List.getElem?_eq_none (Nat.le_refl l.length)]
 unfold aqN blkA
 dsimp only
 rw [e, List.length_append]
 rfl
theorem aqN_ok (l : List Ask) (m : Msg) : QOk (aqN l m) (l ++ [askOf m]) := fun sh s P W => by
 have : (aqN l m).hp sh s P W = hpL s P W sh (l ++ [askOf m]) := by
  unfold AQ.hp hpL
  rw [aqN_B, List.length_append]
  rfl
 rw [this]; exact .refl _
theorem end_CG {s : ES} (h : EOk s) (hn : s.nb = false) (ho : s.op = .nil) (hl : s.l ≠ []) {H : Heap} (hs : SubH H (hpL s (encPlan s.p) (wkA s) false s.l)) : CG F_coord_desk_end A0 H (.bool (RofE s).t) ((RofE s).H false) := by
 have e0 : hpL s (encPlan s.p) (wkA s) false s.l = hpEE s false := by
  obtain ⟨e, g, p, ns, nb, op, keep, fz, fe, he, l, c⟩ := s
  cases hn; cases ho
  cases l with
  | nil => exact absurd rfl hl
  | cons a t => rfl
 have := end_con (s := s) (b := false) h
 unfold oEnd at this
 rw [<- e0] at this
 have er : (RofE s).t = mayE s := by
  unfold RofE
  cases mayE s <;> rfl
 have eH : (bif mayE s then outE (wrE s (endP s).1 (endP s).2) false else hpL s (encPlan s.p) (wkA s) false s.l) = (RofE s).H false := by
  unfold RofE
  cases mayE s with
  | false => obtain ⟨e, g, p, ns, nb, op, keep, fz, fe, he, l, c⟩ := s; cases hn; rfl
  | true =>
   obtain ⟨e, g, p, ns, nb, op, keep, fz, fe, he, l, c⟩ := s
   cases hn; cases ho
   cases l with
   | nil => exact absurd rfl hl
   | cons a t => rfl
 rw [er, <- eH]
 refine ⟨Contract.inH this.1 (.refl _) hs, ?_⟩
 rw [hs.1]; exact this.2
theorem EOk.l' {s : ES} (h : EOk s) {l : List Ask} (hl : l.length <= 1000) : EOk { s with l := l } := ⟨h.ch, h.ns, h.keep, h.fz, h.ver, h.c1, h.c2, hl⟩
theorem EOk.rs {s : ES} (h : EOk s) (m : Msg) : EOk { s with p := rsP1 s.p m } := ⟨h.ch, h.ns, h.keep, h.fz, h.ver, h.c1, h.c2, h.l⟩
theorem EOk.begin {s : ES} (h : EOk s) : EOk (beginS s true) := by
 unfold beginS
 cases decide (1099511627776 <= s.p.epoch) with
 | true => exact h
 | false => exact ⟨h.ch, h.ns, Nat.zero_le _, Nat.zero_le _, (fun f hf => by cases hf), h.c1, h.c2, h.l⟩
theorem EOk.af {s : ES} (h : EOk s) (m : Msg) : EOk (afS s m) := by
 unfold afS
 cases decide (s.p.phase = 1) && s.p.fresh with
 | true => exact h.rs m
 | false => exact (h.rs m).begin
theorem afS_kp (s : ES) (m : Msg) : (afS s m).nb = s.nb /\ (afS s m).op = s.op /\ (afS s m).l = s.l := by
 unfold afS beginS
 cases decide (s.p.phase = 1) && s.p.fresh with
 | true => exact ⟨rfl, rfl, rfl⟩
 | false =>
  rw [cond_false]
  dsimp only
  cases decide (1099511627776 <= (rsP1 s.p m).epoch) <;> exact ⟨rfl, rfl, rfl⟩
theorem rsA_ok {sh : Bool} {q : AQ} {s : ES} {m : Msg} {l : List Ask} (h : EOk s) (hn : s.nb = false) (ho : s.op = .nil) (hq : QOk q l) (hl : l ≠ []) (hl2 : l.length <= 1000) :
  ∃ H, rsA (RofE (afS { s with l := l } m)) sh q s m (decide (s.p.phase = 1)) = some (.tup [], H) /\ SubH H ((bif decide (s.p.reset < m.num) then RofE (afS { s with l := l } m) else .kp { s with l := l }).H sh) := by
 have h1 := h.l' hl2
 have h3 := h1.af m
 obtain ⟨k1, k2, k3⟩ := afS_kp { s with l := l } m
 have k1 : (afS { s with l := l } m).nb = false := k1.trans hn
 have k2 : (afS { s with l := l } m).op = .nil := k2.trans ho
 have k3 : (afS { s with l := l } m).l = l := k3
 unfold rsA
 cases decide (s.p.reset < m.num) with
 | false => exact ⟨_, rfl, hq sh s (encPlan s.p) (wkA s)⟩
 | true =>
  rw [Bool.not_true, cond_false, cond_true]
  have core : ∀ (p : Plan) (W : List AV), SubH (q.hp false s (encPlan p) W) (hpL (afS { s with l := l } m) (encPlan (afS { s with l := l } m).p) (wkA (afS { s with l := l } m)) false (afS { s with l := l } m).l) ->
    ∃ H, rsT (RofE (afS { s with l := l } m)) sh q s p W = some (.tup [], H) /\ SubH H ((RofE (afS { s with l := l } m)).H sh) := by
   intro p W hs
   have e := end_CG h3 k1 k2 (by rw [k3]; exact hl) hs
   unfold rsT
   rw [gCon_eq e]
   exact ⟨_, rfl, .refl _⟩
  have hS : ∀ (p : Plan) (W : List AV) (s3 : ES), s3.e = s.e -> s3.g = s.g -> s3.ns = s.ns -> s3.c = s.c -> s3.p = p -> s3.l = l -> SubFs W (wkA s3) -> SubH (q.hp false s (encPlan p) W) (hpL s3 (encPlan s3.p) (wkA s3) false s3.l) := by
   intro p W s3 a1 a2 a3 a4 a5 a6 a7
   refine (hq false s (encPlan p) W).trans ?_
   unfold hpL hpR
   rw [a1, a2, a3, a4, a5, a6]
   exact .cons (.refl _) (.cons (.refl _) (.cons (.arr1 a7) (.refl _)))
  have hB : (decide (s.p.phase = 1) && s.p.fresh) = false -> ∃ H, rsB (RofE (afS { s with l := l } m)) sh q s m = some (.tup [], H) /\ SubH H ((RofE (afS { s with l := l } m)).H sh) := by
   intro hf
   have ea : afS { s with l := l } m = beginS { s with l := l, p := rsP1 s.p m } true := by
    unfold afS
    have : (decide (({ s with l := l } : ES).p.phase = 1) && ({ s with l := l } : ES).p.fresh) = false := hf
    rw [this]; rfl
   unfold rsB
   cases hM : decide (1099511627776 <= s.p.epoch) with
   | true =>
    have ea2 : afS { s with l := l } m = { s with l := l, p := rsP1 s.p m } := by
     rw [ea]; unfold beginS
     have : decide (1099511627776 <= ({ s with l := l, p := rsP1 s.p m } : ES).p.epoch) = true := hM
     rw [this]; rfl
    refine core _ _ (hS _ _ _ ?_ ?_ ?_ ?_ ?_ ?_ ?_) <;> rw [ea2]
    exact .refl _
   | false =>
    have ea2 : afS { s with l := l } m = wkS { s with l := l, p := rsP1 s.p m } (begP (rsP1 s.p m) true) [] := by
     rw [ea]; unfold beginS
     have : decide (1099511627776 <= ({ s with l := l, p := rsP1 s.p m } : ES).p.epoch) = false := hM
     rw [this]; rfl
    refine core _ _ (hS _ _ _ ?_ ?_ ?_ ?_ ?_ ?_ ?_) <;> rw [ea2]
    ·rfl
    ·rfl
    ·rfl
    ·rfl
    ·rfl
    ·rfl
    ·exact wk0_subF _ _
  have hT : (decide (s.p.phase = 1) && s.p.fresh) = true -> ∃ H, rsT (RofE (afS { s with l := l } m)) sh q s (rsP1 s.p m) (wkA s) = some (.tup [], H) /\ SubH H ((RofE (afS { s with l := l } m)).H sh) := by
   intro hf
   have ea2 : afS { s with l := l } m = { s with l := l, p := rsP1 s.p m } := by
    unfold afS
    have : (decide (({ s with l := l } : ES).p.phase = 1) && ({ s with l := l } : ES).p.fresh) = true := hf
    rw [this]; rfl
   refine core _ _ (hS _ _ _ ?_ ?_ ?_ ?_ ?_ ?_ ?_) <;> rw [ea2]
   exact .refl _
  cases hp : decide (s.p.phase = 1) with
  | false =>
   rw [hp] at hB
   exact hB rfl
  | true =>
   rw [hp] at hB hT
   rw [cond_true]
   unfold rsE
   cases hfr : s.p.fresh with
   | false => rw [hfr] at hB; exact hB rfl
   | true => rw [hfr] at hT; exact hT rfl
def shO (s : ES) (b : Bool) (m : Msg) : Bool := bif s.l.isEmpty then b else !s.l.any (isAsk m)
def h21O (s : ES) (b : Bool) (m : Msg) : RsO := bif isNo s m then .an s b m else .st (shO s b m) (bif decide (s.p.reset < m.num) then RofE (afS (askS s m) m) else .kp (askS s m))
theorem reset_0 {s : ES} {b : Bool} {m : Msg} (h : EOk s) (hn : s.nb = false) (ho : s.op = .nil) (hl : s.l = []) : CG F_coord_desk_reset (A1 m) (hpR s (encPlan s.p) (wkA s) (qE b 3) .nils (bE b)) (.tup []) (h21O s b m).H := by
 have ha : askS s m = { s with l := [askOf m] } := by
  unfold askS; rw [hl]; rfl
 obtain ⟨H, r1, r2⟩ := rsA_ok (sh := b) h hn ho (aq1_ok m) (List.cons_ne_nil _ _) (by simp)
 rw [<- ha] at r1 r2
 have e := rs_0 (RofE (afS (askS s m) m)) s b m
 have hsh : shO s b m = b := by unfold shO; rw [hl]; rfl
 have k1 : isNo s m = false -> (h21O s b m).H = (bif decide (s.p.reset < m.num) then RofE (afS (askS s m) m) else .kp (askS s m)).H b := by
  intro hi
  unfold h21O
  rw [hi, hsh]; rfl
 have k2 : isNo s m = true -> (h21O s b m).H = hpN1 s b m := by
  intro hi
  unfold h21O
  rw [hi]; rfl
 have fin1 : isNo s m = false -> callH (envK2 (kn52 (RofE (afS (askS s m) m)))) 20 F_coord_desk_reset (A1 m) (hpR s (encPlan s.p) (wkA s) (qE b 3) .nils (bE b)) = some (.tup [], H) -> CG F_coord_desk_reset (A1 m) (hpR s (encPlan s.p) (wkA s) (qE b 3) .nils (bE b)) (.tup []) (h21O s b m).H := by
  intro hi he
  have := conK2H (kn52_ok _) he
  rw [k1 hi]
  exact ⟨Contract.outH this.1 r2, by rw [<- r2.1]; exact this.2⟩
 have fin2 : isNo s m = true -> callH (envK2 (kn52 (RofE (afS (askS s m) m)))) 20 F_coord_desk_reset (A1 m) (hpR s (encPlan s.p) (wkA s) (qE b 3) .nils (bE b)) = rsN s b m -> CG F_coord_desk_reset (A1 m) (hpR s (encPlan s.p) (wkA s) (qE b 3) .nils (bE b)) (.tup []) (h21O s b m).H := by
  intro hi he
  have := conK2H (kn52_ok _) he
  rw [k2 hi]
  exact this
 have hN : isNo s m = (!decide (s.p.reset < m.num) && !(decide (s.p.phase = 1) && s.p.fresh)) := by
  unfold isNo; rw [hl]
  cases decide (s.p.reset < m.num) <;> rfl
 cases hp : decide (s.p.phase = 1) with
 | true =>
  rw [hp, cond_true] at e
  rw [hp] at r1
  cases hab : decide (s.p.reset < m.num) with
  | true =>
   rw [hab] at e
   exact fin1 (by rw [hN, hab]; rfl) (e.trans r1)
  | false =>
   rw [hab] at e
   cases hfr : s.p.fresh with
   | false =>
    rw [hfr] at e
    exact fin2 (by rw [hN, hab, hp, hfr]; rfl) e
   | true =>
    rw [hfr] at e
    exact fin1 (by rw [hN, hab, hp, hfr]; rfl) (e.trans r1)
 | false =>
  rw [hp, cond_false] at e
  rw [hp] at r1
  cases hab : decide (s.p.reset < m.num) with
  | true =>
   rw [hab] at e
   exact fin1 (by rw [hN, hab]; rfl) (e.trans r1)
  | false =>
   rw [hab] at e
   exact fin2 (by rw [hN, hab, hp]; rfl) e
theorem rs_run (R : RH) (N : Nat) (s : ES) (m : Msg) (hl : s.l.length <= 1000) : ∀ d i j (sm : Bool), i + d = s.l.length -> d < j -> LRs R N s m j true sm (i : Nat) = rsZ R s m (sm || (s.l.drop i).any (isAsk m)) := by
 intro d
 induction d with
 | zero =>
  intro i j sm hi hj
  obtain ⟨j, rfl⟩ : ∃ k, j = k + 1 := ⟨j - 1, by omega⟩
  rw [rs_st, decide_eq_false (by omega), cond_false, List.drop_eq_nil_of_le (by omega), List.any_nil, Bool.or_false]
 | succ d ih =>
  intro i j sm hi hj
  obtain ⟨j, rfl⟩ : ∃ k, j = k + 1 := ⟨j - 1, by omega⟩
  have hil : i < s.l.length := by omega
  rw [rs_st, decide_eq_true (by omega), cond_true, rg_eq hil, Int.toNat_natCast, Nat.zero_add, blt_true hil, cond_true, wrapS (by omega), drop_cons (z := (0, 0)) hil, List.any_cons]
  have i1 := fun sm => ih (i + 1) j sm (by omega) (by omega)
  cases sm with
  | true => rw [cond_true, i1, Bool.true_or, Bool.true_or]
  | false =>
   rw [cond_false, Bool.false_or]
   unfold isAsk at i1 ⊢
   cases decide ((s.l.getD i (0, 0)).1 = m.src) with
   | false => rw [cond_false, i1, Bool.false_and]
   | true => rw [cond_true, i1, Bool.true_and]
theorem rs_run0 (R : RH) (N : Nat) (s : ES) (m : Msg) (hl : s.l.length <= 1000) (hne : s.l ≠ []) (hN : s.l.length <= N) : callH (envK2 (kn52 R)) (N + 10) F_coord_desk_reset (A1 m) (hpQ2 s) = rsW R s m (s.l.any (isAsk m)) (decide (s.p.phase = 1)) := by
 have hp : 0 < s.l.length := List.length_pos_iff.2 hne
 have hz : ∀ sm, rsZ R s m sm = rsW R s m sm (decide (s.p.phase = 1)) := by
  intro sm
  unfold rsZ
  cases decide (s.p.phase = 1) <;> cases decide (s.p.reset < m.num) <;> rfl
 have h0 : s.l.any (isAsk m) = (isAsk m (s.l.getD 0 (0, 0)) || (s.l.drop 1).any (isAsk m)) := by
  have := drop_cons (z := (0, 0)) hp
  rw [List.drop_zero] at this
  conv => lhs; rw [this]
  rw [List.any_cons]
 have r := fun sm => rs_run R N s m hl (s.l.length - 1) 1 (N + 8) sm (by omega) (by omega)
 have e1 : IntKind.i64.wrap ((0 : Int) + 1) = ((1 : Nat) : Int) := by decide
 rw [rs_in, rs_st0, decide_eq_true (by omega), cond_true]
 have e2 : ∀ K : Option (AV × Heap), rg (0 : Int) s.l.length K = K := fun K => rg_eq (i := 0) hp
 rw [e2, show (0 + (0 : Int).toNat) = 0 from rfl, blt_true hp, cond_true, e1, r, r, hz, hz, h0]
 unfold isAsk
 cases decide ((s.l.getD 0 (0, 0)).1 = m.src) with
 | false => rw [cond_false, Bool.false_and]
 | true => rw [cond_true, Bool.true_and]
theorem reset_n {s : ES} {b : Bool} {m : Msg} (h : EOk s) (hn : s.nb = false) (ho : s.op = .nil) (hl : s.l ≠ []) (hlt : s.l.length < 1000) : CG F_coord_desk_reset (A1 m) (hpQ2 s) (.tup []) (h21O s b m).H := by
 have he : s.l.isEmpty = false := by cases hx : s.l with
  | nil => exact absurd hx hl
  | cons a t => rfl
 have hi : isNo s m = false := by unfold isNo; rw [he, Bool.and_false, Bool.false_and]
 have hO : (h21O s b m).H = (bif decide (s.p.reset < m.num) then RofE (afS (askS s m) m) else .kp (askS s m)).H (!s.l.any (isAsk m)) := by
  unfold h21O shO
  rw [hi, he]; rfl
 have e := rs_run0 (RofE (afS (askS s m) m)) 1000 s m (by omega) hl (by omega)
 rw [hO]
 unfold rsW at e
 cases hsm : s.l.any (isAsk m) with
 | true =>
  have ha : askS s m = s := by unfold askS; rw [hsm]; rfl
  obtain ⟨H, r1, r2⟩ := rsA_ok (sh := false) (m := m) h hn ho (aqL_ok s.l) hl (by omega)
  have es : ({ s with l := s.l } : ES) = s := rfl
  rw [hsm, ha] at e
  have := conK2H (kn52_ok _) (e.trans r1)
  rw [ha]
  exact ⟨Contract.outH this.1 r2, by rw [show (!true) = false from rfl, <- r2.1]; exact this.2⟩
 | false =>
  have ha : askS s m = { s with l := s.l ++ [askOf m] } := by unfold askS; rw [hsm]; rfl
  obtain ⟨H, r1, r2⟩ := rsA_ok (sh := true) (m := m) h hn ho (aqN_ok s.l m) (by simp) (by rw [List.length_append]; simp; omega)
  rw [hsm, ha, Bool.not_false, cond_true, room1_eq (by omega) (by omega)] at e
  have := conK2H (kn52_ok _) (e.trans r1)
  rw [ha]
  exact ⟨Contract.outH this.1 r2, by rw [show (!false) = true from rfl, <- r2.1]; exact this.2⟩
theorem fin_kpE (s : ES) (sh : Bool) : fin ((RH.kp s).H sh) = bif gU0 s.l.length && true && true then some (.tup [.agg [.int .i64 s.e, .int .i64 s.g, .trl 8 [encPlan s.p], encAlives s.ns, .trl 4 [wkA s], .nils, encAsks s.l], .nils]) else none := by
 obtain ⟨e, g, p, ns, nb, op, keep, fz, fe, he, l, c⟩ := s
 cases sh <;> cases fz <;> rfl
theorem fin_kp (s : ES) (sh : Bool) : ∃ v, fin ((RH.kp s).H sh) = some v /\ SubV v (ansB (s, [])) := by
 have e := fin_kpE s sh
 rw [gU0_eq] at e
 exact ⟨_, e, .tup (.cons (.refl _) (.cons nilsL .nil))⟩
theorem fin_enE (y : WR) (sh : Bool) : fin ((RH.en y).H sh) = bif true && (gUL (y.l.length + 1) && true) then some (.tup [.agg [.int .i64 y.e, .int .i64 y.g, .trl 8 [encPlan y.p], encAlives y.ns, .trl 4 [wk0], .nils, .tr 31 0 fun i => bif (i + 0).blt (0 + y.l.length) then zMsgC else encAsk (y.l.getD (i + 0) (0, 0))], .tr 31 (y.l.length + 1) fun i => canF idC [] (actC y.p :: y.l.map ansC) (i + 0)]) else none := by
 obtain ⟨e, g, p, ns, nb, op, l, c⟩ := y
 cases sh <;> rfl
theorem fin_en (s : ES) (g : Int) (p : Plan) (sh : Bool) : ∃ v, fin ((RH.en (wrE s g p)).H sh) = some v /\ SubV v (ansB ({ s with g := g, p := p, fe := false, keep := [], fz := .nil, he := false, l := [] }, outMs p s.l)) := by
 have e := fin_enE (wrE s g p) sh
 rw [gUL_eq] at e
 have hw : SubV (.trl 4 [wk0]) (.trl 4 [wkA { s with g := g, p := p, fe := false, keep := [], fz := .nil, he := false, l := [] }]) := one_trl (wk0_sub _ rfl rfl rfl rfl)
 refine ⟨_, e, .tup (.cons (.agg (.cons (.refl _) (.cons (.refl _) (.cons (.refl _) (.cons (.refl _) (.cons hw (.cons (.refl _) (.cons ?_ .nil)))))))) (.cons (outs_sub p s.l) .nil))⟩
 exact SubV.trs fun i hi => absurd hi (Nat.not_lt_zero i)
theorem fin_an {s : ES} {b : Bool} {m : Msg} (hl : s.l = []) : ∃ v, fin (hpN1 s b m) = some v /\ SubV v (ansB (s, [wasMg (askOf m)])) := by
 refine ⟨.tup [.agg [.int .i64 s.e, .int .i64 s.g, .trl 8 [encPlan s.p], encAlives s.ns, .trl 4 [wkA s], .nils, aqV b], .trl 31 [ansC (askOf m)]], ?_, ?_⟩
 ·obtain ⟨e, g, p, ns, nb, op, keep, fz, fe, he, l, c⟩ := s
  cases b <;> cases fz <;> rfl
 ·have hq : SubV (aqV b) (encAsks s.l) := by rw [hl]; exact aqV_ask b
  refine .tup (.cons (.agg (.cons (.refl _) (.cons (.refl _) (.cons (.refl _) (.cons (.refl _) (.cons (.refl _) (.cons (.refl _) (.cons hq .nil)))))))) (.cons ?_ .nil))
  exact SubV.trans (one_trl (was_sub _)) (SubV.trl_encL (e := encMsg) (z := default) [wasMg (askOf m)])
theorem fin_O21 {s : ES} {b : Bool} {m : Msg} : ∃ v, fin (h21O s b m).H = some v /\ SubV v (ansB (h21P s m)) := by
 unfold h21O h21P
 cases hi : isNo s m with
 | true =>
  have hl : s.l = [] := by
   unfold isNo at hi
   rw [Bool.and_eq_true, Bool.and_eq_true] at hi
   exact List.isEmpty_iff.1 hi.1.2
  exact fin_an hl
 | false =>
  rw [cond_false, cond_false]
  cases decide (s.p.reset < m.num) with
  | false => exact fin_kp _ _
  | true =>
   rw [cond_true, cond_true]
   unfold RofE endQ
   cases mayE (afS (askS s m) m) with
   | false => exact fin_kp _ _
   | true => exact fin_en _ _ _ _
theorem gBuX1_eq {R : Type} {s : ES} {b : Bool} {K : Plan -> List Alive -> List Member -> AV -> AV -> List BS -> Option R} (h : HOk s) : gBuX1 s b K = match s.l with
  | [] => K s.p s.ns s.keep (fzV s.fz) (qE b 3) (bE b)
  | _ :: _ => K s.p s.ns s.keep (fzV s.fz) (.sl 31 3 0 s.l.length 0) [blkA s.l] := by
 have h1 := h.eok.ch
 have h2 := h.val
 have h3 := h.eok.ns
 have h4 := h.eok.keep
 unfold gBuX1
 rw [gMs_eq _ (by unfold shortL LB; omega), gMs_eq _ (by unfold shortL LB; omega), gAls_eq h3, gMs_eq _ (by unfold shortL LB; omega), gFzV_eq h.eok.fz h.cp]
 unfold gAkX
 cases hx : s.l with
 | nil => rfl
 | cons a t =>
  have hl := h.eok.l
  rw [hx] at hl
  have hp : pAk (a :: t) := ⟨Nat.le_trans hl (by omega), List.cons_ne_nil _ _⟩
  exact qAk (k := fun y => K s.p s.ns s.keep (fzV s.fz) (.sl 31 3 0 y.length 0) [blkA y]) hp
theorem h21_con {s : ES} {m : Msg} (h : HOk s) (hf : s.fz ≠ .emp) (hl : s.l.length < 1000) : Contract PG F_coord_Handle [.agg (buT s), .agg (encCf s.c), .agg (encMsg (kM m 21))] [] (ansB (h21P s m)) [] := con_bu fun b => by
 have e := h21 (h21O s b m) s b m hf
 unfold eqH21 at e
 obtain ⟨v, f1, f2⟩ := fin_O21 (s := s) (b := b) (m := m)
 rw [gBuX1_eq h] at e
 cases hx : s.l with
 | nil =>
  have c := reset_0 (b := b) (m := m) h.eok h.nb h.op hx
  rw [hx] at e
  have e : callT (env53 (kn53 (h21O s b m))) 20 F_coord_Handle [.agg (buV s b), .agg (encCf s.c), .agg (encMsg (kM m 21))] = gCon F_coord_desk_reset (A1 m) (hpR s (encPlan s.p) (wkA s) (qE b 3) .nils (bE b)) (.tup []) (h21O s b m).H (fin (h21O s b m).H) := e
  rw [gCon_eq c, f1] at e
  exact (con53 (kn53_ok _) e).res f2
 | cons a t =>
  have hne : s.l ≠ [] := by rw [hx]; exact List.cons_ne_nil _ _
  have c := reset_n (b := b) (m := m) h.eok h.nb h.op hne hl
  have e : callT (env53 (kn53 (h21O s b m))) 20 F_coord_Handle [.agg (buV s b), .agg (encCf s.c), .agg (encMsg (kM m 21))] = gCon F_coord_desk_reset (A1 m) (hpQ2 s) (.tup []) (h21O s b m).H (fin (h21O s b m).H) := by
   rw [e]
   have : ∀ (A B : Option AV), (match s.l with | [] => A | _ :: _ => B) = B := by rw [hx]; exact fun A B => rfl
   exact this _ _
  rw [gCon_eq c, f1] at e
  exact (con53 (kn53_ok _) e).res f2
end Go.Wk
end
noncomputable section
open Go Go.AM Go.Md Go.Fl
namespace Go.Wk
def KindW (m : Msg) : Prop := m.kind = 10 \/ m.kind = 11 \/ m.kind = 12 \/ m.kind = 13 \/ m.kind = 14
theorem acks_kind (r : Rep) : ∀ m ∈ acksP r, KindW m := by
 intro m hm
 unfold acksP at hm
 split at hm
 ·cases hm
 ·simp only [List.mem_singleton] at hm
  subst hm; exact .inr (.inr (.inr (.inr rfl)))
theorem forws_kind (r : Rep) : ∀ m ∈ forwsP r, KindW m := by
 intro m hm
 unfold forwsP at hm
 split at hm
 ·cases hm
 ·simp only [List.mem_singleton] at hm
  subst hm; exact .inr (.inr (.inr (.inl rfl)))
end Go.Wk
end
noncomputable section
open Go Go.AM Go.Md
namespace Go.Wk
set_option maxRecDepth 100000
set_option maxHeartbeats 400000
structure Bu where
 e : Int
 g : Int
 p : Plan
 ns : List Alive
 keep : List Member
 fz : LN Msg
 fe : Bool
 he : Bool
 l : List Ask
def Bu.es (b : Bu) (c : CConf) : ES := ⟨b.e, b.g, b.p, b.ns, false, .nil, b.keep, b.fz, b.fe, b.he, b.l, c⟩
def ES.bu (s : ES) : Bu := ⟨s.e, s.g, s.p, s.ns, s.keep, s.fz, s.fe, s.he, s.l⟩
def encBu (b : Bu) : List AV := [.int .i64 b.e, .int .i64 b.g, .trl 8 [encPlan b.p], encAlives b.ns, .trl 4 [[.bool b.fe, encMembers b.keep, fzV b.fz, .bool b.he]], .nils, encAsks b.l]
def trl0 : AV -> List AV
 | .trl _ [c] => c
 | _ => []
def decBu (a : List AV) : Bu := ⟨getI a 0, getI a 1, decPlan (trl0 (a.getD 2 .undef)), getL decAlive a 3, getL decMember (trl0 (a.getD 4 .undef)) 1, dLN decMsg ((trl0 (a.getD 4 .undef)).getD 2 .undef), getB (trl0 (a.getD 4 .undef)) 0, getB (trl0 (a.getD 4 .undef)) 3, getL decAsk a 6⟩
theorem dec_encBu (b : Bu) (r : List AV) : decBu (encBu b ++ r) = b := by
 obtain ⟨e, g, p, ns, keep, fz, fe, he, l⟩ := b
 have hA : decL decAsk (encAsks l) = l := decL_encL (e := encAsk) (d := decAsk) (z := (0, 0)) (sz := 31) (fun _ => rfl) l
 show (⟨e, g, decPlan (encPlan p), decL decAlive (encAlives ns), decL decMember (encMembers keep), dLN decMsg (fzV fz), fe, he, decL decAsk (encAsks l)⟩ : Bu) = _
 rw [dec_encPlan, decAlives, decMembers, hA]
 have hF : dLN decMsg (fzV fz) = fz := dLN_eq dec_encMsg fz
 rw [hF]
structure PlayB where
 b : Bu
 fe : Int
 reps : List Rep
 way : List Msg
 safe : Ver
 reset : Int
def stV (fe : Int) : AV := .trl 3 [[.int .i64 fe, .cplx .f64 0 0, .nils]]
def encPB (p : PlayB) : List AV := encBu p.b ++ [stV p.fe, encReps p.reps, encMsgs p.way, eV p.safe, .int .i64 p.reset]
def plC (p : PlayB) (W : AV) : List AV := encBu p.b ++ [stV p.fe, encReps p.reps, W, eV p.safe, .int .i64 p.reset]
def plB (p : PlayB) (W : AV) : AV := .agg (plC p W)
def layB (p : PlayB) (l : List Msg) : PlayB := { p with way := p.way ++ l }
def wayB (p : PlayB) (l : List Msg) : PlayB := { p with way := l }
def decPB (a : List AV) : PlayB := ⟨decBu a, getI (trl0 (a.getD 7 .undef)) 0, getL decRep a 8, getL decMsg a 9, ⟨(getC a 10).1, (getC a 10).2⟩, getI a 11⟩
theorem dec_encPB (p : PlayB) : decPB (encPB p) = p := by
 obtain ⟨b, fe, reps, way, safe, reset⟩ := p
 have hb := dec_encBu b [stV fe, encReps reps, encMsgs way, eV safe, .int .i64 reset]
 show (⟨decBu (encBu b ++ [stV fe, encReps reps, encMsgs way, eV safe, .int .i64 reset]), fe, decL decRep (encReps reps), decL decMsg (encMsgs way), safe, reset⟩ : PlayB) = _
 rw [hb, decReps, decMsgs]
theorem plC_sub {p : PlayB} {W : AV} {l : List Msg} (h : SubV W (encMsgs l)) : SubC (plC p W) (encPB (wayB p l)) :=
 .cons (.refl _) (.cons (.refl _) (.cons (.refl _) (.cons (.refl _) (.cons (.refl _) (.cons (.refl _) (.cons (.refl _) (.cons (.refl _) (.cons (.refl _) (.cons h (.refl _))))))))))
def mF (l : List Msg) : Nat -> List AV := fun i => encMsg (l.getD i default)
def laid {R : Type} (w o : List Msg) (E : Option R) (S : Nat -> (Nat -> List AV) -> Option R) : Option R :=
 bif Nat.ble ((0 + w.length) * 392) 140737488355328 && Nat.ble (0 + w.length) 140737488355328 then
  bif Nat.beq w.length 0 then
   bif Nat.ble ((0 + o.length) * 392) 140737488355328 && Nat.ble (0 + o.length) 140737488355328 then
    bif Nat.beq o.length 0 then E else S o.length (mF o)
   else none
  else
   bif Nat.beq w.length 0 || Nat.ble w.length w.length then
    bif Nat.ble ((w.length + o.length) * 392) 140737488355328 && Nat.ble (w.length + o.length) 140737488355328 then
     bif Nat.beq o.length 0 then S w.length (mF w) else S (w.length + o.length) (appF w.length (mF w) o.length (mF o))
    else none
   else none
 else none
theorem laid_eq {R : Type} {w o : List Msg} {E : Option R} {S : Nat -> (Nat -> List AV) -> Option R} (hw : w.length <= 100000) (ho : o.length <= 100000) :
  laid w o E S = match w ++ o with
   | [] => E
   | l => S l.length (mF l) := by
 unfold laid
 rw [roomV (n := 0 + w.length) (b := 392) (by omega) (by omega), cond_true]
 cases w with
 | nil =>
  rw [show Nat.beq ([] : List Msg).length 0 = true from rfl, cond_true, roomV (n := 0 + o.length) (b := 392) (by omega) (by omega), cond_true]
  cases o with
  | nil => rfl
  | cons b o => rw [AM.beq_false (by simp), cond_false]; rfl
 | cons a w =>
  rw [AM.beq_false (by simp), cond_false, ble_true (Nat.le_refl _), Bool.or_true, cond_true, roomV (b := 392) (by omega) (by omega), cond_true]
  cases o with
  | nil =>
   rw [show Nat.beq ([] : List Msg).length 0 = true from rfl, cond_true, List.append_nil]
  | cons b o =>
   rw [AM.beq_false (by simp), cond_false]
   have e : appF (a :: w).length (mF (a :: w)) (b :: o).length (mF (b :: o)) = mF ((a :: w) ++ (b :: o)) := appF_enc encMsg default (a :: w) (b :: o)
   rw [e, <- List.length_append]
   rfl
theorem msgs_nil : SubV (.trl 31 []) (encMsgs []) := SubV.trl_of [] rfl
def gW (n : Nat) (k : Option AV) : Option AV := bif (Nat.beq n 0 || Nat.ble n n) && true then k else none
theorem gW_eq {n : Nat} {k : Option AV} : gW n k = k := by unfold gW; rw [orU]; rfl
theorem lay_eq (p : PlayB) (l : List Msg) : callT env0 5 F_lockgatelaw21_lay [.agg (encPB p), encMsgs l] = laid p.way l (some (plB p (.trl 31 []))) (fun n f => gW n (some (plB p (.tr 31 n f)))) := by kernel_rfl
theorem lay_con (x : PlayB × List Msg) (h : x.1.way.length <= 100000 /\ x.2.length <= 100000) : Contract PG F_lockgatelaw21_lay [.agg (encPB x.1), encMsgs x.2] [] (.agg (encPB (layB x.1 x.2))) [] := by
 obtain ⟨p, l⟩ := x
 have e := lay_eq p l
 rw [laid_eq h.1 h.2] at e
 have key : ∃ v, callT env0 5 F_lockgatelaw21_lay [.agg (encPB p), encMsgs l] = some v /\ SubV v (.agg (encPB (layB p l))) := by
  show ∃ v, _ /\ SubV v (.agg (encPB (wayB p (p.way ++ l))))
  cases hw : p.way ++ l with
  | nil =>
   rw [hw] at e
   exact ⟨_, e, .agg (plC_sub msgs_nil)⟩
  | cons a t =>
   rw [hw] at e
   simp only [] at e
   rw [gW_eq] at e
   exact ⟨_, e, .agg (plC_sub (.refl _))⟩
 obtain ⟨v, e1, e2⟩ := key
 exact (con0 e1).res e2
def dLay (a : List AV) : PlayB × List Msg := (decPB (argC a 0), decL decMsg (a.getD 1 .undef))
def eLay (x : PlayB × List Msg) : List AV := [.agg (encPB x.1), encMsgs x.2]
def pLay (x : PlayB × List Msg) : Prop := x.1.way.length <= 100000 /\ x.2.length <= 100000
def kLay : Known := .spec F_lockgatelaw21_lay dLay pLay eLay (fun x => .agg (encPB (layB x.1 x.2)))
theorem kLay_ok : kLay.Ok PG := Known.spec_ok lay_con
theorem qLay {R : Type} {p : PlayB} {l : List Msg} {A : List AV} {K : PlayB × List Msg -> Option R} (h : p.way.length <= 100000) (h' : l.length <= 100000) (hd : dLay A = (p, l)) (hs : SubC A (eLay (p, l))) : gC dLay pLay eLay A K = K (p, l) := gC_eq (p, l) hd ⟨h, h'⟩ hs
def kns71 : List Known := [kMsgE, kCloneAlive, kCloneMember]
theorem kns71_ok : ∀ k ∈ kns71, k.Ok PG := ak kMsgE_ok (ak kCloneAlive_ok (ak kCloneMember_ok ank))
theorem con71 {n f : Nat} {xs : List AV} {r : AV} (e : callT (envO kns71) n f xs = some r) : Contract PG f xs [] r [] := con_of (md := fun _ => none) kns71_ok e
def fncMg (fe : Int) : Msg := { msgZ with kind := 20, src := 0, dst := 1, epoch := fe }
def maxI (a b : Int) : Int := bif decide (a < b) then b else a
def fncC (fe : Int) : List AV := [.int .i64 20, .int .i64 0, .int .i64 1, .int .i64 0, .int .i64 0, .int .i64 0, .int .i64 fe, .int .i64 0, .int .i64 0, .int .i64 0, .int .i64 0, .int .i64 0, .bool false, .bool false, .str [], .str [], .cplx .f64 0 0, .cplx .f64 0 0, .int .i64 0, .str [], .str [], .str [], .bool false, .nils, .nils, .nils, .cplx .f64 0 0, .cplx .f64 0 0, .int .i64 0, .nils, .nils]
theorem fnc_sub (fe : Int) : SubC (fncC fe) (encMsg (fncMg fe)) := subC_all (by repeat' (first | exact trivial | exact nilsL | exact SubV.refl _ | refine ⟨?_, ?_⟩))
theorem do10_eq (fe ep : Int) : callT (envO kns71) 20 F_lockgateref10_Do [stV fe, .agg (encMsg (fenMg ep))] =
  bif decide (fe < ep) then some (.tup [stV ep, .agg (fncC ep), .bool true]) else some (.tup [stV fe, .agg (fncC fe), .bool true]) := by kernel_rfl
def dD10 (a : List AV) : Int × Int := (getI (trl0 (a.getD 0 .undef)) 0, getI (argC a 1) 6)
def eD10 (x : Int × Int) : List AV := [stV x.1, .agg (encMsg (fenMg x.2))]
def oD10 (x : Int × Int) : AV := .tup [stV (maxI x.1 x.2), .agg (encMsg (fncMg (maxI x.1 x.2))), .bool true]
theorem do10_con (x : Int × Int) (_ : True) : Contract PG F_lockgateref10_Do (eD10 x) [] (oD10 x) [] := by
 obtain ⟨fe, ep⟩ := x
 have e := do10_eq fe ep
 unfold oD10 maxI
 dsimp only
 cases h : decide (fe < ep) with
 | true =>
  rw [h] at e
  exact (con71 e).res (.tup (.cons (.refl _) (.cons (.agg (fnc_sub _)) (.refl _))))
 | false =>
  rw [h] at e
  exact (con71 e).res (.tup (.cons (.refl _) (.cons (.agg (fnc_sub _)) (.refl _))))
def kDo10 : Known := .spec F_lockgateref10_Do dD10 (fun _ => True) eD10 oD10
theorem kDo10_ok : kDo10.Ok PG := Known.spec_ok do10_con
def liveB (r : Rep) : Bool := !decide (r.view.phase = 0) && decide (r.frozen <= r.view.epoch)
def beatMg (r : Rep) : Msg := { msgZ with kind := 7, src := r.self.node, dst := 1, sboot := r.self.boot, views := bif liveB r then [⟨0, r.view.epoch, 0, r.view.phase, []⟩] else [] }
def btC (r : Rep) (V : AV) : List AV := [.int .i64 7, .int .i64 r.self.node, .int .i64 1, .int .i64 0, .int .i64 r.self.boot, .int .i64 0, .int .i64 0, .int .i64 0, .int .i64 0, .int .i64 0, .int .i64 0, .int .i64 0, .bool false, .bool false, .str [], .str [], .cplx .f64 0 0, .cplx .f64 0 0, .int .i64 0, .str [], .str [], .str [], .bool false, .nils, .nils, V, .cplx .f64 0 0, .cplx .f64 0 0, .int .i64 0, .nils, .nils]
theorem beat_eq (r : Rep) : callT (envO kns71) 20 F_lockgateref21_Beat [.agg (encRep r)] =
  bif !decide (r.view.phase = 0) then bif decide (r.frozen <= r.view.epoch) then some (.agg (btC r (.trl 5 [[.int .i64 0, .int .i64 r.view.epoch, .int .i64 0, .int .i64 r.view.phase, .nils]]))) else some (.agg (btC r .nils)) else some (.agg (btC r .nils)) := by kernel_rfl
theorem bt_sub (r : Rep) {V : AV} (h : SubV V (encViews (beatMg r).views)) : SubC (btC r V) (encMsg (beatMg r)) := subC_all (by repeat' (first | exact trivial | exact h | exact nilsL | exact SubV.refl _ | refine ⟨?_, ?_⟩))
theorem beat_con (r : Rep) (_ : True) : Contract PG F_lockgateref21_Beat [.agg (encRep r)] [] (.agg (encMsg (beatMg r))) [] := by
 have e := beat_eq r
 have hn : liveB r = false -> SubV .nils (encViews (beatMg r).views) := fun h => by
  show SubV .nils (encViews (bif liveB r then _ else []))
  rw [h]; exact nilsL
 have hv : liveB r = true -> SubV (.trl 5 [[.int .i64 0, .int .i64 r.view.epoch, .int .i64 0, .int .i64 r.view.phase, .nils]]) (encViews (beatMg r).views) := fun h => by
  show SubV _ (encViews (bif liveB r then [⟨0, r.view.epoch, 0, r.view.phase, []⟩] else []))
  rw [h]
  exact SubV.trans (one_trl (.cons (.refl _) (.cons (.refl _) (.cons (.refl _) (.cons (.refl _) (.cons nilsL .nil)))))) (SubV.trl_encL (e := encView) (z := default) [⟨0, r.view.epoch, 0, r.view.phase, []⟩])
 unfold liveB at hn hv
 cases h1 : decide (r.view.phase = 0) with
 | true =>
  rw [h1] at e hn
  exact (con71 e).res (.agg (bt_sub r (hn rfl)))
 | false =>
  rw [h1] at e hn hv
  cases h2 : decide (r.frozen <= r.view.epoch) with
  | true =>
   rw [h2] at e hv
   exact (con71 e).res (.agg (bt_sub r (hv rfl)))
  | false =>
   rw [h2] at e hn
   exact (con71 e).res (.agg (bt_sub r (hn rfl)))
def kBeat : Known := .spec F_lockgateref21_Beat (fun a => decRep (argC a 0)) (fun _ => True) (fun r => [.agg (encRep r)]) (fun r => .agg (encMsg (beatMg r)))
theorem kBeat_ok : kBeat.Ok PG := Known.spec_ok beat_con
theorem cnew_eq (a b : Int) : callT (envO kns71) 30 F_chain_New [.int .i64 0, .agg [.int .i64 a, .int .i64 b]] =
 some (.agg [.int .i64 0, .int .i64 a, .int .i64 b, .int .i64 0, .int .i64 0, .int .i64 0, .int .i64 0, .nils, .int .i64 0, .cplx .f64 0 0, .cplx .f64 0 0, .nils, .nils, .cplx .f64 0 0, .nils]) := by kernel_rfl
theorem cnew_con (m : Member) (_ : True) : Contract PG F_chain_New [.int .i64 0, .agg (encMember m)] [] (.agg (encRep (rep0 m))) [] :=
 (con71 (cnew_eq m.node m.boot)).res (.agg (subC_all (by repeat' (first | exact trivial | exact nilsL | exact SubV.refl _ | refine ⟨?_, ?_⟩))))
def kCNew : Known := .spec F_chain_New (fun a => decMember (argC a 1)) (fun _ => True) (fun m => [.int .i64 0, .agg (encMember m)]) (fun m => .agg (encRep (rep0 m)))
theorem kCNew_ok : kCNew.Ok PG := Known.spec_ok cnew_con
structure Bk where
 e : Int
 g : Int
 p : Plan
def encBk (k : Bk) : List AV := [.int .i64 k.e, .int .i64 k.g, .trl 8 [encPlan k.p]]
def decBk (a : List AV) : Bk := ⟨getI a 0, getI a 1, decPlan (trl0 (a.getD 2 .undef))⟩
def openB (k : Bk) : Bu := ⟨k.e, k.g, k.p, [], [], .nil, false, false, []⟩
theorem open_eq (e g : Int) (p : Plan) : callT (envO kns71) 20 F_coord_Open [.agg [.int .i64 e, .int .i64 g, .trl 8 [encPlan p]]] =
 gMs p.chain fun y0 => gMs p.valid fun y1 => some (.agg [.int .i64 e, .int .i64 g, .trl 8 [encPlan { p with chain := y0, valid := y1 }], .nils, .trl 4 [[.bool false, .nils, .nils, .bool false]], .nils, .nils]) := by kernel_rfl
theorem open_con (k : Bk) (h : k.p.chain.length <= 1000 /\ k.p.valid.length <= 1000) : Contract PG F_coord_Open [.agg (encBk k)] [] (.agg (encBu (openB k))) [] := by
 obtain ⟨e, g, p⟩ := k
 have h1 : p.chain.length <= 1000 := h.1
 have h2 : p.valid.length <= 1000 := h.2
 have k := open_eq e g p
 rw [gMs_eq _ (by unfold shortL LB; omega), gMs_eq _ (by unfold shortL LB; omega)] at k
 refine (con71 k).res (.agg ?_)
 exact .cons (.refl _) (.cons (.refl _) (.cons (.refl _) (.cons nilsL (.cons (one_trl (.cons (.refl _) (.cons nilsL (.refl _)))) (.cons (.refl _) (.cons nilsL .nil))))))
def kOpen : Known := .spec F_coord_Open (fun a => decBk (argC a 0)) (fun k => k.p.chain.length <= 1000 /\ k.p.valid.length <= 1000) (fun k => [.agg (encBk k)]) (fun k => .agg (encBu (openB k)))
theorem kOpen_ok : kOpen.Ok PG := Known.spec_ok open_con
theorem dec_encBk (k : Bk) : decBk (encBk k) = k := by
 obtain ⟨e, g, p⟩ := k
 show (⟨e, g, decPlan (encPlan p)⟩ : Bk) = _
 rw [dec_encPlan]
structure BC2 where
 b : Bu
 c : CConf
def decCf (a : List AV) : CConf := ⟨getI a 1, getI a 12, getI a 11⟩
def encBC2 (x : BC2) : List AV := [.agg (encBu x.b), .agg (encCf x.c)]
def decBC2 (a : List AV) : BC2 := ⟨decBu (argC a 0), decCf (argC a 1)⟩
theorem dec_encBC2 (x : BC2) : decBC2 (encBC2 x) = x := by
 obtain ⟨b, c⟩ := x
 have := dec_encBu b []
 rw [List.append_nil] at this
 show (⟨decBu (encBu b), c⟩ : BC2) = _
 rw [this]
def ansU (x : ES × List Msg) : AV := .tup [.agg (encBu x.1.bu), encMsgs x.2]
def kTick : Known := .spec F_coord_Tick decBC2 (fun x => KOk (x.b.es x.c)) encBC2 (fun x => ansU (tickQ (x.b.es x.c)))
theorem kTick_ok : kTick.Ok PG := Known.spec_ok fun x h => tick_con h
theorem qTick {R : Type} {b : Bu} {c : CConf} {K : BC2 -> Option R} (h : KOk (b.es c)) : gC decBC2 (fun x => KOk (x.b.es x.c)) encBC2 [.agg (encBu b), .agg (encCf c)] K = K ⟨b, c⟩ := gC_eq (⟨b, c⟩ : BC2) (dec_encBC2 ⟨b, c⟩) h (.refl _)
theorem SubV.tr1 {sz : Nat} {f : Nat -> List AV} : SubV (.tr sz 1 f) (.trl sz [f 0]) := by
 intro w I u hv
 cases hv with
 | tr _ _ _ B o cap uf hI hn hlen hc h1 hr =>
  have e : ∀ i, i < 1 -> ([f 0] : List (List AV)).getD i [] = f i := fun i hi => by
   have : i = 0 := by omega
   subst this; rfl
  refine .trl _ _ _ (.tr sz 1 _ B o cap uf hI hn (fun i hi => ?_) (fun i k c hi he => ?_) (fun i k c hi he => ?_) (fun i k c hi he => ?_)) (fun h => by cases h)
  ·rw [e i hi]; exact hlen i hi
  ·rw [e i hi] at he; exact hc i k c hi he
  ·rw [e i hi] at he; exact h1 i k c hi he
  ·rw [e i hi] at he; exact hr i k c hi he
def vfOf (m : Msg) : VF := match m.views with
 | [] => .nil
 | v :: _ => .one v
def hdS (s : ES) (m : Msg) : ES × List Msg :=
 bif decide (m.kind = 20) then h20P s m else bif decide (m.kind = 9) then h9P s m else bif decide (m.kind = 21) then h21P s m else (h7P s m (vfOf m), [])
structure HdOk (s : ES) (m : Msg) : Prop where
 h : HOk s
 ne : s.fz ≠ .emp
 lt : s.fz.l.length < 1000
 l : s.l.length < 1000
 sh : m.shard = 0
 k : m.kind = 20 \/ (m.kind = 9 /\ CpOk m /\ VNum m.ver) \/ m.kind = 21 \/ (m.kind = 7 /\ (m.views = [] \/ ∃ v, m.views = [v] /\ v.shard = 0))
theorem kM_eq {m : Msg} {k : Int} (h : m.kind = k) (hs : m.shard = 0) : kM m k = m := by
 obtain ⟨⟩ := m
 simp only at h hs
 subst h hs
 rfl
theorem handle7 {s : ES} {m : Msg} (h : HOk s) (hk : m.kind = 7) (hv : m.views = [] \/ ∃ v, m.views = [v] /\ v.shard = 0) : Contract PG F_coord_Handle [.agg (buT s), .agg (encCf s.c), .agg (encMsg m)] [] (ansB (h7P s m (vfOf m), [])) [] := by
 obtain ⟨k, src, dst, boot, sboot, shard, epoch, gen, sess, num, a, code, has, fresh, key, val, ver, floor, op, entries, chain, views, image⟩ := m
 simp only at hk hv
 subst hk
 rcases hv with hv | ⟨v, hv, hs⟩
 ·subst hv
  have c1 := h7_all (m := ⟨7, src, dst, boot, sboot, shard, epoch, gen, sess, num, a, code, has, fresh, key, val, ver, floor, op, entries, chain, [], image⟩) (x := .nil) h
  have c2 := h7_all (m := ⟨7, src, dst, boot, sboot, shard, epoch, gen, sess, num, a, code, has, fresh, key, val, ver, floor, op, entries, chain, [], image⟩) (x := .emp) h
  refine Contract.split ?_ c1 c2
  exact OrC.of [.agg (buT s), .agg (encCf s.c)] [] (.agg (OrC.of ((encMsg ⟨7, src, dst, boot, sboot, shard, epoch, gen, sess, num, a, code, has, fresh, key, val, ver, floor, op, entries, chain, [], image⟩).take 25) ((encMsg ⟨7, src, dst, boot, sboot, shard, epoch, gen, sess, num, a, code, has, fresh, key, val, ver, floor, op, entries, chain, [], image⟩).drop 26) .nil))
 ·subst hv
  have c1 := h7_all (m := ⟨7, src, dst, boot, sboot, shard, epoch, gen, sess, num, a, code, has, fresh, key, val, ver, floor, op, entries, chain, [v], image⟩) (x := .one v) h
  refine c1.args (.cons (.refl _) (.cons (.refl _) (.cons (.agg ?_) (.refl _))))
  have hve : ({ v with shard := 0 } : Md.View) = v := by
   obtain ⟨⟩ := v
   simp only at hs
   subst hs; rfl
  have h1 : SubV (encViews [v]) (.trl 5 [encView { v with shard := 0 }]) := by
   rw [hve]; exact SubV.tr1
  exact subC_all (by repeat' (first | exact trivial | exact SubV.refl _ | exact h1 | refine ⟨?_, ?_⟩))
theorem handle_all {s : ES} {m : Msg} (h : HdOk s m) : Contract PG F_coord_Handle [.agg (buT s), .agg (encCf s.c), .agg (encMsg m)] [] (ansB (hdS s m)) [] := by
 unfold hdS
 rcases h.k with k | ⟨k, k1, k2⟩ | k | ⟨k, kv⟩
 ·have c := h20_con (m := m) h.h
  rw [kM_eq k h.sh] at c
  rw [decide_eq_true k]; exact c
 ·have c := h9_con (m := m) ⟨h.h, h.ne, h.lt, by rw [kM_eq k h.sh]; exact k1, k2⟩
  rw [kM_eq k h.sh] at c
  rw [decide_eq_false (by omega), decide_eq_true k]; exact c
 ·have c := h21_con (m := m) h.h h.ne h.l
  rw [kM_eq k h.sh] at c
  rw [decide_eq_false (by omega), decide_eq_false (by omega), decide_eq_true k]; exact c
 ·rw [decide_eq_false (by omega), decide_eq_false (by omega), decide_eq_false (by omega)]
  exact handle7 h.h k kv
structure HX where
 b : Bu
 c : CConf
 m : Msg
def encHX (x : HX) : List AV := [.agg (encBu x.b), .agg (encCf x.c), .agg (encMsg x.m)]
def decHX (a : List AV) : HX := ⟨decBu (argC a 0), decCf (argC a 1), decMsg (argC a 2)⟩
theorem dec_encHX (x : HX) : decHX (encHX x) = x := by
 obtain ⟨b, c, m⟩ := x
 have := dec_encBu b []
 rw [List.append_nil] at this
 show (⟨decBu (encBu b), c, decMsg (encMsg m)⟩ : HX) = _
 rw [this, dec_encMsg]
def pHX (x : HX) : Prop := HdOk (x.b.es x.c) x.m
def oHX (x : HX) : AV := ansU (hdS (x.b.es x.c) x.m)
def kHd : Known := .spec F_coord_Handle decHX pHX encHX oHX
theorem kHd_ok : kHd.Ok PG := Known.spec_ok fun x h => handle_all h
theorem qHd {R : Type} {b : Bu} {c : CConf} {m : Msg} {K : HX -> Option R} (h : HdOk (b.es c) m) : gC decHX pHX encHX [.agg (encBu b), .agg (encCf c), .agg (encMsg m)] K = K ⟨b, c, m⟩ := gC_eq (⟨b, c, m⟩ : HX) (dec_encHX ⟨b, c, m⟩) h (.refl _)
def kns72 : List Known := [kDo10, kHd, kHandle, kLay]
theorem kns72_ok : ∀ k ∈ kns72, k.Ok PG := ak kDo10_ok (ak kHd_ok (ak kHandle_ok (ak kLay_ok ank)))
theorem con72 {n f : Nat} {xs : List AV} {r : AV} (e : callT (envO kns72) n f xs = some r) : Contract PG f xs [] r [] := con_of (md := fun _ => none) kns72_ok e
def zPB : List AV := [.int .i64 0, .int .i64 0, .nils, .nils, .nils, .nils, .nils, .nils, .nils, .nils, .cplx .f64 0 0, .int .i64 0]
def SGv (p : PlayB) (m : Msg) (i : Int) : St := { fr := [(3, .ptr 0 0 0), (5, .ptr 1 0 0), (6, .ptr 2 0 0), (12, .int .i64 i)], hp := [.arr true 12 [encPB p], .arr true 31 [encMsg m], .arr true 12 [zPB]] }
def LGv (N j : Nat) (S : St) : Option AV := LP (envO kns72) N 0 F_lockgatelaw21_give snK 0 [] j S
theorem give_eq (N : Nat) (p : PlayB) (c : CConf) (m : Msg) : callT (envO kns72) (N + 1) F_lockgatelaw21_give [.agg (encPB p), .agg (encCf c), .agg (encMsg m)] =
 bif decide (m.dst = 0) then gC dD10 (fun _ => True) eD10 [stV p.fe, .agg (encMsg m)] fun y0 => gC dLay pLay eLay [.agg (encPB { p with fe := maxI y0.1 y0.2 }), .trl 31 [encMsg (fncMg (maxI y0.1 y0.2))]] fun y1 => some (.agg (encPB (layB y1.1 y1.2)))
 else bif decide (m.dst = 1) then gC decHX pHX encHX [.agg (encBu p.b), .agg (encCf c), .agg (encMsg m)] fun y2 => gC dLay pLay eLay [.agg (encPB { p with b := (hdS (y2.b.es y2.c) y2.m).1.bu }), encMsgs (hdS (y2.b.es y2.c) y2.m).2] fun y3 => some (.agg (encPB (layB y3.1 y3.2)))
 else LGv N N (SGv p m 0) := by kernel_rfl
def setRs (l : List Rep) (k : Nat) (r : Rep) : AV := .tr 15 l.length fun i => bif Nat.beq i (0 + k) then encRep r else encRep (l.getD i default)
theorem setRs_sub (l : List Rep) (k : Nat) (r : Rep) : SubV (setRs l k r) (encReps (l.set k r)) := by
 unfold setRs encReps encL
 rw [List.length_set]
 refine SubV.trs fun i hi => ?_
 rw [Nat.zero_add]
 by_cases e : i = k
 ·subst e
  rw [AM.beq_true rfl, cond_true]
  have : (l.set i r).getD i default = r := by simp [List.getD, hi]
  rw [this]; exact .refl _
 ·rw [AM.beq_false e, cond_false]
  have : (l.set k r).getD i default = l.getD i default := by
   unfold List.getD
   rw [List.getElem?_set_ne (fun x => e x.symm)]
  rw [this]; exact .refl _
theorem setRs_dec (l : List Rep) (k : Nat) (r : Rep) : decL decRep (setRs l k r) = l.set k r := by
 show (List.range l.length).map (fun i => decRep (bif Nat.beq i (0 + k) then encRep r else encRep (l.getD i default))) = l.set k r
 refine List.ext_getElem (by simp) fun i h1 h2 => ?_
 have hi : i < l.length := by simpa using h1
 simp only [List.getElem_map, List.getElem_range]
 rw [Nat.zero_add]
 by_cases e : i = k
 ·subst e
  rw [AM.beq_true rfl, cond_true, dec_encRep]
  simp
 ·rw [AM.beq_false e, cond_false, dec_encRep, List.getElem_set_ne (fun x => e x.symm)]
  simp [List.getD, hi]
def plR (p : PlayB) (R : AV) : List AV := encBu p.b ++ [stV p.fe, R, encMsgs p.way, eV p.safe, .int .i64 p.reset]
def gvHit (p : PlayB) (m : Msg) (i : Int) : Option AV :=
 rg i p.reps.length <| gC dRMs pRMs eRMs [.agg (encRep (p.reps.getD i.toNat default)), .agg (encMsg m)] fun y0 =>
 bif Nat.ble ((0 + p.reps.length) * 208) 140737488355328 && Nat.ble (0 + p.reps.length) 140737488355328 then
  bif Nat.beq p.reps.length 0 then bif decide (0 <= i) && decide (i < ((0 : Nat) : Int)) then none else none else
  rg i p.reps.length <| bif Nat.blt (0 + i.toNat) p.reps.length && true then bif (Nat.beq p.reps.length 0 || Nat.ble p.reps.length p.reps.length) && true && true then
   gC dLay pLay eLay [.agg (plR p (setRs p.reps i.toNat (handP y0.1 y0.2).1)), encMsgs (handP y0.1 y0.2).2] fun y1 => some (.agg (encPB (layB y1.1 y1.2))) else none else none
 else none
theorem give_st (N j : Nat) (p : PlayB) (m : Msg) (i : Int) : LGv N (j + 1) (SGv p m i) =
 bif decide (i < (p.reps.length : Int)) then rg i p.reps.length <| bif decide ((p.reps.getD i.toNat default).self.node = m.dst) then gvHit p m i else LGv N j (SGv p m (IntKind.i64.wrap (i + 1)))
 else some (.agg (encPB p)) := by kernel_rfl
def rpB (p : PlayB) (i : Nat) : Rep := p.reps.getD i default
def putB (p : PlayB) (i : Nat) (r : Rep) : PlayB := { p with reps := p.reps.set i r }
def giveR (m : Msg) : Nat -> Nat -> PlayB -> PlayB
 | 0, _, p => p
 | d + 1, i, p => bif decide ((rpB p i).self.node = m.dst) then layB (putB p i (handP (rpB p i) m).1) (handP (rpB p i) m).2 else giveR m d (i + 1) p
def giveB (c : CConf) (p : PlayB) (m : Msg) : PlayB :=
 bif decide (m.dst = 0) then layB { p with fe := maxI p.fe m.epoch } [fncMg (maxI p.fe m.epoch)]
 else bif decide (m.dst = 1) then layB { p with b := (hdS (p.b.es c) m).1.bu } (hdS (p.b.es c) m).2
 else giveR m p.reps.length 0 p
structure GvOk (p : PlayB) (c : CConf) (m : Msg) : Prop where
 d0 : m.dst = 0 -> ∃ ep, m = fenMg ep
 d1 : m.dst = 1 -> HdOk (p.b.es c) m /\ (hdS (p.b.es c) m).2.length <= 10000
 d2 : ∀ i, i < p.reps.length -> (rpB p i).self.node = m.dst -> m.dst ≠ 0 -> m.dst ≠ 1 -> HandOk (rpB p i) m /\ Kinds m /\ (handP (rpB p i) m).2.length <= 10000
 way : p.way.length <= 10000
 rl : p.reps.length <= 100
theorem hit_eq {p : PlayB} {m : Msg} {i : Nat} (hi : i < p.reps.length) (hl : p.reps.length <= 100) (hw : p.way.length <= 10000) (h1 : HandOk (rpB p i) m) (h2 : Kinds m) (h3 : (handP (rpB p i) m).2.length <= 10000) :
  gvHit p m (i : Nat) = some (.agg (encPB (layB (putB p i (handP (rpB p i) m).1) (handP (rpB p i) m).2))) := by
 unfold gvHit
 rw [rg_eq hi, Int.toNat_natCast]
 have e0 : p.reps.getD i default = rpB p i := rfl
 have q : ∀ K : Rep × Msg -> Option AV, gC dRMs pRMs eRMs [.agg (encRep (rpB p i)), .agg (encMsg m)] K = K (rpB p i, m) := fun K => qRMs h1 h2
 rw [e0, q, roomV (n := 0 + p.reps.length) (b := 208) (by omega) (by omega), cond_true, AM.beq_false (by omega), cond_false, rg_eq hi, Nat.zero_add, blt_true hi, Bool.and_true, cond_true, ble_true (Nat.le_refl _), Bool.or_true, Bool.and_true, Bool.and_true, cond_true]
 dsimp only
 refine gC_eq (putB p i (handP (rpB p i) m).1, (handP (rpB p i) m).2) ?_ ⟨Nat.le_trans hw (by omega), Nat.le_trans h3 (by omega)⟩ (.cons (.agg ?_) (.refl _))
 ·refine Prod.ext ?_ (decMsgs _)
  have hb := dec_encBu p.b [stV p.fe, setRs p.reps i (handP (rpB p i) m).1, encMsgs p.way, eV p.safe, .int .i64 p.reset]
  show (⟨decBu (encBu p.b ++ [stV p.fe, setRs p.reps i (handP (rpB p i) m).1, encMsgs p.way, eV p.safe, .int .i64 p.reset]), p.fe, decL decRep (setRs p.reps i (handP (rpB p i) m).1), decL decMsg (encMsgs p.way), p.safe, p.reset⟩ : PlayB) = _
  rw [hb, setRs_dec, decMsgs]; rfl
 ·exact .cons (.refl _) (.cons (.refl _) (.cons (.refl _) (.cons (.refl _) (.cons (.refl _) (.cons (.refl _) (.cons (.refl _) (.cons (.refl _) (.cons (setRs_sub _ _ _) (.refl _)))))))))
theorem give_run {M : Nat} {p : PlayB} {c : CConf} {m : Msg} (h : GvOk p c m) (n0 : m.dst ≠ 0) (n1 : m.dst ≠ 1) : ∀ d i j, i + d = p.reps.length -> d < j -> LGv M j (SGv p m (i : Nat)) = some (.agg (encPB (giveR m d i p))) := by
 have hl := h.rl
 intro d
 induction d with
 | zero =>
  intro i j hi hj
  obtain ⟨j, rfl⟩ : ∃ k, j = k + 1 := ⟨j - 1, by omega⟩
  rw [give_st, decide_eq_false (by omega), cond_false]; rfl
 | succ d ih =>
  intro i j hi hj
  obtain ⟨j, rfl⟩ : ∃ k, j = k + 1 := ⟨j - 1, by omega⟩
  have hil : i < p.reps.length := by omega
  rw [give_st, decide_eq_true (by omega), cond_true, rg_eq hil, Int.toNat_natCast, wrapS (by omega), ih (i + 1) j (by omega) (by omega)]
  show (bif decide ((rpB p i).self.node = m.dst) then gvHit p m (i : Nat) else _) = some (.agg (encPB (bif decide ((rpB p i).self.node = m.dst) then _ else _)))
  cases hd : decide ((rpB p i).self.node = m.dst) with
  | false => rfl
  | true =>
   obtain ⟨a1, a2, a3⟩ := h.d2 i hil (of_decide_eq_true hd) n0 n1
   exact hit_eq hil hl h.way a1 a2 a3
structure GX3 where
 p : PlayB
 c : CConf
 m : Msg
def encGX3 (x : GX3) : List AV := [.agg (encPB x.p), .agg (encCf x.c), .agg (encMsg x.m)]
def decGX3 (a : List AV) : GX3 := ⟨decPB (argC a 0), decCf (argC a 1), decMsg (argC a 2)⟩
theorem give_con (x : GX3) (h : GvOk x.p x.c x.m) : Contract PG F_lockgatelaw21_give (encGX3 x) [] (.agg (encPB (giveB x.c x.p x.m))) [] := by
 obtain ⟨p, c, m⟩ := x
 have h : GvOk p c m := h
 have e := give_eq (p.reps.length + 1) p c m
 have hw := h.way
 show Contract PG _ (encGX3 ⟨p, c, m⟩) [] (.agg (encPB (giveB c p m))) []
 unfold giveB
 cases h0 : decide (m.dst = 0) with
 | true =>
  obtain ⟨ep, hm⟩ := h.d0 (of_decide_eq_true h0)
  subst hm
  have q0 : ∀ K : Int × Int -> Option AV, gC dD10 (fun _ => True) eD10 [stV p.fe, .agg (encMsg (fenMg ep))] K = K (p.fe, ep) := fun K => gC_eq (p.fe, ep) rfl trivial (.refl _)
  have q1 : ∀ K : PlayB × List Msg -> Option AV, gC dLay pLay eLay [.agg (encPB { p with fe := maxI p.fe ep }), .trl 31 [encMsg (fncMg (maxI p.fe ep))]] K = K ({ p with fe := maxI p.fe ep }, [fncMg (maxI p.fe ep)]) := fun K =>
   qLay (by show p.way.length <= 100000; omega) (by simp) (Prod.ext (dec_encPB _) (by show [decMsg (encMsg (fncMg (maxI p.fe ep)))] = _; rw [dec_encMsg])) (.cons (.refl _) (.cons (SubV.trl_encL (e := encMsg) (z := default) [fncMg (maxI p.fe ep)]) .nil))
  rw [h0, cond_true, q0] at e
  dsimp only at e
  rw [q1] at e
  exact con72 e
 | false =>
  have n0 := of_decide_eq_false h0
  rw [h0, cond_false] at e
  rw [cond_false]
  cases h1 : decide (m.dst = 1) with
  | true =>
   obtain ⟨a1, a2⟩ := h.d1 (of_decide_eq_true h1)
   have q1 : ∀ K : PlayB × List Msg -> Option AV, gC dLay pLay eLay [.agg (encPB { p with b := (hdS (p.b.es c) m).1.bu }), encMsgs (hdS (p.b.es c) m).2] K = K ({ p with b := (hdS (p.b.es c) m).1.bu }, (hdS (p.b.es c) m).2) := fun K =>
    qLay (by show p.way.length <= 100000; omega) (by omega) (Prod.ext (dec_encPB _) (decMsgs _)) (.refl _)
   rw [h1, cond_true, qHd a1] at e
   dsimp only at e
   rw [q1] at e
   exact con72 e
  | false =>
   have n1 := of_decide_eq_false h1
   have r := give_run (M := p.reps.length + 1) h n0 n1 p.reps.length 0 (p.reps.length + 1) (by omega) (by omega)
   rw [Int.natCast_zero] at r
   rw [h1, cond_false, r] at e
   exact con72 e
def kGive : Known := .spec F_lockgatelaw21_give decGX3 (fun x => GvOk x.p x.c x.m) encGX3 (fun x => .agg (encPB (giveB x.c x.p x.m)))
theorem kGive_ok : kGive.Ok PG := Known.spec_ok give_con
def kns74 : List Known := [kGive, kLay, kTick, kOpen, kBeat, kAgain, kCNew, kPush2, kREntry, kNext]
theorem kns74_ok : ∀ k ∈ kns74, k.Ok PG := ak kGive_ok (ak kLay_ok (ak kTick_ok (ak kOpen_ok (ak kBeat_ok (ak kAgain_ok (ak kCNew_ok (ak kPush2_ok (ak kREntry_ok (ak kNext_ok ank)))))))))
theorem con74 {n f : Nat} {xs : List AV} {r : AV} (e : callT (envO kns74) n f xs = some r) : Contract PG f xs [] r [] := con_of (md := fun _ => none) kns74_ok e
def slK {R : Type} (i n : Int) (k : Option R) : Option R := bif decide (0 <= i) && decide (i <= n) then k else none
def nz {R : Type} (n : Int) (k : Option R) : Option R := bif decide (n = 0) then none else k
def tmI (i n : Int) : Int := (IntKind.i64.wrap i).tmod n
def room {R : Type} (n b : Nat) (k : Option R) : Option R := bif Nat.ble (n * b) 140737488355328 && Nat.ble n 140737488355328 then k else none
def subF (w : List Msg) (o n : Nat) : Nat -> List AV := fun i => bif Nat.blt i n then encMsg (w.getD (o + i) default) else encMsg (w.getD w.length default)
def takW (w : List Msg) (t : Int) (E : Option AV) (S : Nat -> (Nat -> List AV) -> Option AV) : Option AV :=
 nz w.length <| slK t w.length <| room (0 + t.toNat) 392 <| bif Nat.beq t.toNat 0 then
  nz w.length <| slK (IntKind.i64.wrap (t + 1)) w.length <| room (0 + (w.length - (IntKind.i64.wrap (t + 1)).toNat)) 392 <| bif Nat.beq (w.length - (IntKind.i64.wrap (t + 1)).toNat) 0 then E else S (w.length - (IntKind.i64.wrap (t + 1)).toNat) (subF w (IntKind.i64.wrap (t + 1)).toNat (w.length - (IntKind.i64.wrap (t + 1)).toNat))
 else nz w.length <| slK (IntKind.i64.wrap (t + 1)) w.length <| bif Nat.beq t.toNat 0 || Nat.ble t.toNat t.toNat then room (t.toNat + (w.length - (IntKind.i64.wrap (t + 1)).toNat)) 392 <|
  bif Nat.beq (w.length - (IntKind.i64.wrap (t + 1)).toNat) 0 then S t.toNat (subF w 0 t.toNat) else S (t.toNat + (w.length - (IntKind.i64.wrap (t + 1)).toNat)) (appF t.toNat (subF w 0 t.toNat) (w.length - (IntKind.i64.wrap (t + 1)).toNat) (subF w (IntKind.i64.wrap (t + 1)).toNat (w.length - (IntKind.i64.wrap (t + 1)).toNat)))
  else none
def gW2 (n : Nat) (k : Option AV) : Option AV := bif (Nat.beq n 0 || Nat.ble n n) && true && true then k else none
theorem gW2_eq {n : Nat} {k : Option AV} : gW2 n k = k := by unfold gW2; rw [orU]; rfl
def outL (y : PlayB × List Msg) : Option AV := some (.agg (encPB (layB y.1 y.2)))
def dupL (p : PlayB) (x : Msg) : Option AV := gC dLay pLay eLay [.agg (encPB p), .trl 31 [encMsg x]] outL
def gvL (p : PlayB) (c : CConf) (x : Msg) (W : AV) : Option AV := gC decGX3 (fun x => GvOk x.p x.c x.m) encGX3 [plB p W, .agg (encCf c), .agg (encMsg x)] fun y => some (.agg (encPB (giveB y.c y.p y.m)))
def wayK (p : PlayB) (c : CConf) (K i : Int) : Option AV :=
 bif decide ((p.way.length : Int) = 0) then some (.agg (encPB p)) else nz p.way.length <| rg (tmI i p.way.length) p.way.length <|
  bif decide (K = 5) then dupL p (p.way.getD (tmI i p.way.length).toNat default) else
  takW p.way (tmI i p.way.length)
   (bif decide (K = 4) then some (plB p (.trl 31 [])) else gvL p c (p.way.getD (tmI i p.way.length).toNat default) (.trl 31 []))
   (fun n f => bif decide (K = 4) then gW n <| some (plB p (.tr 31 n f)) else gW2 n <| gvL p c (p.way.getD (tmI i p.way.length).toNat default) (.tr 31 n f))
def tickK (p : PlayB) (c : CConf) : Option AV := gC decBC2 (fun x => KOk (x.b.es x.c)) encBC2 [.agg (encBu p.b), .agg (encCf c)] fun y => gC dLay pLay eLay [.agg (encPB { p with b := (tickQ (y.b.es y.c)).1.bu }), encMsgs (tickQ (y.b.es y.c)).2] outL
def openK (p : PlayB) : Option AV := gC (fun a => decBk (argC a 0)) (fun k => k.p.chain.length <= 1000 /\ k.p.valid.length <= 1000) (fun k => [.agg (encBk k)]) [.agg [.int .i64 p.b.e, .int .i64 p.b.g, .trl 8 [encPlan p.b.p]]] fun y => some (.agg (encPB { p with b := openB y }))
def resC (n : Int) : List AV := [.int .i64 21, .int .i64 100, .int .i64 1, .int .i64 0, .int .i64 0, .int .i64 0, .int .i64 0, .int .i64 0, .int .i64 0, .int .i64 n, .int .i64 0, .int .i64 0, .bool false, .bool false, .str [], .str [], .cplx .f64 0 0, .cplx .f64 0 0, .int .i64 0, .str [], .str [], .str [], .bool false, .nils, .nils, .nils, .cplx .f64 0 0, .cplx .f64 0 0, .int .i64 0, .nils, .nils]
def resK (p : PlayB) : Option AV := gC dLay pLay eLay [.agg (encPB { p with reset := IntKind.i64.wrap (p.reset + 1) }), .trl 31 [resC (IntKind.i64.wrap (p.reset + 1))]] outL
def beatK (p : PlayB) (t : Int) : Option AV := gC (fun a => decRep (argC a 0)) (fun _ => True) (fun r => [.agg (encRep r)]) [.agg (encRep (p.reps.getD t.toNat default))] fun y0 => gC dLay pLay eLay [.agg (encPB p), .trl 31 [encMsg (beatMg y0)]] fun y1 =>
 gC dRep1 RepAg eRep1 [.agg (encRep (p.reps.getD t.toNat default))] fun y2 => gC dLay pLay eLay [.agg (encPB (layB y1.1 y1.2)), encMsgs (againP y2)] outL
def SPu (p : PlayB) (n : Nat) (f : Nat -> List AV) (j : Int) : St := { fr := [(3, .ptr 0 0 0), (6, .ptr 2 0 0), (15, .int .i64 j)], hp := [.arr true 12 [plR p (.sl 15 1 0 n 0)], .seq true 15 n f, .arr true 12 [zPB]] }
def SPe (p : PlayB) : St := { fr := [(3, .ptr 0 0 0), (6, .ptr 2 0 0), (15, .int .i64 0)], hp := [.arr true 12 [plR p (.sl 15 1 0 0 0)], .arr true 15 [], .arr true 12 [zPB]] }
def LPu (N j : Nat) (S : St) : Option AV := LP (envO kns74) N 0 F_lockgatelaw21_do snK 0 [] j S
def ro {R : Type} (n : Nat) (E K : Option R) : Option R := bif Nat.ble ((0 + n) * 208) 140737488355328 && Nat.ble (0 + n) 140737488355328 then bif Nat.beq n 0 then E else K else none
def cnG (p : PlayB) (t : Int) (K : Member -> Option AV) : Option AV := gC (fun a => decMember (argC a 1)) (fun _ => True) (fun m => [.int .i64 0, .agg (encMember m)]) [.int .i64 0, .agg [.int .i64 (p.reps.getD t.toNat default).self.node, .int .i64 (IntKind.i64.wrap ((p.reps.getD t.toNat default).self.boot + 1))]] K
def ix {R : Type} (i : Int) (n : Nat) (K : Option R) : Option R := rg i n <| bif (0 + i.toNat).blt n then K else none
def pshG (r : Rep) (K : RE -> Option AV) : Option AV := gC dVI pVI eVI [eV r.tail.last, .int .i64 r.view.epoch] fun y4 => gC dV1 VNum eV1 [eV (vr y4.2 (nu y4.1 + 1))] fun y5 => gC dRE pRE2 eRE [.agg (encRep r), .agg (encEntry (entP y5))] K
theorem pu_st (N j : Nat) (p : PlayB) (n : Nat) (g : Nat -> Rep) (i : Int) : LPu N (j + 1) (SPu p n (fun k => encRep (g k)) i) =
 bif decide (i < (n : Int)) then ix i n <| ix i n <| ix i n <| pshG (g (0 + i.toNat)) fun y => bif (headPush y).2 then rg i n <| bif (0 + i.toNat).blt n && true then
   LPu N j (SPu p n (fun k => bif k.beq (0 + i.toNat) then encRep (headPush y).1 else encRep (g k)) (IntKind.i64.wrap (i + 1))) else none
  else LPu N j (SPu p n (fun k => encRep (g k)) (IntKind.i64.wrap (i + 1)))
 else bif (n.beq 0 || (n + 0).ble n) && true then some (.agg (plR p (.tr 15 n fun k => encRep (g k)))) else none := by kernel_rfl
def doK (N : Nat) (p : PlayB) (c : CConf) (K i : Int) : Option AV :=
 bif decide (K <= 5) then wayK p c K i else bif decide (K = 6) then tickK p c else bif decide (K = 10) then openK p else bif decide (K = 11) then resK p else
 nz p.reps.length <| rg (tmI i p.reps.length) p.reps.length <| bif decide (K = 7) then beatK p (tmI i p.reps.length) else
  ro p.reps.length (bif decide (K = 8) then cnG p (tmI i p.reps.length) fun _ => bif decide (0 <= tmI i p.reps.length) && decide (tmI i p.reps.length < ((0 : Nat) : Int)) then none else none else LPu N N (SPe p))
   (bif decide (K = 8) then cnG p (tmI i p.reps.length) fun y => rg (tmI i p.reps.length) p.reps.length <| bif Nat.blt (0 + (tmI i p.reps.length).toNat) p.reps.length && true then bif (Nat.beq p.reps.length 0 || Nat.ble p.reps.length p.reps.length) && true then some (.agg (plR p (setRs p.reps (tmI i p.reps.length).toNat (rep0 y)))) else none else none
    else LPu N N (SPu p p.reps.length (fun k => encRep (p.reps.getD k default)) 0))
theorem do_eq (N : Nat) (p : PlayB) (c : CConf) (kd i : Int) : callT (envO kns74) (N + 1) F_lockgatelaw21_do [.agg (encPB p), .agg (encCf c), .agg [.int .u8 kd, .int .u8 i]] = doK N p c (tmI kd 12) i := by kernel_rfl
end Go.Wk
end
noncomputable section
open Go Go.AM Go.Md Go.Fl
namespace Go.Wk
set_option maxRecDepth 100000
set_option maxHeartbeats 400000
def ToIs (r : Rep) (x : Msg) : Prop := KindW x /\ 2 <= x.dst /\ x.src = r.self.node
theorem acks_to {E : Int} {N : Nat} {r : Rep} (h : RepIs E N r) : ∀ x ∈ acksP r, ToIs r x := by
 intro x hx
 have hk := acks_kind r x hx
 unfold acksP at hx
 split at hx
 ·cases hx
 ·rename_i m hs
  simp only [List.mem_singleton] at hx
  subst hx
  exact ⟨hk, (h.chain.2.2 _ (sideP_mem hs)).1, rfl⟩
theorem forws_to {E : Int} {N : Nat} {r : Rep} (h : RepIs E N r) : ∀ x ∈ forwsP r, ToIs r x := by
 intro x hx
 have hk := forws_kind r x hx
 unfold forwsP at hx
 split at hx
 ·cases hx
 ·rename_i m hs
  simp only [List.mem_singleton] at hx
  subst hx
  exact ⟨hk, (h.chain.2.2 _ (sideP_mem hs)).1, rfl⟩
theorem insts_to (r : Rep) : ∀ (l : List Member) (s : List Bool), (∀ m ∈ l, MemIs m) -> ∀ x ∈ instsP r l s, ToIs r x
 | [], s, _ => fun m hm => by simp [instsP] at hm
 | a :: l, [], _ => fun m hm => by simp [instsP] at hm
 | a :: l, b :: s, hl => fun m hm => by
  have ih := insts_to r l s (fun m hm => hl m (List.mem_cons_of_mem _ hm))
  unfold instsP at hm
  cases b with
  | true => exact ih m hm
  | false =>
   rw [cond_false] at hm
   rcases List.mem_cons.1 hm with e | e
   ·subst e; exact ⟨.inr (.inl rfl), (hl a (List.mem_cons_self ..)).1, rfl⟩
   ·exact ih m e
theorem again_to {E : Int} {N : Nat} {r : Rep} (h : RepIs E N r) : ∀ x ∈ againP r, ToIs r x := by
 intro m hm
 unfold againP at hm
 cases h1 : syncsP r with
 | true => rw [h1] at hm; exact insts_to r _ _ h.chain.2.2 m hm
 | false =>
  rw [h1, cond_false] at hm
  cases h2 : worksP r with
  | true =>
   rw [h2, cond_true] at hm
   rcases List.mem_append.1 hm with e | e
   ·exact forws_to h m e
   ·exact acks_to h m e
  | false => rw [h2] at hm; cases hm
def HdOut (r : Rep) (x : Msg) : Prop := (x.kind = 9 /\ x.dst = 1) \/ (KindW x /\ 2 <= x.dst /\ x.src = r.self.node)
theorem hand_to {E : Int} {N : Nat} {r : Rep} {m : Msg} (h : RepIs E N r) (hm : MsgIs E N m) (hEN : E <= N) (h8 : m.kind = 8 -> m.src = 1) (h11 : m.kind = 11 -> 2 <= m.src) : ∀ x ∈ (handP r m).2, HdOut r x := by
 intro x hx
 unfold handP at hx
 cases ht : toMe r m with
 | false => rw [ht] at hx; cases hx
 | true =>
  rw [ht, cond_true] at hx
  unfold handK at hx
  cases e8 : decide (m.kind = 8) with
  | true =>
   rw [e8, cond_true] at hx
   unfold freezeP at hx
   cases ha : aboveP r m with
   | false => rw [ha] at hx; cases hx
   | true =>
    rw [ha] at hx
    simp only [cond_true, List.mem_singleton] at hx
    subst hx
    exact .inl ⟨rfl, h8 (of_decide_eq_true e8)⟩
  | false =>
  rw [e8, cond_false] at hx
  right
  cases e10 : decide (m.kind = 10) with
  | true =>
   rw [e10, cond_true] at hx
   unfold actP at hx
   cases hg : actG r m with
   | false => rw [hg] at hx; cases hx
   | true =>
    rw [hg] at hx
    have hf : isFirst m.chain r.self = true := by unfold actG at hg; exact (and_true' (and_true' hg).2).1
    have hr := actR_is h hm hEN hf
    exact again_to hr x hx
  | false =>
  rw [e10, cond_false] at hx
  cases e11 : decide (m.kind = 11) with
  | true =>
   rw [e11, cond_true] at hx
   unfold insP at hx
   cases hi : decide (0 < idx m.chain r.self) with
   | false => rw [hi] at hx; cases hx
   | true =>
    have hself : (insR r m).self = r.self := by unfold insR; cases aboveP r m <;> rfl
    rw [hi] at hx
    simp only [cond_true] at hx
    cases hc : liveP (insR r m) && decide (m.epoch = (insR r m).view.epoch) with
    | false => rw [hc] at hx; cases hx
    | true =>
     rw [hc] at hx
     simp only [cond_true, List.mem_singleton] at hx
     subst hx
     exact ⟨.inr (.inr (.inl rfl)), h11 (of_decide_eq_true e11), by show (insR r m).self.node = _; rw [hself]⟩
  | false =>
  rw [e11, cond_false] at hx
  cases e12 : decide (m.kind = 12) with
  | true =>
   rw [e12, cond_true] at hx
   unfold indP at hx
   cases hc : syncsP r && (decide (m.epoch = r.view.epoch) && decide (0 <= idx r.view.chain (who m))) with
   | false => rw [hc] at hx; cases hx
   | true => rw [hc] at hx; cases hx
  | false =>
  rw [e12, cond_false] at hx
  cases e13 : decide (m.kind = 13) with
  | true =>
   rw [e13, cond_true] at hx
   unfold fwdP at hx
   cases hc : nextG r m (-1) with
   | false => rw [hc] at hx; cases hx
   | true =>
    rw [hc] at hx
    have := again_to (fwdR_is h hm) x hx
    exact ⟨this.1, this.2.1, by rw [this.2.2, (fwdR_self r m).self]⟩
  | false =>
  rw [e13, cond_false] at hx
  cases e14 : decide (m.kind = 14) with
  | true =>
   rw [e14, cond_true] at hx
   unfold ackP at hx
   cases hc : nextG r m 1 with
   | false => rw [hc] at hx; cases hx
   | true =>
    rw [hc] at hx
    have := acks_to (ackR_is h hm) x hx
    exact ⟨this.1, this.2.1, by rw [this.2.2]; unfold ackR; cases vlt r.tail.last m.ver <;> rfl⟩
  | false => rw [e14] at hx; cases hx
def resMg (n : Int) : Msg := { msgZ with kind := 21, src := 100, dst := 1, num := n }
inductive WyM (N : Nat) : Msg -> Prop
 | fence (ep : Int) : WyM N (fenMg ep)
 | fenced (ep : Int) : WyM N (fncMg ep)
 | beat (r : Rep) (h : MemIs r.self) (h1 : r.self.boot <= N) : WyM N (beatMg r)
 | froze (m : Msg) (h : MsgIs N N m) (hk : m.kind = 9) (hd : m.dst = 1) : WyM N m
 | reset (n : Int) : WyM N (resMg n)
 | chain (m : Msg) (h : MsgIs N N m) (hk : Kinds m) (hd : 2 <= m.dst) (h8 : m.kind = 8 -> m.src = 1) (h11 : m.kind = 11 -> 2 <= m.src) : WyM N m
 | was (a : Ask) (h : a.1 = 100) : WyM N (wasMg a)
theorem WyM.mono {N M : Nat} {m : Msg} (h : WyM N m) (hm : N <= M) : WyM M m := by
 cases h with
 | fence ep => exact .fence ep
 | fenced ep => exact .fenced ep
 | beat r h h1 => exact .beat r h (by omega)
 | froze _ h hk hd => exact .froze m (h.mono (by omega) hm) hk hd
 | reset n => exact .reset n
 | chain _ h hk hd h8 h11 => exact .chain m (h.mono (by omega) hm) hk hd h8 h11
 | was a h => exact .was a h
theorem KindW.kinds {m : Msg} (h : KindW m) : Kinds m := .inr h
theorem KindW.n8 {m : Msg} (h : KindW m) : m.kind ≠ 8 := by
 rcases h with h | h | h | h | h <;> rw [h] <;> decide
theorem WyM.to {N : Nat} {r : Rep} {x : Msg} (h : ToIs r x) (hr : MemIs r.self) (hx : MsgIs N N x) : WyM N x :=
 .chain x hx h.1.kinds h.2.1 (fun e => absurd e h.1.n8) (fun _ => by rw [h.2.2]; exact hr.1)
theorem WyM.hd {N : Nat} {r : Rep} {x : Msg} (h : HdOut r x) (hr : MemIs r.self) (hx : MsgIs N N x) : WyM N x := by
 rcases h with ⟨h1, h2⟩ | h
 ·exact .froze x hx h1 h2
 ·exact .to h hr hx
theorem MsgIs.cp {E : Int} {N : Nat} {m : Msg} (h : MsgIs E N m) (hN : N <= 1000) : CpOk m := by
 have h1 := h.elen
 have h2 := h.chain.1
 have h3 := h.img.len
 have h4 := (h.img.la.le hN).2
 have h5 := h.iseen.1
 have h3 : m.image.log.length <= nu m.image.last := h3
 have h4 : nu m.image.last <= N := h4
 exact ⟨by unfold shortL LB; omega, by unfold shortL LB; omega, h.views, by unfold shortL LB; omega, by unfold shortL LB; omega⟩
def MemL (l : List Member) : Prop := l.length <= 3 /\ l.Nodup /\ ∀ m ∈ l, MemIs m
theorem MemL.nil : MemL [] := ⟨Nat.zero_le _, List.nodup_nil, fun m hm => by cases hm⟩
theorem MemL.chain {l : List Member} (h : MemL l) : ChainIs l := ⟨by have := h.1; omega, h.2.1, h.2.2⟩
theorem isM_eq {m x : Member} : isM m x = true ↔ x = m := by
 obtain ⟨a, b⟩ := m
 obtain ⟨c, d⟩ := x
 unfold isM
 simp
theorem dropM_sub (m : Member) : ∀ l, (dropM m l).Sublist l
 | [] => .slnil
 | x :: r => by
  unfold dropM
  cases isM m x with
  | true => exact List.sublist_cons_self x r
  | false => exact (dropM_sub m r).cons_cons x
theorem dropM_not {m : Member} : ∀ {l : List Member}, l.Nodup -> m ∉ dropM m l
 | [], _ => by unfold dropM; simp
 | x :: r, h => by
  have h2 := List.nodup_cons.1 h
  unfold dropM
  cases hx : isM m x with
  | true =>
   have := isM_eq.1 hx
   subst this; exact h2.1
  | false =>
   rw [cond_false]
   intro hm
   rcases List.mem_cons.1 hm with e | e
   ·rw [isM_eq.2 e.symm] at hx; cases hx
   ·exact dropM_not h2.2 e
theorem dropM_lenA {m : Member} : ∀ {l : List Member}, l.any (isM m) = true -> (dropM m l).length + 1 = l.length
 | [], h => by simp at h
 | x :: r, h => by
  unfold dropM
  cases hx : isM m x with
  | true => simp
  | false =>
   rw [List.any_cons, hx, Bool.false_or] at h
   have := dropM_lenA h
   simp only [cond_false, List.length_cons]; omega
theorem leadP_is {l : List Member} {m : Member} (h : MemL l) : MemL (leadP l m) := by
 unfold leadP
 cases ha : l.any (isM m) with
 | false => exact h
 | true =>
  obtain ⟨x, hx, hm⟩ := List.any_eq_true.1 ha
  have := isM_eq.1 hm
  subst this
  have hd := dropM_lenA ha
  exact ⟨by have := h.1; simp only [cond_true, List.length_cons]; omega, List.nodup_cons.2 ⟨dropM_not h.2.1, (dropM_sub _ _).nodup h.2.1⟩, fun y hy => by
   rcases List.mem_cons.1 hy with e | e
   ·subst e; exact h.2.2 _ hx
   ·exact h.2.2 _ ((dropM_sub _ _).subset e)⟩
theorem chainL_is (keep : List Member) (c : Int) : ∀ (up out : List Member), up.Nodup -> (∀ m ∈ up, MemIs m) -> out.Nodup -> (∀ m ∈ out, MemIs m) -> (∀ m ∈ up, m ∈ out -> hasNode keep m.node = true) -> (chainL keep c up out).Nodup /\ ∀ m ∈ chainL keep c up out, MemIs m
 | [], out, _, _, h3, h4, _ => ⟨h3, h4⟩
 | m :: r, out, h1, h2, h3, h4, h5 => by
  obtain ⟨n1, n2⟩ := List.nodup_cons.1 h1
  unfold chainL
  cases decide (c <= (out.length : Int)) with
  | true => exact ⟨h3, h4⟩
  | false =>
   rw [cond_false]
   cases hk : hasNode keep m.node with
   | true => exact chainL_is keep c r out n2 (fun x hx => h2 x (List.mem_cons_of_mem _ hx)) h3 h4 (fun x hx => h5 x (List.mem_cons_of_mem _ hx))
   | false =>
    rw [cond_false]
    have hm : m ∉ out := fun e => by
     have := h5 m (List.mem_cons_self ..) e
     rw [hk] at this; cases this
    refine chainL_is keep c r (out ++ [m]) n2 (fun x hx => h2 x (List.mem_cons_of_mem _ hx)) ?_ ?_ ?_
    ·exact List.nodup_append.2 ⟨h3, by simp, fun a ha b hb => by
      have : b = m := by simpa using hb
      subst this
      exact fun e => hm (e ▸ ha)⟩
    ·intro x hx
     rcases List.mem_append.1 hx with e | e
     ·exact h4 x e
     ·have : x = m := by simpa using e
      subst this; exact h2 _ (List.mem_cons_self ..)
    ·intro x hx hxo
     rcases List.mem_append.1 hxo with e | e
     ·exact h5 x (List.mem_cons_of_mem _ hx) e
     ·have : x = m := by simpa using e
      subst this; exact absurd hx n1
theorem hasNode_mem {l : List Member} {m : Member} (h : m ∈ l) : hasNode l m.node = true := List.any_eq_true.2 ⟨m, h, decide_eq_true rfl⟩
theorem chainP_is {keep up : List Member} {c : Int} (hk : MemL keep) (hu : up.Nodup) (hm : ∀ m ∈ up, MemIs m) (hc : c <= 3) : MemL (chainP keep up c) := by
 have := chainL_is keep c up keep hu hm hk.2.1 hk.2.2 (fun m _ h => hasNode_mem h)
 exact ⟨chainL_len keep c up keep 3 hk.1 (by omega), this.1, this.2⟩
structure NsIs (N : Nat) (ns : List Alive) : Prop where
 len : ns.length <= N
 srt : ns.Pairwise fun a b => a.member.node < b.member.node
 mem : ∀ a ∈ ns, MemIs a.member
 mis : ∀ a ∈ ns, 0 <= a.missed /\ a.missed <= N
theorem upP_nodup {ns : List Alive} {s : Int} (h : ns.Pairwise fun a b => a.member.node < b.member.node) : (upP ns s).Nodup := by
 unfold upP
 refine List.Pairwise.filterMap _ (R := fun a b : Alive => a.member.node < b.member.node) (fun a b hab x hx y hy => ?_) h
 cases ha : decide (a.missed <= s) with
 | false => rw [ha] at hx; simp at hx
 | true =>
  cases hb : decide (b.missed <= s) with
  | false => rw [hb] at hy; simp at hy
  | true =>
   rw [ha] at hx; rw [hb] at hy
   simp at hx hy
   subst hx hy
   intro e
   rw [e] at hab
   omega
theorem upP_mem {ns : List Alive} {s : Int} {m : Member} (h : m ∈ upP ns s) : ∃ a ∈ ns, a.member = m := by
 obtain ⟨a, ha, he⟩ := List.mem_filterMap.1 h
 refine ⟨a, ha, ?_⟩
 cases hb : decide (a.missed <= s) with
 | false => rw [hb] at he; simp at he
 | true => rw [hb] at he; simpa using he
theorem srt_at {ns : List Alive} (h : ns.Pairwise fun a b => a.member.node < b.member.node) {i j : Nat} (hij : i < j) (hj : j < ns.length) : nodeAt ns i < nodeAt ns j := by
 have := List.pairwise_iff_getElem.1 h i j (by omega) hj hij
 unfold nodeAt
 simpa [List.getD, List.getElem?_eq_getElem hj, List.getElem?_eq_getElem (show i < ns.length by omega)] using this
theorem bsL_ok {ns : List Alive} {t : Int} (h : ns.Pairwise fun a b => a.member.node < b.member.node) : ∀ (k i j : Nat), j - i < k -> i <= j -> j <= ns.length -> (∀ q, q < i -> nodeAt ns q < t) -> (∀ q, j <= q -> q < ns.length -> t <= nodeAt ns q) ->
  (∀ q, q < bsL ns t k i j -> nodeAt ns q < t) /\ (∀ q, bsL ns t k i j <= q -> q < ns.length -> t <= nodeAt ns q)
 | 0, i, j, hk, _, _, _, _ => by omega
 | k + 1, i, j, hk, hij, hj, h1, h2 => by
  unfold bsL
  by_cases hlt : i < j
  ·rw [decide_eq_true hlt, cond_true]
   cases hd : decide (nodeAt ns ((i + j) / 2) < t) with
   | true =>
    have hd := of_decide_eq_true hd
    refine bsL_ok h k _ _ (by omega) (by omega) hj (fun q hq => ?_) h2
    by_cases e : q = (i + j) / 2
    ·rw [e]; exact hd
    ·have := srt_at h (i := q) (j := (i + j) / 2) (by omega) (by omega)
     omega
   | false =>
    have hd := of_decide_eq_false hd
    refine bsL_ok h k _ _ (by omega) (by omega) (by omega) h1 (fun q hq hql => ?_)
    by_cases e : q = (i + j) / 2
    ·rw [e]; omega
    ·have := srt_at h (i := (i + j) / 2) (j := q) (by omega) hql
     omega
  ·rw [decide_eq_false hlt, cond_false]
   have : i = j := by omega
   subst this
   exact ⟨h1, h2⟩
theorem bsP_ok {ns : List Alive} {t : Int} (h : ns.Pairwise fun a b => a.member.node < b.member.node) : (∀ q, q < bsP ns t -> nodeAt ns q < t) /\ (∀ q, bsP ns t <= q -> q < ns.length -> t <= nodeAt ns q) :=
 bsL_ok h (ns.length + 1) 0 ns.length (by omega) (by omega) (by omega) (fun q hq => by omega) (fun q hq hq2 => by omega)
theorem putNs_is {N : Nat} {ns : List Alive} {m : Msg} (h : NsIs N ns) (hm : MemIs ⟨m.src, m.sboot⟩) : NsIs (N + 1) (putNs ns m) := by
 obtain ⟨b1, b2⟩ := bsP_ok (t := m.src) h.srt
 have hle := bsP_le ns m.src
 have hA : MemIs (alM m).member := hm
 have hmis : 0 <= (alM m).missed /\ (alM m).missed <= ((N + 1 : Nat) : Int) := by show (0 : Int) <= 0 /\ (0 : Int) <= _; omega
 have hold : ∀ a ∈ ns, 0 <= a.missed /\ a.missed <= ((N + 1 : Nat) : Int) := fun a ha => by have := h.mis a ha; omega
 unfold putNs
 cases hi : isAt ns m.src (bsP ns m.src) with
 | true =>
  rw [cond_true]
  unfold isAt at hi
  rw [Bool.and_eq_true, Bool.and_eq_true] at hi
  have hlt : bsP ns m.src < ns.length := of_decide_eq_true hi.1
  have e1 : ¬ nodeAt ns (bsP ns m.src) < m.src := by simpa using hi.2.1
  have e2 : ¬ m.src < nodeAt ns (bsP ns m.src) := by simpa using hi.2.2
  have e : nodeAt ns (bsP ns m.src) = m.src := by omega
  have hmem : ∀ a ∈ ns.set (bsP ns m.src) (alM m), a ∈ ns \/ a = alM m := fun a ha => List.mem_or_eq_of_mem_set ha
  refine ⟨by rw [List.length_set]; have := h.len; omega, ?_, fun a ha => ?_, fun a ha => ?_⟩
  ·refine List.pairwise_iff_getElem.2 fun i j hi hj hij => ?_
   have hi' : i < ns.length := by simpa using hi
   have hj' : j < ns.length := by simpa using hj
   have hn : ∀ q (hq : q < (ns.set (bsP ns m.src) (alM m)).length) (hq' : q < ns.length), ((ns.set (bsP ns m.src) (alM m))[q]).member.node = nodeAt ns q := by
    intro q hq hq'
    rw [List.getElem_set]
    by_cases hx : bsP ns m.src = q
    ·rw [if_pos hx, <- hx, e]; rfl
    ·rw [if_neg hx]; unfold nodeAt; simp [List.getD, List.getElem?_eq_getElem hq']
   rw [hn i hi hi', hn j hj hj']
   exact srt_at h.srt hij hj'
  ·rcases hmem a ha with x | x
   ·exact h.mem a x
   ·subst x; exact hA
  ·rcases hmem a ha with x | x
   ·exact hold a x
   ·subst x; exact hmis
 | false =>
  rw [cond_false]
  have hlow : ∀ a ∈ ns.take (bsP ns m.src), a.member.node < m.src := by
   intro a ha
   obtain ⟨q, hq, he⟩ := List.getElem_of_mem ha
   have hq1 : q < bsP ns m.src := by simp at hq; omega
   have hq2 : q < ns.length := by simp at hq; omega
   have := b1 q hq1
   unfold nodeAt at this
   rw [<- he]
   simpa [List.getD, List.getElem?_eq_getElem hq2] using this
  have hhigh : ∀ a ∈ ns.drop (bsP ns m.src), m.src < a.member.node := by
   intro a ha
   obtain ⟨q, hq, he⟩ := List.getElem_of_mem ha
   have hq2 : bsP ns m.src + q < ns.length := by simp at hq; omega
   have h1 := b2 (bsP ns m.src + q) (by omega) hq2
   have hne : nodeAt ns (bsP ns m.src + q) ≠ m.src := by
    intro e
    by_cases hq0 : q = 0
    ·subst hq0
     have hlt : bsP ns m.src < ns.length := by omega
     have : isAt ns m.src (bsP ns m.src) = true := by
      unfold isAt
      rw [Nat.add_zero] at e
      rw [decide_eq_true hlt, e, decide_eq_false (by omega)]; rfl
     rw [this] at hi; cases hi
    ·have h2 := b2 (bsP ns m.src) (Nat.le_refl _) (by omega)
     have h3 := srt_at h.srt (i := bsP ns m.src) (j := bsP ns m.src + q) (by omega) hq2
     omega
   have h4 : nodeAt ns (bsP ns m.src + q) = a.member.node := by
    rw [<- he]
    unfold nodeAt
    simp [List.getD, List.getElem?_eq_getElem hq2]
   omega
  have hmem : ∀ a ∈ insL ns (bsP ns m.src) (alM m), a ∈ ns \/ a = alM m := by
   intro a ha
   unfold insL at ha
   rcases List.mem_append.1 ha with x | x
   ·exact .inl (List.mem_of_mem_take x)
   ·rcases List.mem_cons.1 x with x | x
    ·exact .inr x
    ·exact .inl (List.mem_of_mem_drop x)
  refine ⟨by rw [insL_len hle]; have := h.len; omega, ?_, fun a ha => ?_, fun a ha => ?_⟩
  ·unfold insL
   refine List.pairwise_append.2 ⟨h.srt.sublist (List.take_sublist _ _), List.pairwise_cons.2 ⟨hhigh, h.srt.sublist (List.drop_sublist _ _)⟩, fun a ha b hb => ?_⟩
   have h1 := hlow a ha
   rcases List.mem_cons.1 hb with x | x
   ·subst x; exact h1
   ·have := hhigh b x; omega
  ·rcases hmem a ha with x | x
   ·exact h.mem a x
   ·subst x; exact hA
  ·rcases hmem a ha with x | x
   ·exact hold a x
   ·subst x; exact hmis
theorem putNs_ne {ns : List Alive} {m : Msg} : putNs ns m = [] -> ns = [] := by
 unfold putNs
 cases isAt ns m.src (bsP ns m.src) with
 | true => intro h; simpa using h
 | false => intro h; unfold insL at h; simp at h
theorem NsIs.inc {N : Nat} {ns : List Alive} (h : NsIs N ns) (hN : N <= 1000) : NsIs (N + 1) (ns.map incA) := by
 refine ⟨by rw [List.length_map]; have := h.len; omega, ?_, fun a ha => ?_, fun a ha => ?_⟩
 ·exact List.pairwise_map.2 h.srt
 ·obtain ⟨x, hx, e⟩ := List.mem_map.1 ha
  subst e; exact h.mem x hx
 ·obtain ⟨x, hx, e⟩ := List.mem_map.1 ha
  subst e
  have := h.mis x hx
  show 0 <= IntKind.i64.wrap (x.missed + 1) /\ IntKind.i64.wrap (x.missed + 1) <= _
  rw [wrap64 (by omega)]
  omega
structure SI (N : Nat) (s : ES) : Prop where
 c1 : 1 <= s.c.chain
 c2 : s.c.chain <= 3
 op : s.op = .nil
 ep0 : 0 <= s.p.epoch
 ep : s.p.epoch <= N
 g0 : 0 <= s.g
 g : s.g <= N
 pg0 : 0 <= s.p.gen
 pg : s.p.gen <= N
 ch : MemL s.p.chain
 va : MemL s.p.valid
 ns : NsIs N s.ns
 ke : MemL s.keep
 fl : s.fz.l.length <= N
 fz : ∀ f ∈ s.fz.l, MsgIs N N f
 ne : s.fz ≠ .emp
 ll : s.l.length <= N
 l : ∀ a ∈ s.l, a.1 = 100
 kn : s.ns = [] -> s.keep = []
theorem NsIs.mono {N M : Nat} {ns : List Alive} (h : NsIs N ns) (hm : N <= M) : NsIs M ns := ⟨by have := h.len; omega, h.srt, h.mem, fun a ha => by have := h.mis a ha; omega⟩
theorem SI.mono {N M : Nat} {s : ES} (h : SI N s) (hm : N <= M) : SI M s :=
 { h with ep := by have := h.ep; omega, g := by have := h.g; omega, pg := by have := h.pg; omega, ns := h.ns.mono hm, fl := by have := h.fl; omega, fz := fun f hf => (h.fz f hf).mono (by omega) hm, ll := by have := h.ll; omega }
theorem SI.eok {N : Nat} {s : ES} (h : SI N s) (hN : N <= 1000) : EOk s where
 ch := by have := h.ch.1; omega
 ns := by have := h.ns.len; omega
 keep := h.ke.1
 fz := by have := h.fl; omega
 ver := fun f hf => (h.fz f hf).ver.num hN
 c1 := h.c1
 c2 := by have := h.c2; omega
 l := by have := h.ll; omega
theorem SI.hok {N : Nat} {s : ES} (h : SI N s) (hN : N <= 1000) (hn : s.nb = false) : HOk s := ⟨h.eok hN, hn, h.op, by have := h.va.1; omega, fun f hf => (h.fz f hf).cp hN⟩
theorem SI.kok {N : Nat} {s : ES} (h : SI N s) (hN : N <= 1000) (hn : s.nb = false) : KOk s := ⟨h.eok hN, hn, h.op, h.va.1, fun f hf => (h.fz f hf).cp hN, h.kn⟩
theorem SI.up {N : Nat} {s : ES} (h : SI N s) : (upP s.ns s.c.susp).Nodup /\ ∀ m ∈ upP s.ns s.c.susp, MemIs m := ⟨upP_nodup h.ns.srt, fun m hm => by
 obtain ⟨a, ha, e⟩ := upP_mem hm
 rw [<- e]; exact h.ns.mem a ha⟩
theorem MemL.take {l : List Member} (h : MemL l) (n : Nat) : MemL (l.take n) := ⟨by have := h.1; simp; omega, h.2.1.sublist (List.take_sublist _ _), fun m hm => h.2.2 m (List.mem_of_mem_take hm)⟩
theorem wrap_i {n : Int} {N : Nat} (h0 : 0 <= n) (h : n <= N) (hN : N <= 1000) : IntKind.i64.wrap (n + 1) = n + 1 := wrap64 (by omega)
structure PlIs (N : Nat) (g : Int) (p q : Plan) : Prop where
 g0 : 0 <= g
 g : g <= N
 ep : q.epoch = p.epoch
 pg0 : 0 <= q.gen
 pg : q.gen <= N
 ch : MemL q.chain
 va : MemL q.valid
theorem endP_is {N : Nat} {s : ES} (h : SI N s) (hN : N <= 999) : PlIs (N + 1) (endP s).1 s.p (endP s).2 := by
 obtain ⟨u1, u2⟩ := h.up
 have hg := h.g; have hg0 := h.g0; have hp := h.pg; have hp0 := h.pg0
 have hF : ∀ g gen : Int, 0 <= g -> g <= ((N + 1 : Nat) : Int) -> 0 <= gen -> gen <= ((N + 1 : Nat) : Int) -> PlIs (N + 1) (freshP s g gen).1 s.p (freshP s g gen).2 := fun g gen a1 a2 a3 a4 =>
  ⟨a1, a2, rfl, a3, a4, chainP_is .nil u1 u2 h.c2, (chainP_is .nil u1 u2 h.c2).take 1⟩
 unfold endP
 cases (bestP (wkE s) s.p.base).isSome && !s.p.fresh with
 | true => exact ⟨hg0, by show s.g <= _; omega, rfl, hp0, by show s.p.gen <= _; omega, chainP_is (leadP_is h.ke) u1 u2 h.c2, h.ke⟩
 | false =>
  rw [cond_false]
  cases s.p.fresh && decide (0 < s.p.chain.length) with
  | true =>
   rw [cond_true, wrap_i hg0 hg (by omega)]
   exact hF _ _ (by omega) (by omega) (by omega) (by omega)
  | false => exact hF _ _ hg0 (by omega) hp0 (by omega)
theorem getD_mem0 {l : List Member} (h : l ≠ []) : l.getD 0 default ∈ l := by
 cases l with
 | nil => exact absurd rfl h
 | cons a t => simp
theorem sm_of {n : Int} {N : Nat} (h0 : 0 <= n) (h : n <= N) (hN : N <= 1000) : Sm n := by unfold Sm; omega
theorem actMg_is {N : Nat} {p : Plan} (hc : MemL p.chain) (hne : p.chain ≠ []) (e0 : 0 <= p.epoch) (e : p.epoch <= N) (g0 : 0 <= p.gen) (g : p.gen <= N) (hN : N <= 1000) : MsgIs N N (actMg p) where
 kind := by unfold Sm actMg; simp
 src := by unfold Sm actMg; simp
 dst := (hc.2.2 _ (getD_mem0 hne)).sm.1
 boot := (hc.2.2 _ (getD_mem0 hne)).sm.2
 sboot := sm0
 shard := rfl
 ep0 := e0
 ep := e
 gen := sm_of g0 g hN
 sess := rfl
 num := sm0
 a := sm0
 code := rfl
 key := rfl
 val := rfl
 ver := .zero N
 floor := .zero N
 op := rfl
 elen := Nat.zero_le _
 ent := fun e he => by cases he
 chain := hc.chain
 views := rfl
 img := tailNil N
 igen := sm0
 iseen := seenNil N
theorem frzMg_is {N : Nat} {m : Member} {ep : Int} (hm : MemIs m) (e0 : 0 <= ep) (e : ep <= N) : MsgIs N N (frzMg m ep) where
 kind := by unfold Sm frzMg; simp
 src := by unfold Sm frzMg; simp
 dst := hm.sm.1
 boot := hm.sm.2
 sboot := sm0
 shard := rfl
 ep0 := e0
 ep := e
 gen := sm0
 sess := rfl
 num := sm0
 a := sm0
 code := rfl
 key := rfl
 val := rfl
 ver := .zero N
 floor := .zero N
 op := rfl
 elen := Nat.zero_le _
 ent := fun e he => by cases he
 chain := chainNil
 views := rfl
 img := tailNil N
 igen := sm0
 iseen := seenNil N
theorem WyM.act {N : Nat} {p : Plan} (hc : MemL p.chain) (hne : p.chain ≠ []) (e0 : 0 <= p.epoch) (e : p.epoch <= N) (g0 : 0 <= p.gen) (g : p.gen <= N) (hN : N <= 1000) : WyM N (actMg p) :=
 .chain _ (actMg_is hc hne e0 e g0 g hN) (.inr (.inl rfl)) (hc.2.2 _ (getD_mem0 hne)).1 (fun h => by cases h) (fun h => by cases h)
theorem WyM.frz {N : Nat} {m : Member} {ep : Int} (hm : MemIs m) (e0 : 0 <= ep) (e : ep <= N) : WyM N (frzMg m ep) :=
 .chain _ (frzMg_is hm e0 e) (.inl rfl) hm.1 (fun _ => rfl) (fun h => by cases h)
structure OutB (N : Nat) (s : ES) (x : ES × List Msg) : Prop where
 si : SI N x.1
 cc : x.1.c = s.c
 l : ∀ m ∈ x.2, WyM N m
 len : x.2.length <= N + 5
theorem endQ_is {N : Nat} {s : ES} (h : SI N s) (hN : N <= 999) : OutB (N + 1) s (endQ s) := by
 unfold endQ
 cases hm : mayE s with
 | false => exact ⟨h.mono (by omega), rfl, (fun m hm => by cases hm), Nat.zero_le _⟩
 | true =>
  have hp := endP_is h hN
  obtain ⟨k1, _⟩ := endP_chain (h.eok (by omega)) hm
  have he := h.ep; have he0 := h.ep0
  have hll := h.ll
  refine ⟨?_, rfl, fun m hx => ?_, ?_⟩
  ·exact ⟨h.c1, h.c2, h.op, by show 0 <= (endP s).2.epoch; rw [hp.ep]; exact he0, by show (endP s).2.epoch <= _; rw [hp.ep]; omega, hp.g0, hp.g, hp.pg0, hp.pg, hp.ch, hp.va, h.ns.mono (by omega), .nil, Nat.zero_le _, (fun f hf => by cases hf), (fun e => by cases e), Nat.zero_le _, (fun a ha => by cases ha), fun _ => rfl⟩
  ·rcases List.mem_cons.1 hx with e | e
   ·subst e
    exact .act hp.ch k1 (by rw [hp.ep]; exact he0) (by rw [hp.ep]; omega) hp.pg0 hp.pg (by omega)
   ·obtain ⟨a, ha, e⟩ := List.mem_map.1 e
    subst e
    exact .was a (h.l a ha)
  ·show (outMs _ s.l).length <= _
   unfold outMs
   simp only [List.length_cons, List.length_map]
   omega
theorem h20_is {N : Nat} {s : ES} {m : Msg} (h : SI N s) (hN : N <= 999) : OutB (N + 1) s (h20P s m) := by
 unfold h20P
 cases decide (s.p.phase = 1) && decide (s.p.epoch = m.epoch) with
 | false => exact ⟨h.mono (by omega), rfl, (fun m hm => by cases hm), Nat.zero_le _⟩
 | true =>
  have h' : SI N { s with fe := true } := { h with }
  have := endQ_is h' hN
  exact ⟨this.si, this.cc, this.l, this.len⟩
theorem kM9 {m : Msg} (hk : m.kind = 9) (hs : m.shard = 0) : kM m 9 = m := kM_eq hk hs
theorem h9_is {N : Nat} {s : ES} {m : Msg} (h : SI N s) (hm : MsgIs N N m) (hk : m.kind = 9) (hN : N <= 998) : OutB (N + 2) s (h9P s m) := by
 unfold h9P
 cases decide (s.p.phase = 1) && decide (s.p.epoch = m.epoch) with
 | false => exact ⟨h.mono (by omega), rfl, (fun m hm => by cases hm), Nat.zero_le _⟩
 | true =>
  have h' : SI (N + 1) (frzS s m) := by
   unfold frzS
   cases (frozenP (wkE s) ⟨m.src, m.sboot⟩).2 with
   | true => exact h.mono (by omega)
   | false =>
    rw [cond_false, kM9 hk hm.shard]
    have h1 := h.mono (show N <= N + 1 by omega)
    have hl : (lnApp s.fz m).l = s.fz.l ++ [m] := by
     cases s.fz <;> rfl
    have hf := h.fl
    exact { h1 with
     fl := by show (lnApp s.fz m).l.length <= _; rw [hl, List.length_append]; simp; omega
     fz := fun f hf => by
      have hf : f ∈ (lnApp s.fz m).l := hf
      rw [hl] at hf
      rcases List.mem_append.1 hf with e | e
      ·exact h1.fz f e
      ·have : f = m := by simpa using e
       subst this; exact hm.mono (by omega) (by omega)
     ne := by show lnApp s.fz m ≠ .emp; cases s.fz <;> (intro e; cases e) }
  have hc : (frzS s m).c = s.c := by unfold frzS; cases (frozenP (wkE s) ⟨m.src, m.sboot⟩).2 <;> rfl
  have := endQ_is h' (by omega)
  exact ⟨this.si, this.cc.trans hc, this.l, this.len⟩
theorem beginB_is {N : Nat} {s : ES} {fr : Bool} (h : SI N s) (hN : N <= 999) : SI (N + 1) (beginS s fr) := by
 have h1 := h.mono (show N <= N + 1 by omega)
 have he := h.ep; have he0 := h.ep0
 unfold beginS
 cases decide (1099511627776 <= s.p.epoch) with
 | true => exact h1
 | false =>
  rw [cond_false]
  have hke : MemL (bif fr then [] else bothP s.p.valid (upP s.ns s.c.susp)) := by
   cases fr with
   | true => exact .nil
   | false =>
    have hsub : (bothP s.p.valid (upP s.ns s.c.susp)).Sublist s.p.valid := by
     unfold bothP
     rw [show (fun m => bif inUp (upP s.ns s.c.susp) m then some m else none) = Option.guard (fun m => inUp (upP s.ns s.c.susp) m) from by
      funext m
      unfold Option.guard
      dsimp only
      by_cases hb : inUp (upP s.ns s.c.susp) m = true <;> simp [hb]]
     rw [List.filterMap_eq_filter]
     exact List.filter_sublist
    exact ⟨Nat.le_trans hsub.length_le h.va.1, h.va.2.1.sublist hsub, fun m hm => h.va.2.2 m (hsub.subset hm)⟩
  have hkn : s.ns = [] -> (bif fr then [] else bothP s.p.valid (upP s.ns s.c.susp)) = [] := by
   intro e
   cases fr with
   | true => rfl
   | false =>
    rw [e]
    show List.filterMap _ _ = []
    rw [List.filterMap_eq_nil_iff]
    intro a _
    rfl
  exact { h1 with
   ep0 := by show 0 <= IntKind.i64.wrap (s.p.epoch + 1); rw [wrap_i he0 he (by omega)]; omega
   ep := by show IntKind.i64.wrap (s.p.epoch + 1) <= _; rw [wrap_i he0 he (by omega)]; omega
   ke := hke
   fl := Nat.zero_le _
   fz := fun f hf => by cases hf
   ne := fun e => by cases e
   kn := hkn }
theorem begin_c (s : ES) (fr : Bool) : (beginS s fr).c = s.c := by unfold beginS; cases decide (1099511627776 <= s.p.epoch) <;> rfl
theorem h21_is {N : Nat} {s : ES} {m : Msg} (h : SI N s) (hs : m.src = 100) (hN : N <= 990) : OutB (N + 3) s (h21P s m) := by
 have ha : SI (N + 1) (askS s m) := by
  have h1 := h.mono (show N <= N + 1 by omega)
  have hl := h.ll
  unfold askS
  cases s.l.any (isAsk m) with
  | true => exact h1
  | false =>
   exact { h1 with
    ll := by show (s.l ++ [askOf m]).length <= _; rw [List.length_append]; simp; omega
    l := fun a hx => by
     rcases List.mem_append.1 hx with e | e
     ·exact h.l a e
     ·have : a = askOf m := by simpa using e
      subst this; exact hs }
 have hc : (askS s m).c = s.c := by unfold askS; cases s.l.any (isAsk m) <;> rfl
 unfold h21P
 cases isNo s m with
 | true =>
  exact ⟨h.mono (by omega), rfl, fun x hx => by
   have : x = wasMg (askOf m) := by simpa using hx
   subst this; exact .was _ hs, by simp⟩
 | false =>
  rw [cond_false]
  cases decide (s.p.reset < m.num) with
  | false => exact ⟨ha.mono (by omega), hc, (fun x hx => by cases hx), Nat.zero_le _⟩
  | true =>
   rw [cond_true]
   have hb : SI (N + 1) { askS s m with p := rsP1 (askS s m).p m } := { ha with }
   have h3 : SI (N + 2) (afS (askS s m) m) := by
    unfold afS
    cases decide ((askS s m).p.phase = 1) && (askS s m).p.fresh with
    | true => exact hb.mono (by omega)
    | false => exact beginB_is hb (by omega)
   have h3c : (afS (askS s m) m).c = s.c := by
    unfold afS
    cases decide ((askS s m).p.phase = 1) && (askS s m).p.fresh with
    | true => exact hc
    | false => rw [cond_false, begin_c]; exact hc
   have := endQ_is h3 (by omega)
   exact ⟨this.si, this.cc.trans h3c, this.l, this.len⟩
theorem h7_is {N : Nat} {s : ES} {m : Msg} {x : VF} (h : SI N s) (hm : MemIs ⟨m.src, m.sboot⟩) : SI (N + 1) (h7P s m x) /\ (h7P s m x).c = s.c := by
 have h1 := h.mono (show N <= N + 1 by omega)
 unfold h7P
 cases stale s.ns m with
 | true => exact ⟨h1, rfl⟩
 | false =>
  rw [cond_false]
  have hp : (vwP x s m).1 = s.p \/ (vwP x s m).1 = { s.p with valid := s.p.chain } := by
   cases x with
   | nil => exact .inl rfl
   | emp => exact .inl rfl
   | one v =>
    have e : vwP (.one v) s m = bif serves s m v then (bif decide (v.phase = 3) then { s.p with valid := s.p.chain } else s.p, true) else (s.p, s.he) := rfl
    rw [e]
    cases serves s m v with
    | false => exact .inl rfl
    | true =>
     cases decide (v.phase = 3) with
     | false => exact .inl rfl
     | true => exact .inr rfl
  refine ⟨?_, rfl⟩
  rcases hp with e | e
  ·exact { h1 with
    ep0 := by show 0 <= (vwP x s m).1.epoch; rw [e]; exact h1.ep0
    ep := by show (vwP x s m).1.epoch <= _; rw [e]; exact h1.ep
    pg0 := by show 0 <= (vwP x s m).1.gen; rw [e]; exact h1.pg0
    pg := by show (vwP x s m).1.gen <= _; rw [e]; exact h1.pg
    ch := by show MemL (vwP x s m).1.chain; rw [e]; exact h1.ch
    va := by show MemL (vwP x s m).1.valid; rw [e]; exact h1.va
    ns := putNs_is h.ns hm
    kn := fun hx => h.kn (putNs_ne hx) }
  ·exact { h1 with
    ep0 := by show 0 <= (vwP x s m).1.epoch; rw [e]; exact h1.ep0
    ep := by show (vwP x s m).1.epoch <= _; rw [e]; exact h1.ep
    pg0 := by show 0 <= (vwP x s m).1.gen; rw [e]; exact h1.pg0
    pg := by show (vwP x s m).1.gen <= _; rw [e]; exact h1.pg
    ch := by show MemL (vwP x s m).1.chain; rw [e]; exact h1.ch
    va := by show MemL (vwP x s m).1.valid; rw [e]; exact h1.ch
    ns := putNs_is h.ns hm
    kn := fun hx => h.kn (putNs_ne hx) }
theorem look_is {N : Nat} {s : ES} (h : SI N s) (hN : N <= 999) : SI (N + 1) (lookP s) /\ (lookP s).c = s.c := by
 rcases look_begin s with e | ⟨fr, e⟩
 ·rw [e]; exact ⟨h.mono (by omega), rfl⟩
 ·rw [e]; exact ⟨beginB_is h hN, begin_c s fr⟩
theorem agMs_is {N : Nat} {s : ES} (h : SI N s) (hN : N <= 1000) : (∀ m ∈ agMs s, WyM N m) /\ (agMs s).length <= 4 := by
 have hfr : ∀ l : List Member, MemL l -> (∀ m ∈ l.filterMap (agF s), WyM N m) /\ (l.filterMap (agF s)).length <= 3 := by
  intro l hl
  refine ⟨fun m hm => ?_, Nat.le_trans (List.length_filterMap_le _ _) hl.1⟩
  obtain ⟨a, ha, e⟩ := List.mem_filterMap.1 hm
  unfold agF at e
  cases hb : (frozenP (wkE s) a).2 with
  | true => rw [hb] at e; simp at e
  | false =>
   rw [hb] at e
   have : frzMg a s.p.epoch = m := by simpa using e
   rw [<- this]
   exact .frz (hl.2.2 a ha) h.ep0 h.ep
 unfold agMs
 cases decide (s.p.phase = 1) with
 | true =>
  rw [cond_true]
  have hl : MemL (bif s.p.fresh then s.p.chain else s.keep) := by
   cases s.p.fresh with
   | true => exact h.ch
   | false => exact h.ke
  obtain ⟨a1, a2⟩ := hfr _ hl
  cases s.fe with
  | true => exact ⟨fun m hm => a1 m (by simpa using hm), by simp; omega⟩
  | false =>
   refine ⟨fun m hm => ?_, by simp only [Bool.not_false, cond_true, List.length_append, List.length_cons, List.length_nil]; omega⟩
   rcases List.mem_append.1 hm with e | e
   ·have : m = fenMg s.p.epoch := by simpa using e
    subst this; exact .fence _
   ·exact a1 m e
 | false =>
  rw [cond_false]
  cases decide (s.p.phase = 3) && !s.he with
  | false => exact ⟨(fun m hm => by cases hm), Nat.zero_le _⟩
  | true =>
   rw [cond_true]
   by_cases h0 : 0 < s.p.chain.length
   ·rw [decide_eq_true h0, cond_true]
    refine ⟨fun m hm => ?_, by simp⟩
    have : m = actMg s.p := by simpa using hm
    subst this
    exact .act h.ch (List.length_pos_iff.1 h0) h.ep0 h.ep h.pg0 h.pg hN
   ·rw [decide_eq_false h0]
    exact ⟨(fun m hm => by cases hm), Nat.zero_le _⟩
theorem tick_is {N : Nat} {s : ES} (h : SI N s) (hN : N <= 990) : OutB (N + 3) s (tickQ s) := by
 have h0 : SI (N + 1) (blkS s) := by
  have h1 := h.mono (show N <= N + 1 by omega)
  exact { h1 with
   ns := h.ns.inc (by omega)
   kn := fun e => h.kn (by
    have e : s.ns.map incA = [] := e
    simpa using e) }
 obtain ⟨h2, h2c⟩ := look_is h0 (by omega)
 unfold tickQ againQ
 cases hm : mayE (lookP (blkS s)) with
 | true =>
  have := endQ_is h2 (by omega)
  unfold endQ at this
  rw [hm] at this
  exact ⟨this.si, this.cc.trans h2c, this.l, this.len⟩
 | false =>
  obtain ⟨a1, a2⟩ := agMs_is h2 (by omega)
  exact ⟨h2.mono (by omega), h2c, fun m hm => (a1 m hm).mono (by omega), by simp only [cond_false]; omega⟩
structure PIs (N : Nat) (c : CConf) (p : PlayB) : Prop where
 b : SI N (p.b.es c)
 rl : p.reps.length = 3
 rep : ∀ i, i < 3 -> RepIs N N (rpB p i)
 self : ∀ i, i < 3 -> (rpB p i).self.node = 2 + i
 boot : ∀ i, i < 3 -> (rpB p i).self.boot <= N
 way : ∀ m ∈ p.way, WyM N m
theorem PIs.mono {N M : Nat} {c : CConf} {p : PlayB} (h : PIs N c p) (hm : N <= M) : PIs M c p :=
 ⟨h.b.mono hm, h.rl, fun i hi => (h.rep i hi).mono (by omega) hm, h.self, fun i hi => by have := h.boot i hi; omega, fun m hx => (h.way m hx).mono hm⟩
theorem PIs.lay {N : Nat} {c : CConf} {p : PlayB} {l : List Msg} (h : PIs N c p) (hl : ∀ m ∈ l, WyM N m) : PIs N c (layB p l) :=
 { h with way := fun m hx => (List.mem_append.1 hx).elim (h.way m) (hl m) }
theorem PIs.wayB {N : Nat} {c : CConf} {p : PlayB} {l : List Msg} (h : PIs N c p) (hl : ∀ m ∈ l, m ∈ p.way) : PIs N c (wayB p l) :=
 { h with way := fun m hx => h.way m (hl m hx) }
theorem rp_put {p : PlayB} {i j : Nat} {r : Rep} (hi : i < p.reps.length) : rpB (putB p i r) j = if j = i then r else rpB p j := by
 unfold rpB putB
 dsimp only
 unfold List.getD
 by_cases e : j = i
 ·subst e
  rw [if_pos rfl]
  simp [hi]
 ·rw [if_neg e, List.getElem?_set_ne (fun x => e x.symm)]
theorem PIs.put {N : Nat} {c : CConf} {p : PlayB} {i : Nat} {r : Rep} (h : PIs N c p) (hi : i < 3) (hr : RepIs N N r) (hs : r.self.node = 2 + i) (hb : r.self.boot <= N) : PIs N c (putB p i r) := by
 have hi' : i < p.reps.length := by rw [h.rl]; exact hi
 refine ⟨h.b, ?_, fun j hj => ?_, fun j hj => ?_, fun j hj => ?_, h.way⟩
 ·show (p.reps.set i r).length = 3
  rw [List.length_set]; exact h.rl
 ·rw [rp_put hi']
  by_cases e : j = i
  ·rw [if_pos e]; exact hr
  ·rw [if_neg e]; exact h.rep j hj
 ·rw [rp_put hi']
  by_cases e : j = i
  ·rw [if_pos e, e]; exact hs
  ·rw [if_neg e]; exact h.self j hj
 ·rw [rp_put hi']
  by_cases e : j = i
  ·rw [if_pos e]; exact hb
  ·rw [if_neg e]; exact h.boot j hj
theorem SI.bu {N : Nat} {c : CConf} {r : ES} (h : SI N r) (hc : r.c = c) : SI N (r.bu.es c) := by
 subst hc
 exact { h with op := rfl }
theorem PIs.putBu {N : Nat} {c : CConf} {p : PlayB} {b : Bu} (h : PIs N c p) (hb : SI N (b.es c)) : PIs N c { p with b := b } := { h with b := hb }
theorem beat_src (r : Rep) : (⟨(beatMg r).src, (beatMg r).sboot⟩ : Member) = r.self := rfl
theorem beat_v (r : Rep) : (beatMg r).views = bif liveB r then [(⟨0, r.view.epoch, 0, r.view.phase, []⟩ : Md.View)] else [] := rfl
theorem beat_views (r : Rep) : (beatMg r).views = [] \/ ∃ v, (beatMg r).views = [v] /\ v.shard = 0 := by
 rw [beat_v]
 cases liveB r with
 | false => exact .inl rfl
 | true => exact .inr ⟨⟨0, r.view.epoch, 0, r.view.phase, []⟩, rfl, rfl⟩
theorem hd_is {N : Nat} {c : CConf} {b : Bu} {m : Msg} (h : SI N (b.es c)) (hm : WyM N m) (hd : m.dst = 1) (hN : N <= 990) : HdOk (b.es c) m /\ OutB (N + 3) (b.es c) (hdS (b.es c) m) := by
 have hok := h.hok (by omega) rfl
 have hfl := h.fl
 have hll := h.ll
 have base : m.shard = 0 -> (m.kind = 20 \/ (m.kind = 9 /\ CpOk m /\ VNum m.ver) \/ m.kind = 21 \/ (m.kind = 7 /\ (m.views = [] \/ ∃ v, m.views = [v] /\ v.shard = 0))) -> HdOk (b.es c) m := fun a1 a2 => ⟨hok, h.ne, by omega, by omega, a1, a2⟩
 have up : ∀ {M : Nat} {x : ES × List Msg}, M <= N + 3 -> OutB M (b.es c) x -> OutB (N + 3) (b.es c) x := fun hM o => ⟨o.si.mono hM, o.cc, fun m hx => (o.l m hx).mono hM, by have := o.len; omega⟩
 cases hm with
 | fence ep => cases hd
 | fenced ep =>
  have e : hdS (b.es c) (fncMg ep) = h20P (b.es c) (fncMg ep) := rfl
  rw [e]
  exact ⟨base rfl (.inl rfl), up (M := N + 1) (by omega) (h20_is h (by omega))⟩
 | beat r h1 h2 =>
  have := h7_is (m := beatMg r) (x := vfOf (beatMg r)) h (by rw [beat_src]; exact h1)
  refine ⟨base rfl (.inr (.inr (.inr ⟨rfl, beat_views r⟩))), ?_⟩
  have e : hdS (b.es c) (beatMg r) = (h7P (b.es c) (beatMg r) (vfOf (beatMg r)), []) := rfl
  rw [e]
  exact up (M := N + 1) (by omega) ⟨this.1, this.2, (fun m hm => by cases hm), Nat.zero_le _⟩
 | froze _ h1 hk hd =>
  refine ⟨base h1.shard (.inr (.inl ⟨hk, h1.cp (by omega), h1.ver.num (by omega)⟩)), ?_⟩
  have e : hdS (b.es c) m = h9P (b.es c) m := by
   unfold hdS
   rw [decide_eq_false (by omega), decide_eq_true hk]; rfl
  rw [e]
  exact up (M := N + 2) (by omega) (h9_is h h1 hk (by omega))
 | reset n =>
  have e : hdS (b.es c) (resMg n) = h21P (b.es c) (resMg n) := rfl
  rw [e]
  exact ⟨base rfl (.inr (.inr (.inl rfl))), h21_is h rfl (by omega)⟩
 | chain _ h1 hk hd2 => omega
 | was a ha =>
  have hd : a.1 = 1 := hd
  omega
theorem giveR_cases (m : Msg) : ∀ (d i : Nat) (p : PlayB), giveR m d i p = p \/ ∃ j, j < i + d /\ (rpB p j).self.node = m.dst /\ giveR m d i p = layB (putB p j (handP (rpB p j) m).1) (handP (rpB p j) m).2
 | 0, i, p => .inl rfl
 | d + 1, i, p => by
  have e : giveR m (d + 1) i p = bif decide ((rpB p i).self.node = m.dst) then layB (putB p i (handP (rpB p i) m).1) (handP (rpB p i) m).2 else giveR m d (i + 1) p := rfl
  rw [e]
  cases hd : decide ((rpB p i).self.node = m.dst) with
  | true => exact .inr ⟨i, by omega, of_decide_eq_true hd, rfl⟩
  | false =>
   rcases giveR_cases m d (i + 1) p with x | ⟨j, h1, h2, h3⟩
   ·exact .inl x
   ·exact .inr ⟨j, by omega, h2, h3⟩
structure GvIs (N : Nat) (c : CConf) (p : PlayB) (m : Msg) : Prop where
 ok : p.way.length <= 10000 -> GvOk p c m
 is : PIs (N + 3) c (giveB c p m)
 len : (giveB c p m).way.length <= p.way.length + N + 10
theorem give_is21 {N : Nat} {c : CConf} {p : PlayB} {m : Msg} (h : PIs N c p) (hm : WyM N m) (hN : N <= 990) : GvIs N c p m := by
 have hrl := h.rl
 have n0 : ∀ i, i < p.reps.length -> (rpB p i).self.node = m.dst -> 2 <= m.dst /\ m.dst <= 4 := fun i hi e => by
  have := h.self i (by omega)
  omega
 have d1 : m.dst = 1 -> HdOk (p.b.es c) m /\ OutB (N + 3) (p.b.es c) (hdS (p.b.es c) m) := fun hd => hd_is h.b hm hd hN
 have d2 : ∀ i, i < p.reps.length -> (rpB p i).self.node = m.dst -> HandOk (rpB p i) m /\ Kinds m /\ OutIs N N (rpB p i) (handP (rpB p i) m) /\ ∀ x ∈ (handP (rpB p i) m).2, WyM N x := by
  intro i hi e
  obtain ⟨e1, e2⟩ := n0 i hi e
  have hr := h.rep i (by omega)
  cases hm with
  | fence ep => simp [fenMg] at e1
  | fenced ep => simp [fncMg] at e1
  | beat r h1 h2 => simp [beatMg] at e1
  | froze _ h1 hk hd => omega
  | reset n => simp [resMg] at e1
  | was a ha =>
   have e2 : a.1 <= 4 := e2
   omega
  | chain _ h1 hk hd h8 h11 =>
   have ho := handP_is hr h1 (by omega) (by omega)
   exact ⟨⟨_, _, by omega, Int.le_refl _, hr, h1⟩, hk, ho, fun x hx => .hd (hand_to hr h1 (by omega) h8 h11 x hx) hr.self (ho.msgs x hx)⟩
 refine ⟨fun hw => ⟨fun hd => ?_, fun hd => ⟨(d1 hd).1, by have := (d1 hd).2.len; omega⟩, fun i hi e _ _ => ?_, hw, by omega⟩, ?_, ?_⟩
 ·cases hm with
  | fence ep => exact ⟨ep, rfl⟩
  | fenced ep => cases hd
  | beat r h1 h2 => cases hd
  | froze _ h1 hk hd2 => omega
  | reset n => cases hd
  | chain _ h1 hk hd2 => omega
  | was a ha =>
   have hd : a.1 = 0 := hd
   omega
 ·obtain ⟨a1, a2, a3, _⟩ := d2 i hi e
  exact ⟨a1, a2, by have := a3.len; omega⟩
 ·unfold giveB
  cases h0 : decide (m.dst = 0) with
  | true =>
   rw [cond_true]
   have : PIs N c { p with fe := maxI p.fe m.epoch } := { h with }
   exact (this.lay (fun x hx => by
    have : x = fncMg (maxI p.fe m.epoch) := by simpa using hx
    subst this; exact .fenced _)).mono (by omega)
  | false =>
   rw [cond_false]
   cases h1 : decide (m.dst = 1) with
   | true =>
    rw [cond_true]
    have o := (d1 (of_decide_eq_true h1)).2
    exact ((h.mono (by omega)).putBu (o.si.bu o.cc)).lay o.l
   | false =>
    rw [cond_false]
    rcases giveR_cases m p.reps.length 0 p with e | ⟨j, h1, h2, e⟩
    ·rw [e]; exact h.mono (by omega)
    ·rw [e]
     obtain ⟨_, _, a3, a4⟩ := d2 j (by omega) h2
     have hb := h.boot j (by omega)
     exact ((h.put (by omega) a3.rep (by rw [a3.self]; exact h.self j (by omega)) (by rw [a3.self]; exact hb)).lay a4).mono (by omega)
 ·unfold giveB
  cases h0 : decide (m.dst = 0) with
  | true => show (p.way ++ [_]).length <= _; simp; omega
  | false =>
   rw [cond_false]
   cases h1 : decide (m.dst = 1) with
   | true =>
    have o := (d1 (of_decide_eq_true h1)).2
    show (p.way ++ _).length <= _
    rw [List.length_append]
    have := o.len
    omega
   | false =>
    rw [cond_false]
    rcases giveR_cases m p.reps.length 0 p with e | ⟨j, h1, h2, e⟩
    ·rw [e]; omega
    ·rw [e]
     obtain ⟨_, _, a3, a4⟩ := d2 j (by omega) h2
     show (p.way ++ _).length <= _
     rw [List.length_append]
     have := a3.len
     omega
def pushB (r : Rep) : Rep := (headPush (r, entP (nextV r))).1
def doB (c : CConf) (k i : Nat) (p : PlayB) : PlayB :=
 bif decide (k <= 5) then bif decide (p.way.length = 0) then p else bif decide (k = 5) then layB p [p.way.getD (i % p.way.length) default] else
  bif decide (k = 4) then wayB p (p.way.eraseIdx (i % p.way.length)) else giveB c (wayB p (p.way.eraseIdx (i % p.way.length))) (p.way.getD (i % p.way.length) default)
 else bif decide (k = 6) then layB { p with b := (tickQ (p.b.es c)).1.bu } (tickQ (p.b.es c)).2
 else bif decide (k = 10) then { p with b := openB ⟨p.b.e, p.b.g, p.b.p⟩ }
 else bif decide (k = 11) then layB { p with reset := IntKind.i64.wrap (p.reset + 1) } [resMg (IntKind.i64.wrap (p.reset + 1))]
 else bif decide (k = 7) then layB (layB p [beatMg (rpB p (i % p.reps.length))]) (againP (rpB p (i % p.reps.length)))
 else bif decide (k = 8) then putB p (i % p.reps.length) (rep0 ⟨(rpB p (i % p.reps.length)).self.node, IntKind.i64.wrap ((rpB p (i % p.reps.length)).self.boot + 1)⟩)
 else { p with reps := p.reps.map pushB }
theorem pushB_is {N : Nat} {r : Rep} (h : RepIs N N r) (hN : N <= 990) : RepIs ((N + 3 : Nat) : Int) (N + 3) (pushB r) /\ (pushB r).self = r.self := by
 unfold pushB headPush
 dsimp only
 cases headP r with
 | true =>
  have := pushP_is h (by omega) (by omega)
  exact ⟨this.1.mono (by omega) (by omega), this.2⟩
 | false => exact ⟨h.mono (by omega) (by omega), rfl⟩
theorem open_is {N : Nat} {c : CConf} {b : Bu} (h : SI N (b.es c)) : SI N ((openB ⟨b.e, b.g, b.p⟩).es c) :=
 { h with op := rfl, ns := ⟨Nat.zero_le _, .nil, (fun a ha => by cases ha), (fun a ha => by cases ha)⟩, ke := .nil, fl := Nat.zero_le _, fz := (fun f hf => by cases hf), ne := (fun e => by cases e), ll := Nat.zero_le _, l := (fun a ha => by cases ha), kn := fun _ => rfl }
theorem mem_getDw {w : List Msg} {i : Nat} (h : i < w.length) : w.getD i default ∈ w := by
 simp [List.getD, List.getElem?_eq_getElem h]
theorem do_is21 {N : Nat} {c : CConf} {p : PlayB} {k i : Nat} (h : PIs N c p) (hN : N <= 980) : PIs (N + 3) c (doB c k i p) /\ (doB c k i p).way.length <= p.way.length + N + 10 := by
 have hrl := h.rl
 have hat : i % p.reps.length < 3 := by rw [hrl]; exact Nat.mod_lt _ (by omega)
 have h3 := h.mono (show N <= N + 3 by omega)
 unfold doB
 cases decide (k <= 5) with
 | true =>
  rw [cond_true]
  by_cases hw : p.way.length = 0
  ·rw [decide_eq_true hw]; exact ⟨h3, by simp only [cond_true]; omega⟩
  ·have hlt : i % p.way.length < p.way.length := Nat.mod_lt _ (by omega)
   have hm := mem_getDw hlt
   rw [decide_eq_false hw, cond_false]
   cases decide (k = 5) with
   | true =>
    refine ⟨h3.lay (fun x hx => ?_), by show (p.way ++ [_]).length <= _; simp; omega⟩
    have : x = p.way.getD (i % p.way.length) default := by simpa using hx
    rw [this]; exact h3.way _ hm
   | false =>
    rw [cond_false]
    have he : ∀ x ∈ p.way.eraseIdx (i % p.way.length), x ∈ p.way := fun x hx => List.mem_of_mem_eraseIdx hx
    have hl : (p.way.eraseIdx (i % p.way.length)).length <= p.way.length := by rw [List.length_eraseIdx]; split <;> omega
    have hq := h.wayB he
    cases decide (k = 4) with
    | true => exact ⟨hq.mono (by omega), by show (p.way.eraseIdx _).length <= _; omega⟩
    | false =>
     have g := give_is21 hq (h.way _ hm) (by omega)
     refine ⟨g.is, ?_⟩
     have := g.len
     have hl' : (Wk.wayB p (p.way.eraseIdx (i % p.way.length))).way.length <= p.way.length := hl
     simp only [cond_false]
     omega
 | false =>
  rw [cond_false]
  cases decide (k = 6) with
  | true =>
   have o := tick_is h.b (by omega)
   refine ⟨(h3.putBu (o.si.bu o.cc)).lay o.l, ?_⟩
   show (p.way ++ _).length <= _
   rw [List.length_append]
   have := o.len
   omega
  | false =>
   rw [cond_false]
   cases decide (k = 10) with
   | true => exact ⟨h3.putBu ((open_is h.b).mono (by omega)), by show p.way.length <= _; omega⟩
   | false =>
    rw [cond_false]
    cases decide (k = 11) with
    | true =>
     have hp : PIs (N + 3) c { p with reset := IntKind.i64.wrap (p.reset + 1) } := { h3 with }
     refine ⟨hp.lay (fun x hx => ?_), by show (p.way ++ [_]).length <= _; simp; omega⟩
     have : x = resMg (IntKind.i64.wrap (p.reset + 1)) := by simpa using hx
     subst this; exact .reset _
    | false =>
     rw [cond_false]
     have hr := h.rep _ hat
     have hs := h.self _ hat
     have hb := h.boot _ hat
     have hb1 := hr.self.2.2.1
     cases decide (k = 7) with
     | true =>
      refine ⟨(h3.lay (fun x hx => ?_)).lay (fun x hx => ?_), ?_⟩
      ·have : x = beatMg (rpB p (i % p.reps.length)) := by simpa using hx
       subst this; exact .beat _ hr.self (by omega)
      ·exact (WyM.to (again_to hr x hx) hr.self (againP_is hr (by omega) x hx)).mono (by omega)
      ·show ((p.way ++ [_]) ++ _).length <= _
       rw [List.length_append, List.length_append]
       have := againP_len hr
       simp only [List.length_cons, List.length_nil]
       omega
     | false =>
      rw [cond_false]
      cases decide (k = 8) with
      | true =>
       rw [cond_true]
       have hw : IntKind.i64.wrap ((rpB p (i % p.reps.length)).self.boot + 1) = (rpB p (i % p.reps.length)).self.boot + 1 := wrap64 (by omega)
       rw [hw]
       have hm : MemIs ⟨(rpB p (i % p.reps.length)).self.node, (rpB p (i % p.reps.length)).self.boot + 1⟩ := ⟨hr.self.1, hr.self.2.1, by show 1 <= _ + (1 : Int); omega, by show _ + (1 : Int) <= 1000; omega⟩
       exact ⟨h3.put hat (rep0_is hm (by omega)) hs (by show _ + (1 : Int) <= _; omega), by show p.way.length <= _; omega⟩
      | false =>
       rw [cond_false]
       have hg : ∀ j, j < 3 -> rpB { p with reps := p.reps.map pushB } j = pushB (rpB p j) := fun j hj => by
        unfold rpB
        have : j < p.reps.length := by omega
        simp [List.getD, this]
       refine ⟨⟨h3.b, by show (p.reps.map pushB).length = 3; rw [List.length_map]; exact hrl, fun j hj => ?_, fun j hj => ?_, fun j hj => ?_, h3.way⟩, by show p.way.length <= _; omega⟩
       ·rw [hg j hj]; exact (pushB_is (h.rep j hj) (by omega)).1
       ·rw [hg j hj, (pushB_is (h.rep j hj) (by omega)).2]; exact h.self j hj
       ·rw [hg j hj, (pushB_is (h.rep j hj) (by omega)).2]; exact h3.boot j hj
theorem dec_natI (a b : Nat) : decide ((a : Int) = (b : Int)) = decide (a = b) := decide_eq_decide.2 (by omega)
theorem room_eq {R : Type} {n : Nat} {k : Option R} (h : n <= 1000000) : room n 392 k = k := by
 unfold room; rw [roomV (by omega) h, cond_true]
theorem nz_eq {R : Type} {n : Nat} {k : Option R} (h : n ≠ 0) : nz (n : Int) k = k := by
 unfold nz; rw [decide_eq_false (by omega), cond_false]
theorem slK_eq {R : Type} {i n : Nat} {k : Option R} (h : i <= n) : slK (i : Int) (n : Int) k = k := by
 unfold slK; rw [decide_eq_true (by omega), decide_eq_true (by omega)]; rfl
theorem tmI_eq {i n : Nat} (h : i <= 255) : tmI (i : Int) (n : Int) = ((i % n : Nat) : Int) := by
 unfold tmI; rw [wrap64 (by omega)]; rfl
theorem getD_erase {w : List Msg} {t i : Nat} (hi : i < w.length - 1) : (w.eraseIdx t).getD i default = if i < t then w.getD i default else w.getD (i + 1) default := by
 unfold List.getD
 rw [List.getElem?_eraseIdx]
 split <;> rfl
theorem takW_eq {w : List Msg} {t : Nat} {E : Option AV} {S : Nat -> (Nat -> List AV) -> Option AV} (ht : t < w.length) (hw : w.length <= 100000) :
  (w.eraseIdx t = [] /\ takW w (t : Int) E S = E) \/ ∃ f, takW w (t : Int) E S = S (w.eraseIdx t).length f /\ ∀ i, i < (w.eraseIdx t).length -> f i = mF (w.eraseIdx t) i := by
 have hel : (w.eraseIdx t).length = w.length - 1 := by rw [List.length_eraseIdx]; simp [ht]
 have hl0 : w.length ≠ 0 := by omega
 unfold takW
 rw [nz_eq hl0, slK_eq (by omega), room_eq (by rw [Int.toNat_natCast]; omega), Int.toNat_natCast, wrapS (by omega), nz_eq hl0, slK_eq (by omega), Int.toNat_natCast]
 have hS : ∀ i, i < w.length - 1 -> mF (w.eraseIdx t) i = encMsg (if i < t then w.getD i default else w.getD (i + 1) default) := fun i hi => by unfold mF; rw [getD_erase hi]
 by_cases h0 : t = 0
 ·subst h0
  rw [AM.beq_true rfl, cond_true, room_eq (by omega)]
  by_cases h1 : w.length = 1
  ·left
   refine ⟨List.eq_nil_of_length_eq_zero (by omega), ?_⟩
   rw [AM.beq_true (by omega), cond_true]
  ·right
   rw [AM.beq_false (by omega), cond_false]
   refine ⟨_, by rw [hel], fun i hi => ?_⟩
   rw [hS i (by omega)]
   unfold subF
   rw [blt_true (by omega), cond_true, if_neg (by omega), Nat.add_comm (0 + 1) i]
 ·right
  rw [AM.beq_false h0, cond_false, nz_eq hl0, slK_eq (by omega), ble_true (Nat.le_refl _), Bool.or_true, cond_true, room_eq (by omega)]
  by_cases h1 : t + 1 = w.length
  ·rw [AM.beq_true (by omega), cond_true]
   refine ⟨subF w 0 t, by rw [hel, show w.length - 1 = t by omega], fun i hi => ?_⟩
   rw [hS i (by omega)]
   unfold subF
   rw [blt_true (by omega), cond_true, if_pos (by omega), Nat.zero_add]
  ·rw [AM.beq_false (by omega), cond_false]
   refine ⟨appF t (subF w 0 t) (w.length - (t + 1)) (subF w (t + 1) (w.length - (t + 1))), by rw [hel, show t + (w.length - (t + 1)) = w.length - 1 by omega], fun i hi => ?_⟩
   rw [hS i (by omega)]
   unfold appF subF
   by_cases hit : i < t
   ·rw [blt_true hit, cond_true, cond_true, if_pos hit, Nat.zero_add]
   ·have : Nat.blt i t = false := by rw [Bool.eq_false_iff, Ne, Nat.blt_eq]; exact hit
    rw [this, cond_false, if_neg hit, blt_true (by omega), cond_true, blt_true (by omega), cond_true]
    congr 2
    omega
theorem ix_eq {R : Type} {i n : Nat} {K : Option R} (h : i < n) : ix (i : Int) n K = K := by
 unfold ix
 rw [rg_eq h, Int.toNat_natCast, Nat.zero_add, blt_true h, cond_true]
theorem pshG_eq {N : Nat} {r : Rep} {K : RE -> Option AV} (hr : RepIs N N r) (hN : N <= 990) : pshG r K = K (r, entP (nextV r)) := by
 have hep := hr.ep0
 have hv := (nextV_is hr (by omega) (by omega)).1
 have hvn : VNum (nextV r) := hv.num (by omega)
 have hok : pRE2 (r, entP (nextV r)) := ⟨(hr.ag (by omega)).short, ⟨by have := hr.tail.len; have := (hr.tail.la.le (by omega)).2; show r.tail.log.length <= 10000; omega, hr.tail.la.num (by omega), hvn, hr.seen.one, rfl⟩⟩
 unfold pshG
 have q1 : ∀ K : Ver × Nat -> Option AV, gC dVI pVI eVI [eV r.tail.last, .int .i64 r.view.epoch] K = K (r.tail.last, r.view.epoch.toNat) := fun K =>
  gC_eq (r.tail.last, r.view.epoch.toNat) rfl (hr.tail.la.num (by omega)) (by show SubC _ [eV _, .int .i64 (r.view.epoch.toNat : Int)]; rw [Int.toNat_of_nonneg hep]; exact .refl _)
 have q2 : ∀ K : Ver -> Option AV, gC dV1 VNum eV1 [eV (vr r.view.epoch.toNat (nu r.tail.last + 1))] K = K (nextV r) := fun K => qV1 (a := nextV r) hvn
 have q3 : ∀ K : RE -> Option AV, gC dRE pRE2 eRE [.agg (encRep r), .agg (encEntry (entP (nextV r)))] K = K (r, entP (nextV r)) := fun K => qRE hok
 rw [q1]
 dsimp only
 rw [q2, q3]
theorem headPush_no {y : RE} (h : (headPush y).2 = false) : (headPush y).1 = y.1 := by
 unfold headPush at h ⊢
 cases hh : headP y.1 with
 | false => rfl
 | true =>
  rw [hh] at h
  unfold pushP at h ⊢
  cases hv : vlt y.1.tail.last y.2.ver with
  | false => rfl
  | true => rw [hv] at h; cases h
def gP (r : Nat -> Rep) (i k : Nat) : Rep := bif k.blt i then pushB (r k) else r k
theorem gP_at (r : Nat -> Rep) (i : Nat) : gP r i i = r i := by unfold gP; rw [blt_false' (Nat.lt_irrefl i)]; rfl
theorem gP_yes (r : Nat -> Rep) (i : Nat) : (fun k => bif k.beq i then encRep (pushB (r i)) else encRep (gP r i k)) = fun k => encRep (gP r (i + 1) k) := by
 funext k
 by_cases e : k = i
 ·subst e
  rw [AM.beq_true rfl, cond_true]
  unfold gP; rw [blt_true (Nat.lt_succ_self k)]; rfl
 ·rw [AM.beq_false e, cond_false]
  unfold gP
  by_cases h : k < i
  ·rw [blt_true h, blt_true (by omega)]
  ·rw [blt_false' h, blt_false' (by omega)]
theorem gP_no {r : Nat -> Rep} {i : Nat} (h : pushB (r i) = r i) : (fun k => encRep (gP r i k)) = fun k => encRep (gP r (i + 1) k) := by
 rw [<- gP_yes, h]
 funext k
 by_cases e : k = i
 ·subst e
  rw [AM.beq_true rfl, cond_true, gP_at]
 ·rw [AM.beq_false e, cond_false]
theorem pu_run {M N : Nat} {c : CConf} {p : PlayB} (h : PIs N c p) (hN : N <= 980) : ∀ d i j, i + d = 3 -> d < j -> LPu M j (SPu p 3 (fun k => encRep (gP (fun k => p.reps.getD k default) i k)) (i : Nat)) = some (.agg (plR p (.tr 15 3 fun k => encRep (gP (fun k => p.reps.getD k default) 3 k)))) := by
 intro d
 induction d with
 | zero =>
  intro i j hi hj
  obtain ⟨j, rfl⟩ : ∃ k, j = k + 1 := ⟨j - 1, by omega⟩
  have : i = 3 := by omega
  subst this
  rw [pu_st, decide_eq_false (by omega), cond_false]; rfl
 | succ d ih =>
  intro i j hi hj
  obtain ⟨j, rfl⟩ : ∃ k, j = k + 1 := ⟨j - 1, by omega⟩
  have hil : i < 3 := by omega
  have hr : RepIs N N (p.reps.getD i default) := h.rep i hil
  rw [pu_st, decide_eq_true (by omega), cond_true, ix_eq hil, ix_eq hil, ix_eq hil, Int.toNat_natCast, Nat.zero_add, gP_at, pshG_eq hr (by omega), wrapS (by omega)]
  have i1 := ih (i + 1) j (by omega) (by omega)
  cases hp : (headPush (p.reps.getD i default, entP (nextV (p.reps.getD i default)))).2 with
  | true =>
   rw [cond_true, rg_eq hil, blt_true hil, Bool.and_true, cond_true]
   have e : (headPush (p.reps.getD i default, entP (nextV (p.reps.getD i default)))).1 = pushB (p.reps.getD i default) := rfl
   have e2 : (fun k => bif k.beq i then encRep (pushB (p.reps.getD i default)) else encRep (gP (fun k => p.reps.getD k default) i k)) = fun k => encRep (gP (fun k => p.reps.getD k default) (i + 1) k) := gP_yes (fun k => p.reps.getD k default) i
   rw [e, e2]
   exact i1
  | false =>
   have e : pushB ((fun k => p.reps.getD k default) i) = (fun k => p.reps.getD k default) i := headPush_no hp
   have e2 : (fun k => encRep (gP (fun k => p.reps.getD k default) i k)) = fun k => encRep (gP (fun k => p.reps.getD k default) (i + 1) k) := gP_no e
   rw [cond_false, e2]
   exact i1
theorem plR_sub {p : PlayB} {R : AV} {l : List Rep} (h : SubV R (encReps l)) : SubC (plR p R) (encPB { p with reps := l }) :=
 .cons (.refl _) (.cons (.refl _) (.cons (.refl _) (.cons (.refl _) (.cons (.refl _) (.cons (.refl _) (.cons (.refl _) (.cons (.refl _) (.cons h (.refl _)))))))))
theorem ro_eq {R : Type} {n : Nat} {E K : Option R} (h : 0 < n) (h' : n <= 1000) : ro n E K = K := by
 unfold ro
 rw [roomV (n := 0 + n) (b := 208) (by omega) (by omega), cond_true, AM.beq_false (by omega), cond_false]
theorem res_sub (n : Int) : SubC (resC n) (encMsg (resMg n)) := subC_all (by repeat' (first | exact trivial | exact nilsL | exact SubV.refl _ | refine ⟨?_, ?_⟩))
theorem lay1 {p : PlayB} {C : List AV} {x : Msg} {K : PlayB × List Msg -> Option AV} (hw : p.way.length <= 100000) (hd : decMsg C = x) (hs : SubC C (encMsg x)) : gC dLay pLay eLay [.agg (encPB p), .trl 31 [C]] K = K (p, [x]) :=
 qLay hw (by simp) (Prod.ext (dec_encPB p) (by show [decMsg C] = [x]; rw [hd])) (.cons (.refl _) (.cons (SubV.trans (one_trl hs) (SubV.trl_encL (e := encMsg) (z := default) [x])) .nil))
theorem lay1' {p : PlayB} {x : Msg} {K : PlayB × List Msg -> Option AV} (hw : p.way.length <= 100000) : gC dLay pLay eLay [.agg (encPB p), .trl 31 [encMsg x]] K = K (p, [x]) := lay1 hw (dec_encMsg x) (.refl _)
theorem layn {p : PlayB} {l : List Msg} {K : PlayB × List Msg -> Option AV} (hw : p.way.length <= 100000) (hl : l.length <= 100000) : gC dLay pLay eLay [.agg (encPB p), encMsgs l] K = K (p, l) := qLay hw hl (Prod.ext (dec_encPB p) (decMsgs l)) (.refl _)
theorem mF_sub {l : List Msg} {f : Nat -> List AV} (h : ∀ i, i < l.length -> f i = mF l i) : SubV (.tr 31 l.length f) (encMsgs l) := SubV.trs fun i hi => by rw [h i hi]; exact .refl _
theorem mF_dec {l : List Msg} {f : Nat -> List AV} (h : ∀ i, i < l.length -> f i = mF l i) : decL decMsg (.tr 31 l.length f) = l := by
 show (List.range l.length).map (fun i => decMsg (f i)) = l
 refine List.ext_getElem (by simp) fun i h1 h2 => ?_
 simp only [List.getElem_map, List.getElem_range]
 rw [h i h2]
 unfold mF
 rw [dec_encMsg]
 simp [List.getD, List.getElem?_eq_getElem h2]
theorem plC_dec {p : PlayB} {W : AV} {l : List Msg} (h : decL decMsg W = l) : decPB (plC p W) = wayB p l := by
 have hb := dec_encBu p.b [stV p.fe, encReps p.reps, W, eV p.safe, .int .i64 p.reset]
 show (⟨decBu (encBu p.b ++ [stV p.fe, encReps p.reps, W, eV p.safe, .int .i64 p.reset]), p.fe, decL decRep (encReps p.reps), decL decMsg W, p.safe, p.reset⟩ : PlayB) = _
 rw [hb, decReps, h]; rfl
theorem gvL_eq {p : PlayB} {c : CConf} {x : Msg} {W : AV} {l : List Msg} (h1 : SubV W (encMsgs l)) (h2 : decL decMsg W = l) (h : GvOk (wayB p l) c x) : gvL p c x W = some (.agg (encPB (giveB c (wayB p l) x))) := by
 unfold gvL
 refine gC_eq (⟨wayB p l, c, x⟩ : GX3) ?_ h (.cons (.agg (plC_sub h1)) (.refl _))
 show (⟨decPB (plC p W), decCf (encCf c), decMsg (encMsg x)⟩ : GX3) = _
 rw [plC_dec h2, dec_encMsg]; rfl
theorem do_con' {N k i : Nat} {c : CConf} {p : PlayB} (h : PIs N c p) (hN : N <= 980) (hw : p.way.length <= 5000) (k1 : k <= 255) (hi : i <= 255) :
  ∃ v, callT (envO kns74) 1001 F_lockgatelaw21_do [.agg (encPB p), .agg (encCf c), .agg [.int .u8 (k : Int), .int .u8 (i : Int)]] = some v /\ SubV v (.agg (encPB (doB c (k % 12) i p))) := by
 have hrl := h.rl
 have t12 : tmI (k : Int) 12 = ((k % 12 : Nat) : Int) := tmI_eq (n := 12) k1
 rw [do_eq 1000, t12]
 generalize hk : k % 12 = q
 have hq : q < 12 := by rw [<- hk]; exact Nat.mod_lt _ (by omega)
 unfold doK doB
 have c5 : decide ((q : Int) <= 5) = decide (q <= 5) := decide_eq_decide.2 (by omega)
 have cc : ∀ n : Nat, decide ((q : Int) = (n : Int)) = decide (q = n) := fun n => dec_natI q n
 have e4 : decide ((q : Int) = 4) = decide (q = 4) := cc 4
 have e5 : decide ((q : Int) = 5) = decide (q = 5) := cc 5
 have e6 : decide ((q : Int) = 6) = decide (q = 6) := cc 6
 have e7 : decide ((q : Int) = 7) = decide (q = 7) := cc 7
 have e8 : decide ((q : Int) = 8) = decide (q = 8) := cc 8
 have e10 : decide ((q : Int) = 10) = decide (q = 10) := cc 10
 have e11 : decide ((q : Int) = 11) = decide (q = 11) := cc 11
 rw [c5, e6, e7, e8, e10, e11]
 cases decide (q <= 5) with
 | true =>
  rw [cond_true, cond_true]
  unfold wayK
  rw [e4, e5]
  by_cases hw0 : p.way.length = 0
  ·rw [decide_eq_true (by omega : (p.way.length : Int) = 0), decide_eq_true hw0]
   exact ⟨_, rfl, .refl _⟩
  ·have hlt : i % p.way.length < p.way.length := Nat.mod_lt _ (by omega)
   have hm := mem_getDw hlt
   rw [decide_eq_false (by omega : ¬ (p.way.length : Int) = 0), decide_eq_false hw0, cond_false, cond_false, nz_eq hw0, tmI_eq hi, rg_eq hlt, Int.toNat_natCast]
   cases decide (q = 5) with
   | true =>
    rw [cond_true, cond_true]
    unfold dupL
    rw [lay1' (by omega)]
    exact ⟨_, rfl, .refl _⟩
   | false =>
    rw [cond_false, cond_false]
    generalize p.way.getD (i % p.way.length) default = x at hm
    have hx := h.way x hm
    have he : ∀ y ∈ p.way.eraseIdx (i % p.way.length), y ∈ p.way := fun y hy => List.mem_of_mem_eraseIdx hy
    have hel : (p.way.eraseIdx (i % p.way.length)).length <= p.way.length := by rw [List.length_eraseIdx]; split <;> omega
    have hp := h.wayB he
    have hg := give_is21 hp hx (by omega)
    have hg := hg.ok (by show (p.way.eraseIdx _).length <= _; omega)
    rcases takW_eq (w := p.way) (t := i % p.way.length) (E := bif decide (q = 4) then some (plB p (.trl 31 [])) else gvL p c x (.trl 31 []))
     (S := fun n f => bif decide (q = 4) then gW n <| some (plB p (.tr 31 n f)) else gW2 n <| gvL p c x (.tr 31 n f)) hlt (by omega) with ⟨h1, h2⟩ | ⟨f, h1, h2⟩
    ·rw [h2]
     rw [h1] at hg ⊢
     cases decide (q = 4) with
     | true => exact ⟨_, rfl, .agg (plC_sub msgs_nil)⟩
     | false =>
      rw [cond_false, cond_false, gvL_eq msgs_nil rfl hg]
      exact ⟨_, rfl, .refl _⟩
    ·rw [h1]
     rw [gW_eq, gW2_eq]
     cases decide (q = 4) with
     | true => exact ⟨_, rfl, .agg (plC_sub (mF_sub h2))⟩
     | false =>
      rw [cond_false, cond_false, gvL_eq (mF_sub h2) (mF_dec h2) hg]
      exact ⟨_, rfl, .refl _⟩
 | false =>
  rw [cond_false, cond_false]
  have hat : i % p.reps.length < p.reps.length := Nat.mod_lt _ (by omega)
  have hat3 : i % p.reps.length < 3 := by omega
  have hr := h.rep _ hat3
  cases decide (q = 6) with
  | true =>
   rw [cond_true, cond_true]
   unfold tickK
   have o := tick_is h.b (by omega)
   have := o.len
   rw [qTick (h.b.kok (by omega) rfl)]
   dsimp only
   rw [layn (by show p.way.length <= _; omega) (by omega)]
   exact ⟨_, rfl, .refl _⟩
  | false =>
   rw [cond_false, cond_false]
   cases decide (q = 10) with
   | true =>
    rw [cond_true, cond_true]
    unfold openK
    have hc := h.b.ch.1
    have hv := h.b.va.1
    have q0 : ∀ K : Bk -> Option AV, gC (fun a => decBk (argC a 0)) (fun k => k.p.chain.length <= 1000 /\ k.p.valid.length <= 1000) (fun k => [.agg (encBk k)]) [.agg [.int .i64 p.b.e, .int .i64 p.b.g, .trl 8 [encPlan p.b.p]]] K = K ⟨p.b.e, p.b.g, p.b.p⟩ := fun K =>
     gC_eq (⟨p.b.e, p.b.g, p.b.p⟩ : Bk) (dec_encBk ⟨p.b.e, p.b.g, p.b.p⟩) ⟨Nat.le_trans hc (by omega), Nat.le_trans hv (by omega)⟩ (.refl _)
    rw [q0]
    exact ⟨_, rfl, .refl _⟩
   | false =>
    rw [cond_false, cond_false]
    cases decide (q = 11) with
    | true =>
     rw [cond_true, cond_true]
     unfold resK
     rw [lay1 (x := resMg (IntKind.i64.wrap (p.reset + 1))) (by show p.way.length <= _; omega) rfl (res_sub _)]
     exact ⟨_, rfl, .refl _⟩
    | false =>
     rw [cond_false, cond_false, nz_eq (by omega), tmI_eq hi, rg_eq hat]
     have hd : p.reps.getD (i % p.reps.length) default = rpB p (i % p.reps.length) := rfl
     cases decide (q = 7) with
     | true =>
      rw [cond_true, cond_true]
      unfold beatK
      rw [Int.toNat_natCast, hd]
      have q0 : ∀ K : Rep -> Option AV, gC (fun a => decRep (argC a 0)) (fun _ => True) (fun r => [.agg (encRep r)]) [.agg (encRep (rpB p (i % p.reps.length)))] K = K (rpB p (i % p.reps.length)) := fun K => gC_eq _ (dec_encRep _) trivial (.refl _)
      have q1 : ∀ K : Rep -> Option AV, gC dRep1 RepAg eRep1 [.agg (encRep (rpB p (i % p.reps.length)))] K = K (rpB p (i % p.reps.length)) := fun K => qRep1 (hr.ag (by omega))
      have hal := againP_len hr
      rw [q0, lay1' (by omega)]
      dsimp only
      rw [q1, layn (by show (p.way ++ [_]).length <= _; simp; omega) (by omega)]
      exact ⟨_, rfl, .refl _⟩
     | false =>
      rw [cond_false, cond_false, ro_eq (by omega) (by omega)]
      cases decide (q = 8) with
      | true =>
       rw [cond_true, cond_true]
       unfold cnG
       have q0 : ∀ K : Member -> Option AV, gC (fun a => decMember (argC a 1)) (fun _ => True) (fun m => [.int .i64 0, .agg (encMember m)]) [.int .i64 0, .agg [.int .i64 (rpB p (i % p.reps.length)).self.node, .int .i64 (IntKind.i64.wrap ((rpB p (i % p.reps.length)).self.boot + 1))]] K = K ⟨(rpB p (i % p.reps.length)).self.node, IntKind.i64.wrap ((rpB p (i % p.reps.length)).self.boot + 1)⟩ := fun K =>
        gC_eq (⟨(rpB p (i % p.reps.length)).self.node, IntKind.i64.wrap ((rpB p (i % p.reps.length)).self.boot + 1)⟩ : Member) rfl trivial (.refl _)
       rw [Int.toNat_natCast, hd, q0, rg_eq hat, Nat.zero_add, blt_true hat, Bool.and_true, cond_true, ble_true (Nat.le_refl _), Bool.or_true, Bool.and_true, cond_true]
       exact ⟨_, rfl, .agg (plR_sub (setRs_sub _ _ _))⟩
      | false =>
       rw [cond_false, cond_false, hrl]
       have r := pu_run (M := 1000) h hN 3 0 1000 (by omega) (by omega)
       have e0 : (fun k => encRep (gP (fun k => p.reps.getD k default) 0 k)) = fun k => encRep (p.reps.getD k default) := rfl
       rw [e0, Int.natCast_zero] at r
       refine ⟨_, r, .agg (plR_sub ?_)⟩
       unfold encReps encL
       rw [List.length_map, hrl]
       refine SubV.trs fun k hk => ?_
       have : (p.reps.map pushB).getD k default = gP (fun k => p.reps.getD k default) 3 k := by
        unfold gP
        rw [blt_true hk, cond_true]
        have : k < p.reps.length := by omega
        simp [List.getD, this]
       rw [this]; exact .refl _
structure DX3 where
 p : PlayB
 c : CConf
 k : Nat
 i : Nat
def decDX3 (a : List AV) : DX3 := ⟨decPB (argC a 0), decCf (argC a 1), (getI (argC a 2) 0).toNat, (getI (argC a 2) 1).toNat⟩
def encDX3 (x : DX3) : List AV := [.agg (encPB x.p), .agg (encCf x.c), .agg [.int .u8 (x.k : Int), .int .u8 (x.i : Int)]]
theorem dec_encDX3 (x : DX3) : decDX3 (encDX3 x) = x := by
 obtain ⟨p, c, k, i⟩ := x
 show (⟨decPB (encPB p), c, k, i⟩ : DX3) = _
 rw [dec_encPB]
def pDX3 (x : DX3) : Prop := (∃ N, N <= 980 /\ PIs N x.c x.p) /\ x.p.way.length <= 5000 /\ x.k <= 255 /\ x.i <= 255
def oDX3 (x : DX3) : AV := .agg (encPB (doB x.c (x.k % 12) x.i x.p))
theorem do_con21 (x : DX3) (h : pDX3 x) : Contract PG F_lockgatelaw21_do (encDX3 x) [] (oDX3 x) [] := by
 obtain ⟨⟨N, hN, hp⟩, hw, h1, h2⟩ := h
 obtain ⟨v, e1, e2⟩ := do_con' hp hN hw h1 h2
 exact (con74 e1).res e2
def kDo21 : Known := .spec F_lockgatelaw21_do decDX3 pDX3 encDX3 oDX3
theorem kDo21_ok : kDo21.Ok PG := Known.spec_ok do_con21
end Go.Wk
end
noncomputable section
open Go Go.AM Go.Md Go.Fl
namespace Go.Wk
set_option maxRecDepth 100000
set_option maxHeartbeats 4000000
def confP (k : Int) : CConf := ⟨IntKind.i64.wrap (1 + k.tmod 3), 2, 3⟩
theorem conf_eq (k : Int) : callT env0 5 F_lockgateref21_Conf [.int .i64 k] = some (.agg (encCf (confP k))) := by kernel_rfl
def kConf : Known := .spec F_lockgateref21_Conf (fun a => getI a 0) (fun _ => True) (fun k => [.int .i64 k]) (fun k => .agg (encCf (confP k)))
theorem kConf_ok : kConf.Ok PG := Known.spec_ok fun k _ => con0 (conf_eq k)
def zeroPl : Plan := ⟨0, 0, 0, false, 0, 0, [], []⟩
def beginB21 : PlayB := ⟨openB ⟨0, 0, zeroPl⟩, 0, [rep0 ⟨2, 1⟩, rep0 ⟨3, 1⟩, rep0 ⟨4, 1⟩], [], ⟨0, 0⟩, 0⟩
def zRepC (i : Nat) : List AV := [.int .i64 0, .int .i64 (2 + i), .int .i64 1, .int .i64 0, .int .i64 0, .int .i64 0, .int .i64 0, .nils, .int .i64 0, .cplx .f64 0 0, .cplx .f64 0 0, .nils, .nils, .cplx .f64 0 0, .nils]
def begA21 (y2 y3 : List Member) : AV := .agg [.int .i64 0, .int .i64 0, .trl 8 [[.int .i64 0, .int .i64 0, .int .i64 0, .bool false, .int .i64 0, .int .i64 0, encMembers y2, encMembers y3]], .nils, .trl 4 [[.bool false, .nils, .nils, .bool false]], .nils, .nils, .trl 3 [[.int .i64 0, .cplx .f64 0 0, .nils]], .trl 15 ((List.range 3).map zRepC), .nils, .cplx .f64 0 0, .int .i64 0]
theorem begin21_eq (c : CConf) : callT (envO kns71) 30 F_lockgatelaw21_begin [.agg (encCf c)] =
 gC (dL decMember) shortL eMems [.nils] fun y2 => gC (dL decMember) shortL eMems [.nils] fun y3 => some (begA21 y2 y3) := by kernel_rfl
theorem begin21_con (c : CConf) (_ : True) : Contract PG F_lockgatelaw21_begin [.agg (encCf c)] [] (.agg (encPB beginB21)) [] := by
 have e := begin21_eq c
 have q : ∀ K : List Member -> Option AV, gC (dL decMember) shortL eMems [.nils] K = K [] := fun K => gC_eq [] rfl (Nat.zero_le _) (.cons nilsL .nil)
 rw [q, q] at e
 have hr : SubV (.trl 15 ((List.range 3).map zRepC)) (encReps [rep0 ⟨2, 1⟩, rep0 ⟨3, 1⟩, rep0 ⟨4, 1⟩]) := subB_ok 9 _ _ (by kernel_rfl)
 refine (con71 e).res (.agg ?_)
 exact .cons (.refl _) (.cons (.refl _) (.cons (.refl _) (.cons nilsL (.cons (one_trl (.cons (.refl _) (.cons nilsL (.refl _)))) (.cons (.refl _) (.cons nilsL (.cons (.refl _) (.cons hr (.cons nilsL (.refl _))))))))))
def kBegin21 : Known := .spec F_lockgatelaw21_begin (fun a => decCf (argC a 0)) (fun _ => True) (fun c => [.agg (encCf c)]) (fun _ => .agg (encPB beginB21))
theorem kBegin21_ok : kBegin21.Ok PG := Known.spec_ok begin21_con
theorem awake21_eq : callT env0 60 F_lockgatelaw21_awake [] = some (.bool true) := by kernel_rfl
def kAwake21 : Known := .one F_lockgatelaw21_awake [] (.bool true)
theorem kAwake21_ok : kAwake21.Ok PG := Known.one_ok (con0 awake21_eq)
end Go.Wk
end
noncomputable section
open Go Go.AM Go.Md Go.Fl
namespace Go.Wk
set_option maxRecDepth 100000
set_option maxHeartbeats 400000
def zRep : List AV := [.int .i64 0, .int .i64 0, .int .i64 0, .int .i64 0, .int .i64 0, .int .i64 0, .int .i64 0, .nils, .int .i64 0, .cplx .f64 0 0, .cplx .f64 0 0, .nils, .nils, .cplx .f64 0 0, .nils]
def SRp (p : PlayB) (m : Member) (i : Int) : St := { fr := [(2, .ptr 0 0 0), (3, .ptr 1 0 0), (4, .ptr 2 0 0), (6, .int .i64 i)], hp := [.arr true 12 [encPB p], .arr true 2 [encMember m], .arr true 15 [zRep]] }
def LRp (N j : Nat) (S : St) : Option AV := LP env0 N 0 F_lockgateref21_Rep snK 0 [] j S
theorem rep_in (N : Nat) (p : PlayB) (m : Member) : callT env0 (N + 1) F_lockgateref21_Rep [.agg (encPB p), .agg (encMember m)] = LRp N N (SRp p m 0) := by kernel_rfl
theorem rep_st (N j : Nat) (p : PlayB) (m : Member) (i : Int) : LRp N (j + 1) (SRp p m i) =
 bif decide (i < (p.reps.length : Int)) then rg i p.reps.length <| bif decide ((p.reps.getD i.toNat default).self.node = m.node) && (decide ((p.reps.getD i.toNat default).self.boot = m.boot) && true) then
   rg i p.reps.length <| some (.tup [.agg (encRep (p.reps.getD i.toNat default)), .bool true])
  else LRp N j (SRp p m (IntKind.i64.wrap (i + 1)))
 else some (.tup [.agg zRep, .bool false]) := by kernel_rfl
def repL (m : Member) : List Rep -> Rep × Bool
 | [] => (rep0 ⟨0, 0⟩, false)
 | r :: l => bif decide (r.self = m) then (r, true) else repL m l
theorem mem_dec2 (a b : Member) : (decide (a.node = b.node) && (decide (a.boot = b.boot) && true)) = decide (a = b) := by
 obtain ⟨a1, a2⟩ := a
 obtain ⟨b1, b2⟩ := b
 rw [Bool.and_true]
 by_cases h1 : a1 = b1
 ·by_cases h2 : a2 = b2
  ·subst h1; subst h2; simp
  ·simp [h2]
 ·simp [h1]
def oRp (x : Rep × Bool) : AV := .tup [.agg (encRep x.1), .bool x.2]
theorem zRep_sub : SubC zRep (encRep (rep0 ⟨0, 0⟩)) := subC_all (by repeat' (first | exact trivial | exact nilsL | exact SubV.refl _ | refine ⟨?_, ?_⟩))
theorem rep_con (x : PlayB × Member) (h : x.1.reps.length <= 1000) : Contract PG F_lockgateref21_Rep [.agg (encPB x.1), .agg (encMember x.2)] [] (oRp (repL x.2 x.1.reps)) [] := by
 obtain ⟨p, m⟩ := x
 have h : p.reps.length <= 1000 := h
 have run : ∀ d i j, i + d = p.reps.length -> d < j -> ∃ v, LRp 1001 j (SRp p m (i : Nat)) = some v /\ SubV v (oRp (repL m (p.reps.drop i))) := by
  intro d
  induction d with
  | zero =>
   intro i j hi hj
   obtain ⟨j, rfl⟩ : ∃ k, j = k + 1 := ⟨j - 1, by omega⟩
   rw [rep_st, decide_eq_false (by omega), cond_false, List.drop_eq_nil_of_le (by omega)]
   exact ⟨_, rfl, .tup (.cons (.agg zRep_sub) (.refl _))⟩
  | succ d ih =>
   intro i j hi hj
   obtain ⟨j, rfl⟩ : ∃ k, j = k + 1 := ⟨j - 1, by omega⟩
   have hil : i < p.reps.length := by omega
   rw [rep_st, decide_eq_true (by omega), cond_true, rg_eq hil, rg_eq hil, Int.toNat_natCast, wrapS (by omega), drop_cons (z := default) hil, mem_dec2]
   show ∃ v, _ = some v /\ SubV v (oRp (bif decide ((p.reps.getD i default).self = m) then (p.reps.getD i default, true) else repL m (p.reps.drop (i + 1))))
   cases decide ((p.reps.getD i default).self = m) with
   | true => exact ⟨_, rfl, .refl _⟩
   | false => exact ih (i + 1) j (by omega) (by omega)
 obtain ⟨v, r1, r2⟩ := run p.reps.length 0 1001 (by omega) (by omega)
 rw [List.drop_zero] at r2
 exact (con0 ((rep_in 1001 p m).trans r1)).res r2
def dRpM (a : List AV) : PlayB × Member := (decPB (argC a 0), decMember (argC a 1))
def eRpM (x : PlayB × Member) : List AV := [.agg (encPB x.1), .agg (encMember x.2)]
def pRpM (x : PlayB × Member) : Prop := x.1.reps.length <= 1000
def kRep21 : Known := .spec F_lockgateref21_Rep dRpM pRpM eRpM (fun x => oRp (repL x.2 x.1.reps))
theorem kRep21_ok : kRep21.Ok PG := Known.spec_ok rep_con
theorem qRpM {R : Type} {p : PlayB} {m : Member} {K : PlayB × Member -> Option R} (h : p.reps.length <= 1000) : gC dRpM pRpM eRpM [.agg (encPB p), .agg (encMember m)] K = K (p, m) := gC_eq (p, m) (Prod.ext (dec_encPB p) (dec_encMember m)) h (.refl _)
abbrev Stp := Nat × Nat
def encStp (s : Stp) : List AV := [.int .u8 (s.1 : Int), .int .u8 (s.2 : Int)]
def encStps (l : List Stp) : AV := encL 2 encStp (0, 0) l
def gAwk {R : Type} (K : Option R) : Option R := gC (fun _ => ()) (fun _ => True) (fun _ => ([] : List AV)) [] fun _ => K
def gCnf (k : Int) (K : CConf -> Option AV) : Option AV := gC (fun a => getI a 0) (fun _ => True) (fun k => [.int .i64 k]) [.int .i64 k] fun y => gC (fun a => decCf (argC a 0)) (fun _ => True) (fun c => [.agg (encCf c)]) [.agg (encCf (confP y))] fun _ => K (confP y)
def gDo21 (p : PlayB) (c : CConf) (s : Stp) (K : DX3 -> Option AV) : Option AV := gC decDX3 pDX3 encDX3 [.agg (encPB p), .agg (encCf c), .agg (encStp s)] K
def gRp (p : PlayB) (m : Member) (K : PlayB × Member -> Option AV) : Option AV := gC dRpM pRpM eRpM [.agg (encPB p), .agg (encMember m)] K
def kns90 : List Known := [kCommit, kLater]
theorem kns90_ok : ∀ k ∈ kns90, k.Ok PG := ak kCommit_ok (ak kLater_ok ank)
theorem con90 {n f : Nat} {xs : List AV} {r : AV} (e : callT (envO kns90) n f xs = some r) : Contract PG f xs [] r [] := con_of (md := fun _ => none) kns90_ok e
def SNo (p : PlayB) (j : Int) : St := { fr := [(1, .ptr 0 0 0), (2, .ptr 1 0 0), (3, .int .i64 j)], hp := [.arr true 12 [encPB p], .arr true 12 [zPB]] }
def LNo (N k : Nat) (s : St) : Option AV := LP (envO kns90) N 0 F_lockgatelaw21_note snK 0 [] k s
theorem note_in (N : Nat) (p : PlayB) : callT (envO kns90) (N + 1) F_lockgatelaw21_note [.agg (encPB p)] = LNo N N (SNo p 0) := by kernel_rfl
theorem note_st (N k : Nat) (p : PlayB) (j : Int) : LNo N (k + 1) (SNo p j) =
  bif decide (j < (p.reps.length : Int)) then rg j p.reps.length <| gC dRep1 pRep1 eRep1 [.agg (encRep (p.reps.getD j.toNat default))] fun y1 => gC dV2 V2 eV2 [eV p.safe, eV (commitP y1)] fun y2 => LNo N k (SNo { p with safe := vmax y2.1 y2.2 } (IntKind.i64.wrap (j + 1)))
  else some (.agg (encPB p)) := by kernel_rfl
def noteR : Ver -> List Rep -> Ver
 | v, [] => v
 | v, r :: l => noteR (vmax v (commitP r)) l
def noteB (p : PlayB) : PlayB := { p with safe := noteR p.safe p.reps }
theorem note_run {M N : Nat} (hN : N <= 1000) : ∀ d i k (p : PlayB), p.reps.length <= 1000 -> VB N p.safe -> (∀ r ∈ p.reps, RepIs N N r) -> i + d = p.reps.length -> d < k -> LNo M k (SNo p (i : Nat)) = some (.agg (encPB { p with safe := noteR p.safe (p.reps.drop i) })) := by
 intro d
 induction d with
 | zero =>
  intro i k p hl hs hr hi hk
  obtain ⟨k, rfl⟩ : ∃ j, k = j + 1 := ⟨k - 1, by omega⟩
  rw [note_st, decide_eq_false (by omega), cond_false, List.drop_eq_nil_of_le (by omega)]; rfl
 | succ d ih =>
  intro i k p hl hs hr hi hk
  obtain ⟨k, rfl⟩ : ∃ j, k = j + 1 := ⟨k - 1, by omega⟩
  have hil : i < p.reps.length := by omega
  have hm : p.reps.getD i default ∈ p.reps := by simp [List.getD, List.getElem?_eq_getElem hil]
  have hri := hr _ hm
  have hv := (commitP_is hri).1
  rw [note_st, decide_eq_true (by omega), cond_true, rg_eq hil, Int.toNat_natCast, qRep1 (P := pRep1) trivial]
  have q2 : ∀ K : Ver × Ver -> Option AV, gC dV2 V2 eV2 [eV p.safe, eV (commitP (p.reps.getD i default))] K = K (p.safe, commitP (p.reps.getD i default)) := fun K => qV2 (hs.num hN) (hv.num hN)
  rw [q2, wrapS (by omega), drop_cons (z := default) hil]
  exact ih (i + 1) k { p with safe := vmax p.safe (commitP (p.reps.getD i default)) } hl (hs.max hv) hr (by show i + 1 + d = p.reps.length; omega) (by omega)
def pNo (p : PlayB) : Prop := ∃ N, N <= 1000 /\ p.reps.length <= 1000 /\ VB N p.safe /\ ∀ r ∈ p.reps, RepIs N N r
theorem note_con21 (p : PlayB) (h : pNo p) : Contract PG F_lockgatelaw21_note [.agg (encPB p)] [] (.agg (encPB (noteB p))) [] := by
 obtain ⟨N, hN, hl, hs, hr⟩ := h
 have r0 := note_run (M := p.reps.length + 1) hN p.reps.length 0 (p.reps.length + 1) p hl hs hr (Nat.zero_add _) (Nat.lt_succ_self _)
 rw [Int.natCast_zero, List.drop_zero] at r0
 exact con90 ((note_in (p.reps.length + 1) p).trans r0)
def kNote21 : Known := .spec F_lockgatelaw21_note (fun a => decPB (argC a 0)) pNo (fun p => [.agg (encPB p)]) (fun p => .agg (encPB (noteB p)))
theorem kNote21_ok : kNote21.Ok PG := Known.spec_ok note_con21
theorem qNote21 {R : Type} {p : PlayB} {K : PlayB -> Option R} (h : pNo p) : gC (fun a => decPB (argC a 0)) pNo (fun p => [.agg (encPB p)]) [.agg (encPB p)] K = K p := gC_eq p (dec_encPB p) h (.refl _)
theorem has_eq (r : Rep) (v : Ver) : callT (envO [kRAhead]) 3 F_lockgateref18_Has [.agg (encRep r), eV v] =
  bif !decide (r.view.phase = 0) then gC dV2 V2 eV2 [eV r.tail.last, eV v] fun y => some (.bool !vlt y.1 y.2) else some (.bool false) := by kernel_rfl
def hasP (r : Rep) (v : Ver) : Bool := !decide (r.view.phase = 0) && !vlt r.tail.last v
def dRVr (a : List AV) : Rep × Ver := (decRep (argC a 0), ⟨(getC a 1).1, (getC a 1).2⟩)
def pRVr (x : Rep × Ver) : Prop := VNum x.1.tail.last /\ VNum x.2
def eRVr (x : Rep × Ver) : List AV := [.agg (encRep x.1), eV x.2]
theorem has_con (x : Rep × Ver) (h : pRVr x) : Contract PG F_lockgateref18_Has (eRVr x) [] (.bool (hasP x.1 x.2)) [] := by
 obtain ⟨r, v⟩ := x
 have k := has_eq r v
 have q : ∀ K : Ver × Ver -> Option AV, gC dV2 V2 eV2 [eV r.tail.last, eV v] K = K (r.tail.last, v) := fun K => qV2 h.1 h.2
 rw [q] at k
 have e : (bif !decide (r.view.phase = 0) then some (AV.bool !vlt r.tail.last v) else some (.bool false)) = some (AV.bool (hasP r v)) := by unfold hasP; cases decide (r.view.phase = 0) <;> rfl
 have k := k.trans e
 exact con_of (md := fun _ => none) (ak kRAhead_ok ank) k
def kHas : Known := .spec F_lockgateref18_Has dRVr pRVr eRVr (fun x => .bool (hasP x.1 x.2))
theorem kHas_ok : kHas.Ok PG := Known.spec_ok has_con
theorem qHas {R : Type} {r : Rep} {v : Ver} {K : Rep × Ver -> Option R} (h1 : VNum r.tail.last) (h2 : VNum v) : gC dRVr pRVr eRVr [.agg (encRep r), eV v] K = K (r, v) := gC_eq (r, v) (Prod.ext (dec_encRep r) rfl) ⟨h1, h2⟩ (.refl _)
theorem ep_eq (v : Ver) : callT env0 4 F_ver_Epoch [eV v] = gF v.re (some (.int .i64 (vE v))) := by kernel_rfl
theorem ep_con (v : Ver) (h : VNum v) : Contract PG F_ver_Epoch [eV v] [] (.int .i64 (ep v)) [] := con0 ((ep_eq v).trans (by rw [gF_eq h.int.1, vE_ep h]))
def kEpoch : Known := .spec F_ver_Epoch dV1 VNum eV1 (fun p => .int .i64 (ep p))
theorem kEpoch_ok : kEpoch.Ok PG := Known.spec_ok ep_con
def kns95 : List Known := [kAwake21, kConf, kBegin21, kDo21, kNote21, kRep21, kHas, kEpoch]
theorem kns95_ok : ∀ k ∈ kns95, k.Ok PG := ak kAwake21_ok (ak kConf_ok (ak kBegin21_ok (ak kDo21_ok (ak kNote21_ok (ak kRep21_ok (ak kHas_ok (ak kEpoch_ok ank)))))))
theorem con95 {n f : Nat} {xs : List AV} {r : AV} (e : callT (envO kns95) n f xs = some r) : Contract PG f xs [] r [] := con_of (md := fun _ => none) kns95_ok e
def SOf (l : List Stp) (c : CConf) (p : PlayB) (i : Int) : St := { fr := [(1, encStps l), (5, .ptr 0 0 0), (6, .ptr 1 0 0), (7, .int .i64 i)], hp := [.arr true 15 [encCf c], .arr true 12 [encPB p]] }
def SIf (l : List Stp) (c : CConf) (p : PlayB) (i : Int) (q : Plan) (j : Int) : St := { fr := [(1, encStps l), (5, .ptr 0 0 0), (6, .ptr 1 0 0), (7, .int .i64 i), (8, .ptr 2 0 0), (9, .int .i64 j)], hp := [.arr true 15 [encCf c], .arr true 12 [encPB p], .arr true 8 [encPlan q]] }
def Ls0 (N m : Nat) (S : St) : Option AV := LP (envO kns95) N 0 F_lockgatelaw21_CoordSafe snK 0 [] m S
def Ls2 (N m q : Nat) (S : St) : Option AV := LP (envO kns95) N 0 F_lockgatelaw21_CoordSafe snK 2 [m] q S
theorem sf_in (N : Nat) (k : Int) (l : List Stp) : callT (envO kns95) (N + 1) F_lockgatelaw21_CoordSafe [.int .u8 k, encStps l] =
 gAwk (bif decide (120 < (l.length : Int)) then gAwk (some (.bool true)) else gCnf (IntKind.i64.wrap k) fun c => Ls0 N N (SOf l c beginB21 0)) := by kernel_rfl
def gNo21 (p : PlayB) (K : PlayB -> Option AV) : Option AV := gC (fun a => decPB (argC a 0)) pNo (fun p => [.agg (encPB p)]) [.agg (encPB p)] K
theorem sf_0 (N m : Nat) (l : List Stp) (c : CConf) (p : PlayB) (i : Int) : Ls0 N (m + 1) (SOf l c p i) =
 bif decide (i < (l.length : Int)) then bif decide ((p.way.length : Int) <= 200) then rg i l.length <| gDo21 p c (l.getD i.toNat (0, 0)) fun y => gNo21 (doB y.c (y.k % 12) y.i y.p) fun z =>
   Ls2 N m N (SIf l c (noteB z) i (noteB z).b.p 0)
  else some (.bool true) else some (.bool true) := by kernel_rfl
def gEp21 (v : Ver) (K : Ver -> Option AV) : Option AV := gC dV1 VNum eV1 [eV v] K
def gHs21 (r : Rep) (v : Ver) (K : Rep × Ver -> Option AV) : Option AV := gC dRVr pRVr eRVr [.agg (encRep r), eV v] K
theorem sf_2 (N m q : Nat) (l : List Stp) (c : CConf) (p : PlayB) (i : Int) (pl : Plan) (j : Int) : Ls2 N m (q + 1) (SIf l c p i pl j) =
 bif decide (j < (pl.valid.length : Int)) then rg j pl.valid.length <| gRp p (pl.valid.getD j.toNat default) fun y =>
  bif !(repL y.2 y.1.reps).2 then Ls2 N m q (SIf l c p i pl (IntKind.i64.wrap (j + 1))) else gEp21 p.safe fun v => bif decide ((ep v : Int) < pl.base) then Ls2 N m q (SIf l c p i pl (IntKind.i64.wrap (j + 1))) else
  bif decide ((repL y.2 y.1.reps).1.view.phase = 0) then some (.bool false) else bif decide ((repL y.2 y.1.reps).1.view.epoch < pl.base) then some (.bool false) else
  gHs21 (repL y.2 y.1.reps).1 p.safe fun z => bif !hasP z.1 z.2 then some (.bool false) else Ls2 N m q (SIf l c p i pl (IntKind.i64.wrap (j + 1)))
 else Ls0 N m (SOf l c p (IntKind.i64.wrap (i + 1))) := by kernel_rfl
def memOk (p : PlayB) (base : Int) (m : Member) : Bool :=
 !(repL m p.reps).2 || (decide ((ep p.safe : Int) < base) || (!decide ((repL m p.reps).1.view.phase = 0) && (!decide ((repL m p.reps).1.view.epoch < base) && hasP (repL m p.reps).1 p.safe)))
theorem repL_in {m : Member} : ∀ {l : List Rep}, (repL m l).2 = true -> (repL m l).1 ∈ l
 | [], h => by cases h
 | r :: l, h => by
  have e : repL m (r :: l) = bif decide (r.self = m) then (r, true) else repL m l := rfl
  rw [e] at h ⊢
  cases hs : decide (r.self = m) with
  | true => exact List.mem_cons_self ..
  | false =>
   rw [hs] at h
   exact List.mem_cons_of_mem _ (repL_in h)
theorem si_run {N m M : Nat} {l : List Stp} {c : CConf} {p : PlayB} {i : Nat} {pl : Plan} (hl : p.reps.length <= 1000) (hv : pl.valid.length <= 1000) (hi : i <= 1000) (hM : M <= 1000) (hs : VB M p.safe) (hr : ∀ r ∈ p.reps, VB M r.tail.last) :
  ∀ d j q, j + d = pl.valid.length -> d < q -> Ls2 N m q (SIf l c p i pl (j : Nat)) = bif (pl.valid.drop j).all (memOk p pl.base) then Ls0 N m (SOf l c p ((i + 1 : Nat) : Int)) else some (.bool false) := by
 have wi : IntKind.i64.wrap ((i : Int) + 1) = ((i + 1 : Nat) : Int) := wrapS (by omega)
 intro d
 induction d with
 | zero =>
  intro j q hj hq
  obtain ⟨q, rfl⟩ : ∃ k, q = k + 1 := ⟨q - 1, by omega⟩
  rw [sf_2, decide_eq_false (by omega), cond_false, List.drop_eq_nil_of_le (by omega), wi]; rfl
 | succ d ih =>
  intro j q hj hq
  obtain ⟨q, rfl⟩ : ∃ k, q = k + 1 := ⟨q - 1, by omega⟩
  have hjl : j < pl.valid.length := by omega
  have wj : IntKind.i64.wrap ((j : Int) + 1) = ((j + 1 : Nat) : Int) := wrapS (by omega)
  have i1 := ih (j + 1) q (by omega) (by omega)
  rw [sf_2, decide_eq_true (by omega), cond_true, rg_eq hjl, Int.toNat_natCast, wj, drop_cons (z := default) hjl, List.all_cons]
  generalize pl.valid.getD j default = x
  unfold gRp gEp21 gHs21
  rw [qRpM hl]
  dsimp only
  have q1 : ∀ K : Ver -> Option AV, gC dV1 VNum eV1 [eV p.safe] K = K p.safe := fun K => qV1 (hs.num hM)
  rw [q1, i1]
  unfold memOk
  cases hf : (repL x p.reps).2 with
  | false => rfl
  | true =>
   have q2 : ∀ K : Rep × Ver -> Option AV, gC dRVr pRVr eRVr [.agg (encRep (repL x p.reps).1), eV p.safe] K = K ((repL x p.reps).1, p.safe) := fun K => qHas ((hr _ (repL_in hf)).num hM) (hs.num hM)
   rw [q2]
   cases decide ((ep p.safe : Int) < pl.base) with
   | true => rfl
   | false =>
    cases decide ((repL x p.reps).1.view.phase = 0) with
    | true => rfl
    | false =>
     cases decide ((repL x p.reps).1.view.epoch < pl.base) with
     | true => rfl
     | false =>
      cases hasP (repL x p.reps).1 p.safe with
      | true => rfl
      | false => rfl
def SafeOk (c : CConf) : List Stp -> PlayB -> Prop
 | [], _ => True
 | s :: l, p => (noteB (doB c (s.1 % 12) s.2 p)).b.p.valid.all (memOk (noteB (doB c (s.1 % 12) s.2 p)) (noteB (doB c (s.1 % 12) s.2 p)).b.p.base) = true /\ SafeOk c l (noteB (doB c (s.1 % 12) s.2 p))
theorem do_safe (c : CConf) (k i : Nat) (p : PlayB) : (doB c k i p).safe = p.safe := by
 have hg : ∀ (q : PlayB) (m : Msg), (giveB c q m).safe = q.safe := by
  intro q m
  unfold giveB
  cases decide (m.dst = 0) with
  | true => rfl
  | false =>
   rw [cond_false]
   cases decide (m.dst = 1) with
   | true => rfl
   | false =>
    rw [cond_false]
    rcases giveR_cases m q.reps.length 0 q with e | ⟨j, _, _, e⟩ <;> rw [e] <;> rfl
 unfold doB
 cases decide (k <= 5) with
 | true =>
  rw [cond_true]
  cases decide (p.way.length = 0) with
  | true => rfl
  | false =>
   rw [cond_false]
   cases decide (k = 5) with
   | true => rfl
   | false =>
    rw [cond_false]
    cases decide (k = 4) with
    | true => rfl
    | false => rw [cond_false, hg]; rfl
 | false =>
  rw [cond_false]
  cases decide (k = 6) <;> cases decide (k = 10) <;> cases decide (k = 11) <;> cases decide (k = 7) <;> cases decide (k = 8) <;> rfl
theorem noteR_vb {N : Nat} : ∀ (l : List Rep) {v : Ver}, VB N v -> (∀ r ∈ l, RepIs N N r) -> VB N (noteR v l)
 | [], _, h, _ => h
 | r :: l, v, h, hr => noteR_vb l (h.max (commitP_is (hr r (List.mem_cons_self ..))).1) fun x hx => hr x (List.mem_cons_of_mem _ hx)
theorem PIs.reps {N : Nat} {c : CConf} {p : PlayB} (h : PIs N c p) : ∀ r ∈ p.reps, RepIs N N r := by
 intro r hr
 obtain ⟨j, hj, e⟩ := List.getElem_of_mem hr
 have := h.rep j (by rw [<- h.rl]; exact hj)
 have e2 : rpB p j = r := by unfold rpB; simpa [List.getD, hj] using e
 rw [e2] at this
 exact this
theorem PIs.note {N : Nat} {c : CConf} {p : PlayB} (h : PIs N c p) : PIs N c (noteB p) := { h with }
theorem sf_run {N n : Nat} {l : List Stp} {c : CConf} (hs : ∀ s ∈ l, s.1 <= 255 /\ s.2 <= 255) (hl : l.length <= 120) (hN : 1000 < N) :
  ∀ d i m p, i + d = l.length -> d < m -> PIs (n + 3 * i) c p -> VB (n + 3 * i) p.safe -> n <= 500 -> SafeOk c (l.drop i) p -> Ls0 N m (SOf l c p (i : Nat)) = some (.bool true) := by
 intro d
 induction d with
 | zero =>
  intro i m p hi hm hp hv hn ho
  obtain ⟨m, rfl⟩ : ∃ k, m = k + 1 := ⟨m - 1, by omega⟩
  rw [sf_0, decide_eq_false (by omega), cond_false]
 | succ d ih =>
  intro i m p hi hm hp hv hn ho
  obtain ⟨m, rfl⟩ : ∃ k, m = k + 1 := ⟨m - 1, by omega⟩
  have hil : i < l.length := by omega
  rw [sf_0, decide_eq_true (by omega), cond_true]
  by_cases hw : p.way.length <= 200
  ·rw [decide_eq_true (by omega), cond_true, rg_eq hil, Int.toNat_natCast]
   rw [drop_cons (z := (0, 0)) hil] at ho
   have hm' : l.getD i (0, 0) ∈ l := by simp [List.getD, List.getElem?_eq_getElem hil]
   obtain ⟨b1, b2⟩ := hs _ hm'
   generalize l.getD i (0, 0) = s at ho b1 b2
   have q0 : ∀ K : DX3 -> Option AV, gDo21 p c s K = K ⟨p, c, s.1, s.2⟩ := fun K =>
    gC_eq (⟨p, c, s.1, s.2⟩ : DX3) (dec_encDX3 ⟨p, c, s.1, s.2⟩) ⟨⟨n + 3 * i, by omega, hp⟩, by show p.way.length <= 5000; omega, b1, b2⟩ (.refl _)
   rw [q0]
   dsimp only
   obtain ⟨o1, o2⟩ := ho
   have h3 := (do_is21 (k := s.1 % 12) (i := s.2) hp (by omega)).1
   have hrl := h3.rl
   have hv3 : VB (n + 3 * i + 3) (doB c (s.1 % 12) s.2 p).safe := by rw [do_safe]; exact hv.mono (by omega)
   have q1 : ∀ K : PlayB -> Option AV, gNo21 (doB c (s.1 % 12) s.2 p) K = K (doB c (s.1 % 12) s.2 p) := fun K => qNote21 ⟨n + 3 * i + 3, by omega, by omega, hv3, h3.reps⟩
   rw [q1]
   have hv4 : VB (n + 3 * i + 3) (noteB (doB c (s.1 % 12) s.2 p)).safe := noteR_vb _ hv3 h3.reps
   have r := si_run (N := N) (m := m) (M := n + 3 * i + 3) (l := l) (c := c) (p := noteB (doB c (s.1 % 12) s.2 p)) (i := i) (pl := (noteB (doB c (s.1 % 12) s.2 p)).b.p) (by show (doB c (s.1 % 12) s.2 p).reps.length <= 1000; omega) (by have := h3.b.va.1; show (doB c (s.1 % 12) s.2 p).b.p.valid.length <= 1000; have this : (doB c (s.1 % 12) s.2 p).b.p.valid.length <= 3 := this; omega) (by omega) (by omega) hv4 (fun r hr => (h3.reps r hr).tail.la) _ 0 N (Nat.zero_add _) (by have := h3.b.va.1; show (doB c (s.1 % 12) s.2 p).b.p.valid.length < N; have this : (doB c (s.1 % 12) s.2 p).b.p.valid.length <= 3 := this; omega)
   rw [Int.natCast_zero, List.drop_zero, o1, cond_true] at r
   rw [r]
   exact ih (i + 1) m _ (by omega) (by omega) (by rw [show n + 3 * (i + 1) = n + 3 * i + 3 by omega]; exact h3.note) (by rw [show n + 3 * (i + 1) = n + 3 * i + 3 by omega]; exact hv4) hn o2
  ·rw [decide_eq_false (by omega), cond_false]
abbrev Hist := List (Int × List Member)
def Kn (R : List Rep) (m : Member) : Prop := ∀ r ∈ R, r.self.node = m.node -> m.boot <= r.self.boot
def FzOk (R : List Rep) (m : Member) (e : Int) : Prop := Kn R m /\ ∀ r ∈ R, r.self = m -> e <= r.frozen
theorem FzOk.le {R : List Rep} {m : Member} {e e' : Int} (h : FzOk R m e) (he : e' <= e) : FzOk R m e' := ⟨h.1, fun r hr hs => Int.le_trans he (h.2 r hr hs)⟩
structure OB (H : Hist) (R : List Rep) (s : ES) : Prop where
 fn : H.Pairwise fun a b => b.1 < a.1
 hn : ∀ h ∈ H, h.2 ≠ []
 nl : H = [] -> s.p.chain = []
 hd : ∀ e C rest, H = (e, C) :: rest -> C = s.p.chain /\ e <= s.p.epoch /\ (s.p.phase ≠ 3 -> e < s.p.epoch)
 h3 : s.p.phase = 3 -> ∃ rest, H = (s.p.epoch, s.p.chain) :: rest
 hk : ∀ h ∈ H, ∀ m ∈ h.2, Kn R m
 old : ∀ h ∈ H.tail, ∃ m ∈ h.2, FzOk R m (h.1 + 1)
 va : ∀ m ∈ s.p.valid, m ∈ s.p.chain
 ke : ∀ m ∈ s.keep, m ∈ s.p.valid
 k3 : s.p.phase = 3 -> s.keep = []
 fz : ∀ f ∈ s.fz.l, FzOk R ⟨f.src, f.sboot⟩ s.p.epoch
 nd : ∀ a ∈ s.ns, Kn R a.member
def OW (H : Hist) (R : List Rep) (m : Msg) : Prop := (m.kind = 9 -> FzOk R ⟨m.src, m.sboot⟩ m.epoch) /\ (m.kind = 7 -> Kn R ⟨m.src, m.sboot⟩) /\ (m.kind = 10 \/ m.kind = 11 -> (m.epoch, m.chain) ∈ H)
def OR (H : Hist) (r : Rep) : Prop := r.view.phase ≠ 0 -> (r.view.epoch, r.view.chain) ∈ H
theorem OW.ext {H H' : Hist} {R : List Rep} {m : Msg} (h : OW H R m) (hs : ∀ x ∈ H, x ∈ H') : OW H' R m := ⟨h.1, h.2.1, fun k => hs _ (h.2.2 k)⟩
theorem OR.ext {H H' : Hist} {r : Rep} (h : OR H r) (hs : ∀ x ∈ H, x ∈ H') : OR H' r := fun k => hs _ (h k)
theorem OW.no {H : Hist} {R : List Rep} {m : Msg} (h9 : m.kind ≠ 9) (h7 : m.kind ≠ 7) (h10 : m.kind ≠ 10) (h11 : m.kind ≠ 11) : OW H R m := ⟨fun k => absurd k h9, fun k => absurd k h7, fun k => by rcases k with k | k; exact absurd k h10; exact absurd k h11⟩
theorem OB.chK {H : Hist} {R : List Rep} {s : ES} (h : OB H R s) : ∀ m ∈ s.p.chain, Kn R m := by
 intro m hm
 match hH : H with
 | [] => rw [h.nl rfl] at hm; cases hm
 | (e, C) :: rest =>
  obtain ⟨a1, _, _⟩ := h.hd e C rest rfl
  exact h.hk (e, C) (List.mem_cons_self ..) m (by rw [a1]; exact hm)
theorem OB.keK {H : Hist} {R : List Rep} {s : ES} (h : OB H R s) : ∀ m ∈ s.keep, Kn R m := fun m hm => h.chK m (h.va m (h.ke m hm))
theorem OB.upK {H : Hist} {R : List Rep} {s : ES} (h : OB H R s) : ∀ m ∈ upP s.ns s.c.susp, Kn R m := fun m hm => by
 obtain ⟨a, ha, e⟩ := upP_mem hm
 rw [<- e]; exact h.nd a ha
theorem leadP_mem {l : List Member} {m x : Member} (h : x ∈ leadP l m) : x ∈ l := by
 unfold leadP at h
 cases ha : l.any (isM m) with
 | false => rw [ha] at h; exact h
 | true =>
  rw [ha] at h
  obtain ⟨y, hy, e⟩ := List.any_eq_true.1 ha
  have := isM_eq.1 e
  subst this
  rcases List.mem_cons.1 h with e | e
  ·subst e; exact hy
  ·exact (dropM_sub _ _).subset e
theorem mem_lead {l : List Member} {m x : Member} (h : x ∈ l) : x ∈ leadP l m := by
 unfold leadP
 cases ha : l.any (isM m) with
 | false => exact h
 | true =>
  rw [cond_true]
  have hd : ∀ l : List Member, x ∈ l -> x = m \/ x ∈ dropM m l := by
   intro l
   induction l with
   | nil => intro h; cases h
   | cons y r ih =>
    intro h
    unfold dropM
    cases hx : isM m y with
    | true =>
     rcases List.mem_cons.1 h with e | e
     ·left; rw [e]; exact isM_eq.1 hx
     ·exact .inr e
    | false =>
     rcases List.mem_cons.1 h with e | e
     ·right; rw [e]; exact List.mem_cons_self ..
     ·rcases ih e with a | a
      ·exact .inl a
      ·exact .inr (List.mem_cons_of_mem _ a)
  rcases hd l h with e | e
  ·rw [e]; exact List.mem_cons_self ..
  ·exact List.mem_cons_of_mem _ e
theorem chainL_mem (keep : List Member) (c : Int) : ∀ (up out : List Member) (x : Member), x ∈ chainL keep c up out -> x ∈ out \/ x ∈ up
 | [], out, x, h => .inl h
 | m :: r, out, x, h => by
  unfold chainL at h
  cases hc : decide (c <= (out.length : Int)) with
  | true => rw [hc] at h; exact .inl h
  | false =>
   rw [hc, cond_false] at h
   cases hk : hasNode keep m.node with
   | true =>
    rw [hk] at h
    rcases chainL_mem keep c r out x h with e | e
    ·exact .inl e
    ·exact .inr (List.mem_cons_of_mem _ e)
   | false =>
    rw [hk] at h
    rcases chainL_mem keep c r (out ++ [m]) x h with e | e
    ·rcases List.mem_append.1 e with e | e
     ·exact .inl e
     ·have : x = m := by simpa using e
      subst this; exact .inr (List.mem_cons_self ..)
    ·exact .inr (List.mem_cons_of_mem _ e)
theorem mem_chainL (keep : List Member) (c : Int) : ∀ (up out : List Member) (x : Member), x ∈ out -> x ∈ chainL keep c up out
 | [], out, x, h => h
 | m :: r, out, x, h => by
  unfold chainL
  cases decide (c <= (out.length : Int)) with
  | true => exact h
  | false =>
   rw [cond_false]
   cases hasNode keep m.node with
   | true => exact mem_chainL keep c r out x h
   | false => exact mem_chainL keep c r (out ++ [m]) x (List.mem_append_left _ h)
theorem frozenL_at : ∀ (l : List Msg) (m : Member), (frozenL l m).2 = true -> ∃ f ∈ l, f.src = m.node /\ f.sboot = m.boot
 | [], m, h => by cases h
 | f :: r, m, h => by
  have e : frozenL (f :: r) m = bif isFz m f then (f, true) else frozenL r m := rfl
  rw [e] at h
  cases hf : isFz m f with
  | true =>
   unfold isFz at hf
   rw [Bool.and_eq_true] at hf
   exact ⟨f, List.mem_cons_self .., of_decide_eq_true hf.1, of_decide_eq_true hf.2⟩
  | false =>
   rw [hf] at h
   obtain ⟨x, h1, h2⟩ := frozenL_at r m h
   exact ⟨x, List.mem_cons_of_mem _ h1, h2⟩
theorem OB.frozen {H : Hist} {R : List Rep} {s : ES} (h : OB H R s) {m : Member} (hf : (frozenP (wkE s) m).2 = true) : FzOk R m s.p.epoch := by
 obtain ⟨f, h1, h2, h3⟩ := frozenL_at s.fz.l m hf
 have := h.fz f h1
 rw [h2, h3] at this
 exact this
theorem OB.gone {H : Hist} {R : List Rep} {s : ES} (h : OB H R s) {m : Member} (hm : Kn R m) (hg : goneP s.ns m = true) (e : Int) : FzOk R m e := by
 unfold goneP at hg
 obtain ⟨a, ha, hl⟩ := List.any_eq_true.1 hg
 unfold later at hl
 cases hn : decide (a.member.node = m.node) with
 | false => rw [hn] at hl; cases hl
 | true =>
  rw [hn] at hl
  have hn := of_decide_eq_true hn
  have hb : m.boot < a.member.boot := of_decide_eq_true hl
  refine ⟨hm, fun r hr hs => ?_⟩
  have := h.nd a ha r hr (by rw [hs, hn])
  rw [hs] at this
  omega
theorem may_old {H : Hist} {R : List Rep} {s : ES} (h : OB H R s) (hm : mayE s = true) (hne : s.p.chain ≠ []) : s.p.phase = 1 /\ ∃ m ∈ s.p.chain, FzOk R m s.p.epoch := by
 have hm : (bif !decide (s.p.phase = 1) then false else bif !s.fe then false else
  bif s.p.fresh then bif decide (0 < s.p.chain.length) then bif !s.p.chain.any (fun m => overP (wkE s) s.ns m) then false else decide (0 < (upP s.ns s.c.susp).length) else decide (0 < (upP s.ns s.c.susp).length)
  else bif s.keep.all (fun m => (frozenP (wkE s) m).2) then bif decide (0 < s.keep.length) then bif (bestP (wkE s) s.p.base).isSome then true else decide (0 < (upP s.ns s.c.susp).length) else false else false) = true := hm
 cases hp : decide (s.p.phase = 1) with
 | false => rw [hp] at hm; cases hm
 | true =>
  refine ⟨of_decide_eq_true hp, ?_⟩
  rw [hp, Bool.not_true, cond_false] at hm
  cases hfe : s.fe with
  | false => rw [hfe] at hm; cases hm
  | true =>
   rw [hfe, Bool.not_true, cond_false] at hm
   cases hfr : s.p.fresh with
   | true =>
    rw [hfr, cond_true, decide_eq_true (List.length_pos_iff.2 hne), cond_true] at hm
    cases ho : s.p.chain.any (fun m => overP (wkE s) s.ns m) with
    | false => rw [ho] at hm; cases hm
    | true =>
     obtain ⟨m, h1, h2⟩ := List.any_eq_true.1 ho
     unfold overP at h2
     cases hf : (frozenP (wkE s) m).2 with
     | true => exact ⟨m, h1, h.frozen hf⟩
     | false =>
      rw [hf] at h2
      exact ⟨m, h1, h.gone (h.chK m h1) h2 _⟩
   | false =>
    rw [hfr, cond_false] at hm
    cases ha : s.keep.all (fun m => (frozenP (wkE s) m).2) with
    | false => rw [ha] at hm; cases hm
    | true =>
     rw [ha, cond_true] at hm
     match hk : s.keep with
     | [] => rw [hk] at hm; cases hm
     | m :: r =>
      have hmk : m ∈ s.keep := by rw [hk]; exact List.mem_cons_self ..
      have := List.all_eq_true.1 ha m hmk
      exact ⟨m, h.va m (h.ke m hmk), h.frozen this⟩
theorem may_phase {s : ES} (hm : mayE s = true) : s.p.phase = 1 := by
 have hm : (bif !decide (s.p.phase = 1) then false else bif !s.fe then false else
  bif s.p.fresh then bif decide (0 < s.p.chain.length) then bif !s.p.chain.any (fun m => overP (wkE s) s.ns m) then false else decide (0 < (upP s.ns s.c.susp).length) else decide (0 < (upP s.ns s.c.susp).length)
  else bif s.keep.all (fun m => (frozenP (wkE s) m).2) then bif decide (0 < s.keep.length) then bif (bestP (wkE s) s.p.base).isSome then true else decide (0 < (upP s.ns s.c.susp).length) else false else false) = true := hm
 cases hp : decide (s.p.phase = 1) with
 | false => rw [hp] at hm; cases hm
 | true => exact of_decide_eq_true hp
structure EndO (R : List Rep) (s : ES) (q : Plan) : Prop where
 ep : q.epoch = s.p.epoch
 ph : q.phase = 3
 kn : ∀ m ∈ q.chain, Kn R m
 va : ∀ m ∈ q.valid, m ∈ q.chain
theorem endP_o {H : Hist} {R : List Rep} {s : ES} (h : OB H R s) : EndO R s (endP s).2 := by
 have hF : ∀ g gen : Int, EndO R s (freshP s g gen).2 := fun g gen => by
  refine ⟨rfl, rfl, fun m hm => ?_, fun m hm => List.mem_of_mem_take hm⟩
  rcases chainL_mem [] s.c.chain _ [] m hm with e | e
  ·cases e
  ·exact h.upK m e
 unfold endP
 cases (bestP (wkE s) s.p.base).isSome && !s.p.fresh with
 | true =>
  refine ⟨rfl, rfl, fun m hm => ?_, fun m hm => mem_chainL _ _ _ _ m (mem_lead hm)⟩
  rcases chainL_mem _ _ _ _ m hm with e | e
  ·exact h.keK m (leadP_mem e)
  ·exact h.upK m e
 | false =>
  rw [cond_false]
  cases s.p.fresh && decide (0 < s.p.chain.length) with
  | true => exact hF _ _
  | false => exact hF _ _
theorem act_o {H : Hist} {R : List Rep} {p : Plan} (h : (p.epoch, p.chain) ∈ H) : OW H R (actMg p) := ⟨(fun k => by cases k), (fun k => by cases k), fun _ => h⟩
theorem begin_o {H : Hist} {R : List Rep} {s : ES} {fr : Bool} {N : Nat} (h : OB H R s) (hs : SI N s) (hN : N <= 1000) : OB H R (beginS s fr) := by
 have he := hs.ep; have he0 := hs.ep0
 unfold beginS
 rw [decide_eq_false (by omega), cond_false]
 have hw : IntKind.i64.wrap (s.p.epoch + 1) = s.p.epoch + 1 := wrap_i he0 he hN
 refine ⟨h.fn, h.hn, h.nl, fun e C rest e1 => ?_, (fun e => by cases e), h.hk, h.old, h.va, fun m hm => ?_, (fun e => by cases e), (fun f hf => by cases hf), h.nd⟩
 ·obtain ⟨a1, a2, _⟩ := h.hd e C rest e1
  refine ⟨a1, ?_, fun _ => ?_⟩
  ·show e <= IntKind.i64.wrap (s.p.epoch + 1); rw [hw]; omega
  ·show e < IntKind.i64.wrap (s.p.epoch + 1); rw [hw]; omega
 ·cases fr with
  | true => cases hm
  | false =>
   have hm : m ∈ bothP s.p.valid (upP s.ns s.c.susp) := hm
   unfold bothP at hm
   obtain ⟨x, hx, e⟩ := List.mem_filterMap.1 hm
   cases hb : inUp (upP s.ns s.c.susp) x with
   | false => rw [hb] at e; simp at e
   | true =>
    rw [hb] at e
    have : x = m := by simpa using e
    subst this; exact hx
theorem OB.fe {H : Hist} {R : List Rep} {s : ES} (h : OB H R s) (fe : Bool) : OB H R { s with fe := fe } := { h with }
theorem putNs_mem {ns : List Alive} {m : Msg} {a : Alive} (h : a ∈ putNs ns m) : a ∈ ns \/ a = alM m := by
 unfold putNs at h
 cases hi : isAt ns m.src (bsP ns m.src) with
 | true => rw [hi] at h; exact List.mem_or_eq_of_mem_set h
 | false =>
  rw [hi] at h
  unfold insL at h
  rcases List.mem_append.1 h with x | x
  ·exact .inl (List.mem_of_mem_take x)
  ·rcases List.mem_cons.1 x with x | x
   ·exact .inr x
   ·exact .inl (List.mem_of_mem_drop x)
theorem h7_o {H : Hist} {R : List Rep} {s : ES} {m : Msg} {x : VF} (h : OB H R s) (hk : Kn R ⟨m.src, m.sboot⟩) : OB H R (h7P s m x) := by
 unfold h7P
 cases stale s.ns m with
 | true => exact h
 | false =>
  rw [cond_false]
  have hnd : ∀ a ∈ putNs s.ns m, Kn R a.member := fun a ha => by
   rcases putNs_mem ha with e | e
   ·exact h.nd a e
   ·subst e; exact hk
  have hp : (vwP x s m).1 = s.p \/ (s.p.phase = 3 /\ (vwP x s m).1 = { s.p with valid := s.p.chain }) := by
   cases x with
   | nil => exact .inl rfl
   | emp => exact .inl rfl
   | one v =>
    have e : vwP (.one v) s m = bif serves s m v then (bif decide (v.phase = 3) then { s.p with valid := s.p.chain } else s.p, true) else (s.p, s.he) := rfl
    rw [e]
    cases hs : serves s m v with
    | false => exact .inl rfl
    | true =>
     have h3 : s.p.phase = 3 := by
      unfold serves at hs
      rw [Bool.and_eq_true] at hs
      exact of_decide_eq_true hs.1
     cases decide (v.phase = 3) with
     | false => exact .inl rfl
     | true => exact .inr ⟨h3, rfl⟩
  rcases hp with e | ⟨e3, e⟩
  ·have : ({ s with p := (vwP x s m).1, he := (vwP x s m).2, ns := putNs s.ns m } : ES) = { s with he := (vwP x s m).2, ns := putNs s.ns m } := by rw [e]
   rw [this]
   exact { h with nd := hnd }
  ·have : ({ s with p := (vwP x s m).1, he := (vwP x s m).2, ns := putNs s.ns m } : ES) = { s with p := { s.p with valid := s.p.chain }, he := (vwP x s m).2, ns := putNs s.ns m } := by rw [e]
   rw [this]
   have hke : ∀ m ∈ s.keep, m ∈ s.p.chain := fun m hm => by rw [h.k3 e3] at hm; cases hm
   exact { h with nd := hnd, va := fun m hm => hm, ke := hke }
theorem agMs_o {H : Hist} {R : List Rep} {s : ES} (h : OB H R s) : ∀ m ∈ agMs s, OW H R m := by
 have hfz : ∀ x : Member, OW H R (frzMg x s.p.epoch) := fun x => .no (by show (8 : Int) ≠ 9; decide) (by show (8 : Int) ≠ 7; decide) (by show (8 : Int) ≠ 10; decide) (by show (8 : Int) ≠ 11; decide)
 have hfn : OW H R (fenMg s.p.epoch) := .no (by show (19 : Int) ≠ 9; decide) (by show (19 : Int) ≠ 7; decide) (by show (19 : Int) ≠ 10; decide) (by show (19 : Int) ≠ 11; decide)
 have hfr : ∀ l : List Member, ∀ m ∈ l.filterMap (agF s), OW H R m := by
  intro l m hm
  obtain ⟨a, ha, e⟩ := List.mem_filterMap.1 hm
  unfold agF at e
  cases hb : (frozenP (wkE s) a).2 with
  | true => rw [hb] at e; simp at e
  | false =>
   rw [hb] at e
   have : frzMg a s.p.epoch = m := by simpa using e
   rw [<- this]; exact hfz a
 intro m hm
 unfold agMs at hm
 cases hp : decide (s.p.phase = 1) with
 | true =>
  rw [hp, cond_true] at hm
  cases hfe : s.fe with
  | true => rw [hfe] at hm; exact hfr _ m (by simpa using hm)
  | false =>
   rw [hfe] at hm
   rcases List.mem_append.1 hm with e | e
   ·have : m = fenMg s.p.epoch := by simpa using e
    subst this; exact hfn
   ·exact hfr _ m e
 | false =>
  rw [hp, cond_false] at hm
  cases hp3 : decide (s.p.phase = 3) && !s.he with
  | false => rw [hp3] at hm; cases hm
  | true =>
   rw [hp3, cond_true] at hm
   rw [Bool.and_eq_true] at hp3
   obtain ⟨rest, hr⟩ := h.h3 (of_decide_eq_true hp3.1)
   cases hl : decide (0 < s.p.chain.length) with
   | false => rw [hl] at hm; cases hm
   | true =>
    rw [hl] at hm
    have : m = actMg s.p := by simpa using hm
    subst this
    exact act_o (by rw [hr]; exact List.mem_cons_self ..)
def Up1 (R R' : List Rep) : Prop := ∀ r' ∈ R', ∃ r ∈ R, (r'.self = r.self /\ r.frozen <= r'.frozen) \/ (r'.self.node = r.self.node /\ r.self.boot < r'.self.boot)
theorem Kn.up {R R' : List Rep} {m : Member} (h : Kn R m) (hu : Up1 R R') : Kn R' m := by
 intro r' hr' hn
 obtain ⟨r, hr, e⟩ := hu r' hr'
 rcases e with ⟨e, _⟩ | ⟨e1, e2⟩
 ·rw [e] at hn ⊢; exact h r hr hn
 ·have := h r hr (by rw [<- e1]; exact hn)
  omega
theorem FzOk.up {R R' : List Rep} {m : Member} {e : Int} (h : FzOk R m e) (hu : Up1 R R') : FzOk R' m e := by
 refine ⟨h.1.up hu, fun r' hr' hs => ?_⟩
 obtain ⟨r, hr, x⟩ := hu r' hr'
 rcases x with ⟨x, hf⟩ | ⟨x1, x2⟩
 ·have := h.2 r hr (by rw [<- x]; exact hs)
  omega
 ·have := h.1 r hr (by rw [<- x1, hs])
  rw [hs] at x2
  omega
theorem OB.up {H : Hist} {R R' : List Rep} {s : ES} (h : OB H R s) (hu : Up1 R R') : OB H R' s :=
 { h with
  hk := fun x hx m hm => (h.hk x hx m hm).up hu
  old := fun x hx => by
   obtain ⟨m, h1, h2⟩ := h.old x hx
   exact ⟨m, h1, h2.up hu⟩
  fz := fun f hf => (h.fz f hf).up hu
  nd := fun a ha => (h.nd a ha).up hu }
theorem OW.up {H : Hist} {R R' : List Rep} {m : Msg} (h : OW H R m) (hu : Up1 R R') : OW H R' m := ⟨fun k => (h.1 k).up hu, fun k => (h.2.1 k).up hu, h.2.2⟩
structure XO (H : Hist) (r : Rep) (x : Msg) : Prop where
 n7 : x.kind ≠ 7
 n10 : x.kind ≠ 10
 k9 : x.kind = 9 -> x.src = r.self.node /\ x.sboot = r.self.boot /\ x.epoch <= r.frozen
 k11 : x.kind = 11 -> (x.epoch, x.chain) ∈ H
theorem insts_o {H : Hist} {r : Rep} (h : (r.view.epoch, r.view.chain) ∈ H) : ∀ (l : List Member) (s : List Bool), ∀ x ∈ instsP r l s, XO H r x
 | [], s => fun m hm => by simp [instsP] at hm
 | a :: l, [] => fun m hm => by simp [instsP] at hm
 | a :: l, b :: s => fun m hm => by
  have ih := insts_o h l s
  unfold instsP at hm
  cases b with
  | true => exact ih m hm
  | false =>
   rw [cond_false] at hm
   rcases List.mem_cons.1 hm with e | e
   ·subst e
    exact ⟨(by show (11 : Int) ≠ 7; decide), (by show (11 : Int) ≠ 10; decide), (fun k => by cases k), fun _ => h⟩
   ·exact ih m e
theorem acks_o {H : Hist} {r : Rep} : ∀ x ∈ acksP r, XO H r x := by
 intro x hx
 unfold acksP at hx
 split at hx
 ·cases hx
 ·simp only [List.mem_singleton] at hx
  subst hx
  exact ⟨(by show (14 : Int) ≠ 7; decide), (by show (14 : Int) ≠ 10; decide), (fun k => by cases k), (fun k => by cases k)⟩
theorem forws_o {H : Hist} {r : Rep} : ∀ x ∈ forwsP r, XO H r x := by
 intro x hx
 unfold forwsP at hx
 split at hx
 ·cases hx
 ·simp only [List.mem_singleton] at hx
  subst hx
  exact ⟨(by show (13 : Int) ≠ 7; decide), (by show (13 : Int) ≠ 10; decide), (fun k => by cases k), (fun k => by cases k)⟩
theorem again_o {H : Hist} {r : Rep} (h : OR H r) : ∀ x ∈ againP r, XO H r x := by
 intro m hm
 unfold againP at hm
 cases h1 : syncsP r with
 | true =>
  rw [h1] at hm
  have hp : r.view.phase ≠ 0 := by
   unfold syncsP at h1
   have := of_decide_eq_true (and_true' h1).2
   omega
  exact insts_o (h hp) _ _ m hm
 | false =>
  rw [h1, cond_false] at hm
  cases h2 : worksP r with
  | true =>
   rw [h2, cond_true] at hm
   rcases List.mem_append.1 hm with e | e
   ·exact forws_o m e
   ·exact acks_o m e
  | false => rw [h2] at hm; cases hm
structure HO (H : Hist) (r : Rep) (o : Rep × List Msg) : Prop where
 fr : r.frozen <= o.1.frozen
 or : OR H o.1
 ms : ∀ x ∈ o.2, XO H o.1 x
theorem HO.same {H : Hist} {r : Rep} (h : OR H r) : HO H r (r, []) := ⟨Int.le_refl _, h, fun m hm => by cases hm⟩
theorem hand_o {H : Hist} {r : Rep} {m : Msg} (h : OR H r) (hw : m.kind = 10 \/ m.kind = 11 -> (m.epoch, m.chain) ∈ H) : HO H r (handP r m) := by
 unfold handP
 cases ht : toMe r m with
 | false => exact .same h
 | true =>
  rw [cond_true]
  unfold handK
  cases e8 : decide (m.kind = 8) with
  | true =>
   rw [cond_true]
   unfold freezeP
   cases ha : aboveP r m with
   | false => exact .same h
   | true =>
    refine ⟨(above_iff.1 ha).2, h, fun x hx => ?_⟩
    simp only [cond_true, List.mem_singleton] at hx
    subst hx
    exact ⟨(by show (9 : Int) ≠ 7; decide), (by show (9 : Int) ≠ 10; decide), fun _ => ⟨rfl, rfl, Int.le_refl _⟩, (fun k => by cases k)⟩
  | false =>
  rw [cond_false]
  cases e10 : decide (m.kind = 10) with
  | true =>
   rw [cond_true]
   unfold actP
   cases actG r m with
   | false => exact .same h
   | true =>
    have hr : OR H (actR r m) := fun _ => hw (.inl (of_decide_eq_true e10))
    exact ⟨Int.le_refl _, hr, again_o hr⟩
  | false =>
  rw [cond_false]
  cases e11 : decide (m.kind = 11) with
  | true =>
   rw [cond_true]
   unfold insP
   cases decide (0 < idx m.chain r.self) with
   | false => exact .same h
   | true =>
    rw [cond_true]
    have hr : r.frozen <= (insR r m).frozen /\ OR H (insR r m) := by
     unfold insR
     cases aboveP r m with
     | true => exact ⟨Int.le_refl _, fun _ => hw (.inr (of_decide_eq_true e11))⟩
     | false => exact ⟨Int.le_refl _, h⟩
    refine ⟨hr.1, hr.2, fun x hx => ?_⟩
    dsimp only at hx
    cases hc : liveP (insR r m) && decide (m.epoch = (insR r m).view.epoch) with
    | false => rw [hc] at hx; cases hx
    | true =>
     rw [hc] at hx
     simp only [cond_true, List.mem_singleton] at hx
     subst hx
     exact ⟨(by show (12 : Int) ≠ 7; decide), (by show (12 : Int) ≠ 10; decide), (fun k => by cases k), (fun k => by cases k)⟩
  | false =>
  rw [cond_false]
  cases e12 : decide (m.kind = 12) with
  | true =>
   rw [cond_true]
   unfold indP
   cases hc : syncsP r && (decide (m.epoch = r.view.epoch) && decide (0 <= idx r.view.chain (who m))) with
   | false => exact .same h
   | true =>
    have hp : r.view.phase ≠ 0 := by
     have := (and_true' hc).1
     unfold syncsP at this
     have := of_decide_eq_true (and_true' this).2
     omega
    have hr : r.frozen <= (indR r m).frozen /\ OR H (indR r m) := by
     unfold indR
     cases (indS r m).all id with
     | true => exact ⟨Int.le_refl _, fun _ => h hp⟩
     | false => exact ⟨Int.le_refl _, fun _ => h hp⟩
    exact ⟨hr.1, hr.2, fun m hm => by cases hm⟩
  | false =>
  rw [cond_false]
  cases e13 : decide (m.kind = 13) with
  | true =>
   rw [cond_true]
   unfold fwdP
   cases nextG r m (-1) with
   | false => exact .same h
   | true =>
    have hk := fwdR_self r m
    have hr : OR H (fwdR r m) := fun hp => by
     have hv := hk.view
     rw [hv] at hp ⊢
     exact h hp
    exact ⟨by show r.frozen <= (fwdR r m).frozen; rw [hk.frozen]; exact Int.le_refl _, hr, again_o hr⟩
  | false =>
  rw [cond_false]
  cases e14 : decide (m.kind = 14) with
  | true =>
   rw [cond_true]
   unfold ackP
   cases nextG r m 1 with
   | false => exact .same h
   | true =>
    have hr : r.frozen <= (ackR r m).frozen /\ OR H (ackR r m) := by
     unfold ackR
     cases vlt r.tail.last m.ver with
     | true => exact ⟨Int.le_refl _, h⟩
     | false => exact ⟨Int.le_refl _, h⟩
    exact ⟨hr.1, hr.2, acks_o⟩
  | false => exact .same h
structure OI (H : Hist) (c : CConf) (p : PlayB) : Prop where
 b : OB H p.reps (p.b.es c)
 w : ∀ m ∈ p.way, OW H p.reps m
 r : ∀ r ∈ p.reps, OR H r
theorem rp_mem {p : PlayB} {j : Nat} (h : j < p.reps.length) : rpB p j ∈ p.reps := by
 unfold rpB; simp [List.getD, h]
theorem mem_rp {p : PlayB} {r : Rep} (h : r ∈ p.reps) : ∃ j, j < p.reps.length /\ rpB p j = r := by
 obtain ⟨j, hj, e⟩ := List.getElem_of_mem h
 exact ⟨j, hj, by unfold rpB; simpa [List.getD, hj] using e⟩
theorem up_put {p : PlayB} {j : Nat} {r : Rep} (hj : j < p.reps.length) (hr : (r.self = (rpB p j).self /\ (rpB p j).frozen <= r.frozen) \/ (r.self.node = (rpB p j).self.node /\ (rpB p j).self.boot < r.self.boot)) : Up1 p.reps (putB p j r).reps := by
 intro x hx
 rcases List.mem_or_eq_of_mem_set hx with e | e
 ·exact ⟨x, e, .inl ⟨rfl, Int.le_refl _⟩⟩
 ·subst e; exact ⟨rpB p j, rp_mem hj, hr⟩
theorem node_inj {N : Nat} {c : CConf} {p : PlayB} (h : PIs N c p) {a b : Rep} (ha : a ∈ p.reps) (hb : b ∈ p.reps) (hn : a.self.node = b.self.node) : a = b := by
 obtain ⟨i, hi, e1⟩ := mem_rp ha
 obtain ⟨j, hj, e2⟩ := mem_rp hb
 have h1 := h.self i (by rw [<- h.rl]; exact hi)
 have h2 := h.self j (by rw [<- h.rl]; exact hj)
 rw [e1] at h1
 rw [e2] at h2
 have : i = j := by omega
 subst this
 rw [<- e1, <- e2]
theorem Kn.self {N : Nat} {c : CConf} {p : PlayB} (h : PIs N c p) {r : Rep} (hr : r ∈ p.reps) : Kn p.reps r.self := by
 intro x hx hn
 rw [node_inj h hx hr hn]
 exact Int.le_refl _
theorem FzOk.self {N : Nat} {c : CConf} {p : PlayB} (h : PIs N c p) {r : Rep} (hr : r ∈ p.reps) {e : Int} (he : e <= r.frozen) : FzOk p.reps r.self e := by
 refine ⟨Kn.self h hr, fun x hx hs => ?_⟩
 rw [node_inj h hx hr (by rw [hs])]
 exact he
theorem XO.ow {N : Nat} {c : CConf} {p : PlayB} {H : Hist} {r : Rep} {x : Msg} (h : XO H r x) (hp : PIs N c p) (hr : r ∈ p.reps) : OW H p.reps x := by
 refine ⟨fun k => ?_, fun k => absurd k h.n7, fun k => ?_⟩
 ·obtain ⟨a1, a2, a3⟩ := h.k9 k
  rw [a1, a2]
  exact FzOk.self hp hr a3
 ·rcases k with k | k
  ·exact absurd k h.n10
  ·exact h.k11 k
theorem repL_mem {m : Member} : ∀ {l : List Rep}, (repL m l).2 = true -> (repL m l).1 ∈ l /\ (repL m l).1.self = m
 | [], h => by cases h
 | r :: l, h => by
  have e : repL m (r :: l) = bif decide (r.self = m) then (r, true) else repL m l := rfl
  rw [e] at h ⊢
  cases hs : decide (r.self = m) with
  | true => exact ⟨List.mem_cons_self .., of_decide_eq_true hs⟩
  | false =>
   rw [hs] at h
   have := repL_mem h
   exact ⟨List.mem_cons_of_mem _ this.1, this.2⟩
structure Gh where
 T : Int -> Option Ver
 F : Member -> Int -> Option Ver
structure GLe (G G' : Gh) : Prop where
 t : ∀ e t, G.T e = some t -> G'.T e = some t
 f : ∀ m e u, G.F m e = some u -> ∃ u', G'.F m e = some u' /\ vle u u'
theorem GLe.refl (G : Gh) : GLe G G := ⟨fun _ _ h => h, fun _ _ u h => ⟨u, h, .refl _⟩⟩
theorem GLe.trans {A B C : Gh} (h : GLe A B) (h' : GLe B C) : GLe A C := ⟨fun e t x => h'.t e t (h.t e t x), fun m e u x => by
 obtain ⟨u1, a1, a2⟩ := h.f m e u x
 obtain ⟨u2, b1, b2⟩ := h'.f m e u1 a1
 exact ⟨u2, b1, a2.trans b2⟩⟩
def Gh.setF (G : Gh) (m : Member) (e : Int) (v : Ver) : Gh := { G with F := fun x i => if x = m /\ i = e then some v else G.F x i }
def Gh.setT (G : Gh) (e : Int) (v : Ver) : Gh := { G with T := fun i => if i = e then some v else G.T i }
theorem setF_at (G : Gh) (m : Member) (e : Int) (v : Ver) : (G.setF m e v).F m e = some v := by unfold Gh.setF; simp
theorem setF_no {G : Gh} {m x : Member} {e i : Int} {v : Ver} (h : ¬ (x = m /\ i = e)) : (G.setF m e v).F x i = G.F x i := by unfold Gh.setF; simp [h]
theorem setT_at (G : Gh) (e : Int) (v : Ver) : (G.setT e v).T e = some v := by unfold Gh.setT; simp
theorem setT_no {G : Gh} {e i : Int} {v : Ver} (h : i ≠ e) : (G.setT e v).T i = G.T i := by unfold Gh.setT; simp [h]
theorem GLe.setF {G : Gh} {m : Member} {e : Int} {v : Ver} (h : ∀ u, G.F m e = some u -> vle u v) : GLe G (G.setF m e v) := ⟨fun _ _ h => h, fun x i u hu => by
 by_cases c : x = m /\ i = e
 ·obtain ⟨rfl, rfl⟩ := c
  exact ⟨v, setF_at .., h u hu⟩
 ·exact ⟨u, by rw [setF_no c]; exact hu, .refl _⟩⟩
theorem GLe.setT {G : Gh} {e : Int} {v : Ver} (h : G.T e = none) : GLe G (G.setT e v) := ⟨fun i t ht => by
 by_cases c : i = e
 ·subst c; rw [h] at ht; cases ht
 ·rw [setT_no c]; exact ht, fun x i u hu => ⟨u, hu, .refl _⟩⟩
def FdLe (G : Gh) (v : Ver) (x : Member) (e : Int) : Prop := (∃ u, G.F x e = some u /\ vle v u) \/ (G.F x e = none /\ ∃ t, G.T e = some t /\ vle v t)
def GOk (G : Gh) : Prop := ∀ x e u, G.F x e = some u -> ∃ t, G.T e = some t /\ vle t u
theorem FdLe.ext {G G' : Gh} {v : Ver} {x : Member} {e : Int} (h : FdLe G v x e) (hg : GLe G G') (ho : GOk G') : FdLe G' v x e := by
 rcases h with ⟨u, h1, h2⟩ | ⟨h1, t, h2, h3⟩
 ·obtain ⟨u', a1, a2⟩ := hg.f x e u h1
  exact .inl ⟨u', a1, h2.trans a2⟩
 ·have ht := hg.t e t h2
  match hx : G'.F x e with
  | none => exact .inr ⟨hx, t, ht, h3⟩
  | some u =>
   obtain ⟨t', b1, b2⟩ := ho x e u hx
   rw [ht] at b1
   injection b1 with b1
   subst b1
   exact .inl ⟨u, hx, h3.trans b2⟩
theorem FdLe.max {G : Gh} {v v' : Ver} {x : Member} {e : Int} (h : FdLe G v x e) (h' : FdLe G v' x e) : FdLe G (vmax v v') x e := by
 rcases vmax_or v v' with e | e <;> rw [e] <;> assumption
structure KI (H : Hist) (G : Gh) (v : Ver) (e : Int) : Prop where
 c : ∃ C, (e, C) ∈ H /\ C ≠ [] /\ ∀ x ∈ C, ∃ u, G.F x e = some u /\ vle v u
 ep : (ep v : Int) <= e
theorem KI.ext {H H' : Hist} {G G' : Gh} {v : Ver} {e : Int} (h : KI H G v e) (hh : ∀ y ∈ H, y ∈ H') (hg : GLe G G') : KI H' G' v e := by
 obtain ⟨C, c1, c2, c3⟩ := h.c
 refine ⟨⟨C, hh _ c1, c2, fun x hx => ?_⟩, h.ep⟩
 obtain ⟨u, u1, u2⟩ := c3 x hx
 obtain ⟨u', a1, a2⟩ := hg.f x e u u1
 exact ⟨u', a1, u2.trans a2⟩
structure RIn (G : Gh) (r : Rep) : Prop where
 r1 : G.F r.self r.view.epoch = some r.tail.last
 r2 : r.self ∈ r.view.chain
 r3 : r.view.phase = 2 -> G.T r.view.epoch = some r.tail.last
 r4 : r.view.phase = 2 \/ r.view.phase = 3
 r4' : r.view.phase = 2 -> isFirst r.view.chain r.self = true
 r5 : ∀ y ∈ r.view.chain, idx r.view.chain r.self <= idx r.view.chain y -> FdLe G r.got y r.view.epoch
 r6 : isFirst r.view.chain r.self = true -> ∀ i, i < r.view.chain.length -> (r.view.phase = 3 \/ r.synced.getD i false = true) -> (G.F (r.view.chain.getD i default) r.view.epoch).isSome = true
 r8 : (ep r.tail.last : Int) <= r.view.epoch
 r9 : ∀ en ∈ r.tail.log, (ep en.ver : Int) <= r.view.epoch
structure RI (G : Gh) (r : Rep) : Prop where
 f7 : ∀ e, (G.F r.self e).isSome = true -> r.view.phase ≠ 0 /\ e <= r.view.epoch
 fb : ∀ b e, r.self.boot < b -> G.F ⟨r.self.node, b⟩ e = none
 i : r.view.phase ≠ 0 -> RIn G r
theorem hand_stuck {r : Rep} {m : Msg} (h : r.view.epoch < r.frozen) : r.frozen <= (handP r m).1.view.epoch \/ ∃ f, r.frozen <= f /\ (handP r m).1 = { r with frozen := f } := by
 have same : r.frozen <= r.view.epoch \/ ∃ f, r.frozen <= f /\ r = { r with frozen := f } := .inr ⟨r.frozen, Int.le_refl _, rfl⟩
 have hl : liveP r = false := by
  unfold liveP
  rw [show decide (r.frozen <= r.view.epoch) = false from decide_eq_false (by omega), Bool.and_false]
 have hs : syncsP r = false := by unfold syncsP; rw [hl]; rfl
 have hw : worksP r = false := by unfold worksP; rw [hl]; rfl
 unfold handP
 cases toMe r m with
 | false => exact same
 | true =>
  rw [cond_true]
  unfold handK
  cases decide (m.kind = 8) with
  | true =>
   rw [cond_true]
   unfold freezeP
   cases ha : aboveP r m with
   | false => exact same
   | true => exact .inr ⟨m.epoch, (above_iff.1 ha).2, rfl⟩
  | false =>
  rw [cond_false]
  cases decide (m.kind = 10) with
  | true =>
   rw [cond_true]
   unfold actP
   cases ha : actG r m with
   | false => exact same
   | true =>
    unfold actG at ha
    exact .inl (above_iff.1 (and_true' ha).1).2
  | false =>
  rw [cond_false]
  cases decide (m.kind = 11) with
  | true =>
   rw [cond_true]
   unfold insP
   cases decide (0 < idx m.chain r.self) with
   | false => exact same
   | true =>
    rw [cond_true]
    unfold insR
    cases ha : aboveP r m with
    | false => exact same
    | true => exact .inl (above_iff.1 ha).2
  | false =>
  rw [cond_false]
  cases decide (m.kind = 12) with
  | true => rw [cond_true]; unfold indP; rw [hs]; exact same
  | false =>
  rw [cond_false]
  cases decide (m.kind = 13) with
  | true => rw [cond_true]; unfold fwdP nextG; rw [hw]; exact same
  | false =>
  rw [cond_false]
  cases decide (m.kind = 14) with
  | true => rw [cond_true]; unfold ackP nextG; rw [hw]; exact same
  | false => exact same
theorem ep_le {a b : Ver} (h : vle a b) : ep a <= ep b := by
 rcases vle_iff.1 h with h | h <;> omega
theorem vlast_push (r : Rep) (e : Entry) : vle r.tail.last (pushP r e).1.tail.last := by
 unfold pushP
 cases h : vlt r.tail.last e.ver with
 | false => exact .refl _
 | true => exact vle_of_lt h
theorem vlast_take : ∀ (l : List Entry) (r : Rep), vle r.tail.last (takeP r l).tail.last
 | [], r => .refl _
 | e :: l, r => by
  unfold takeP
  cases decide (nu e.ver = nu r.tail.last + 1) with
  | true => exact (vlast_push r e).trans (vlast_take l _)
  | false => exact vlast_take l _
theorem vlast_fwd (r : Rep) (m : Msg) : vle r.tail.last (fwdR r m).tail.last := by
 unfold fwdR
 cases vlt (takeP r m.entries).tail.last m.floor with
 | true => exact vlast_take _ _
 | false => exact (vlast_take _ _).trans (vmax_l _ _)
def TEp (t : Tail) (e : Int) : Prop := (ep t.last : Int) <= e /\ ∀ en ∈ t.log, (ep en.ver : Int) <= e
theorem tep_push {r : Rep} {en : Entry} {e : Int} (h : TEp r.tail e) (hn : (ep en.ver : Int) <= e) : TEp (pushP r en).1.tail e := by
 unfold pushP
 cases vlt r.tail.last en.ver with
 | false => exact h
 | true =>
  refine ⟨hn, fun x hx => ?_⟩
  rcases List.mem_append.1 hx with a | a
  ·exact h.2 x a
  ·have : x = en := by simpa using a
   subst this; exact hn
theorem tep_take {e : Int} : ∀ (l : List Entry) (r : Rep), TEp r.tail e -> (∀ en ∈ l, (ep en.ver : Int) <= e) -> TEp (takeP r l).tail e
 | [], r, h, _ => h
 | a :: l, r, h, hl => by
  unfold takeP
  cases decide (nu a.ver = nu r.tail.last + 1) with
  | true => exact tep_take l _ (tep_push h (hl a (List.mem_cons_self ..))) fun x hx => hl x (List.mem_cons_of_mem _ hx)
  | false => exact tep_take l _ h fun x hx => hl x (List.mem_cons_of_mem _ hx)
theorem tep_fwd {r : Rep} {m : Msg} {e : Int} (h : TEp r.tail e) (hl : ∀ en ∈ m.entries, (ep en.ver : Int) <= e) : TEp (fwdR r m).tail e := by
 have ht := tep_take m.entries r h hl
 unfold fwdR
 cases hv : vlt (takeP r m.entries).tail.last m.floor with
 | true => exact ht
 | false =>
  have hm : vmax (takeP r m.entries).tail.last m.floor = (takeP r m.entries).tail.last := vmax_left hv
  refine ⟨?_, fun x hx => ?_⟩
  ·show (ep (vmax (takeP r m.entries).tail.last m.floor) : Int) <= e
   rw [hm]; exact ht.1
  ·exact ht.2 x (List.mem_filter.1 hx).1
structure XI (H : Hist) (G : Gh) (r : Rep) (x : Msg) : Prop where
 n7 : x.kind ≠ 7
 n10 : x.kind ≠ 10
 k9 : x.kind = 9 -> x.src = r.self.node /\ x.sboot = r.self.boot /\ x.epoch = r.frozen /\ x.a = r.view.epoch /\ x.has = !decide (r.view.phase = 0) /\ x.ver = r.tail.last
 k11 : x.kind = 11 -> G.T x.epoch = some x.image.last /\ (ep x.image.last : Int) <= x.epoch /\ ∀ en ∈ x.image.log, (ep en.ver : Int) <= x.epoch
 k12 : x.kind = 12 -> (G.F ⟨x.src, x.sboot⟩ x.epoch).isSome = true
 k13 : x.kind = 13 -> ∀ en ∈ x.entries, (ep en.ver : Int) <= x.epoch
 k14 : x.kind = 14 -> ∀ C, (x.epoch, C) ∈ H -> ∀ y ∈ C, idx C ⟨x.src, x.sboot⟩ <= idx C y -> FdLe G x.ver y x.epoch
 kh : x.kind = 14 -> ∃ C, (x.epoch, C) ∈ H
def HFun (H : Hist) : Prop := ∀ e C C', (e, C) ∈ H -> (e, C') ∈ H -> C = C'
theorem live_ph {r : Rep} (h : liveP r = true) : r.view.phase ≠ 0 /\ r.frozen <= r.view.epoch := by
 unfold liveP at h
 obtain ⟨h1, h2⟩ := and_true' h
 refine ⟨?_, of_decide_eq_true h2⟩
 intro e
 rw [e] at h1
 cases h1
theorem works_ph {r : Rep} (h : worksP r = true) : liveP r = true /\ r.view.phase = 3 := by
 unfold worksP at h
 obtain ⟨h1, h2⟩ := and_true' h
 exact ⟨h1, of_decide_eq_true h2⟩
theorem syncs_ph {r : Rep} (h : syncsP r = true) : liveP r = true /\ r.view.phase = 2 := by
 unfold syncsP at h
 obtain ⟨h1, h2⟩ := and_true' h
 exact ⟨h1, of_decide_eq_true h2⟩
theorem haveP_le {G : Gh} {r : Rep} (h : RIn G r) (hn : r.view.chain.Nodup) : ∀ y ∈ r.view.chain, idx r.view.chain r.self <= idx r.view.chain y -> FdLe G (haveP r) y r.view.epoch := by
 intro y hy hle
 unfold haveP
 cases hs : (sideP r.view.chain r.self 1).isSome with
 | true => exact h.r5 y hy hle
 | false =>
  have := sideP_last h.r2 hy hs hle
  subst this
  exact .inl ⟨_, h.r1, .refl _⟩
theorem acks_i {H : Hist} {G : Gh} {r : Rep} (h : RIn G r) (hn : r.view.chain.Nodup) (hH : (r.view.epoch, r.view.chain) ∈ H) (hf : HFun H) : ∀ x ∈ acksP r, XI H G r x := by
 intro x hx
 unfold acksP at hx
 split at hx
 ·cases hx
 ·simp only [List.mem_singleton] at hx
  subst hx
  refine ⟨(by show (14 : Int) ≠ 7; decide), (by show (14 : Int) ≠ 10; decide), (fun k => by cases k), (fun k => by cases k), (fun k => by cases k), (fun k => by cases k), fun _ C hC y hy hle => ?_, fun _ => ⟨_, hH⟩⟩
  have : C = r.view.chain := hf _ _ _ hC hH
  subst this
  exact haveP_le h hn y hy hle
theorem forws_i {H : Hist} {G : Gh} {r : Rep} (h : RIn G r) : ∀ x ∈ forwsP r, XI H G r x := by
 intro x hx
 unfold forwsP at hx
 split at hx
 ·cases hx
 ·simp only [List.mem_singleton] at hx
  subst hx
  exact ⟨(by show (13 : Int) ≠ 7; decide), (by show (13 : Int) ≠ 10; decide), (fun k => by cases k), (fun k => by cases k), (fun k => by cases k), (fun _ en he => h.r9 en (List.mem_filter.1 he).1), (fun k => by cases k), (fun k => by cases k)⟩
theorem insts_i {H : Hist} {G : Gh} {r : Rep} (h : RIn G r) (hp : r.view.phase = 2) : ∀ (l : List Member) (s : List Bool), ∀ x ∈ instsP r l s, XI H G r x
 | [], s => fun m hm => by simp [instsP] at hm
 | a :: l, [] => fun m hm => by simp [instsP] at hm
 | a :: l, b :: s => fun m hm => by
  have ih := insts_i (H := H) h hp l s
  unfold instsP at hm
  cases b with
  | true => exact ih m hm
  | false =>
   rw [cond_false] at hm
   rcases List.mem_cons.1 hm with e | e
   ·subst e
    exact ⟨(by show (11 : Int) ≠ 7; decide), (by show (11 : Int) ≠ 10; decide), (fun k => by cases k), fun _ => ⟨h.r3 hp, h.r8, h.r9⟩, (fun k => by cases k), (fun k => by cases k), (fun k => by cases k), (fun k => by cases k)⟩
   ·exact ih m e
theorem again_i {H : Hist} {G : Gh} {r : Rep} (h : RI G r) (hn : r.view.chain.Nodup) (ho : OR H r) (hf : HFun H) : ∀ x ∈ againP r, XI H G r x := by
 intro m hm
 unfold againP at hm
 cases h1 : syncsP r with
 | true =>
  rw [h1] at hm
  obtain ⟨a1, a2⟩ := syncs_ph h1
  exact insts_i (h.i (by omega)) a2 _ _ m hm
 | false =>
  rw [h1, cond_false] at hm
  cases h2 : worksP r with
  | true =>
   rw [h2, cond_true] at hm
   obtain ⟨a1, a2⟩ := works_ph h2
   have hp : r.view.phase ≠ 0 := by omega
   rcases List.mem_append.1 hm with e | e
   ·exact forws_i (h.i hp) m e
   ·exact acks_i (h.i hp) hn (ho hp) hf m e
  | false => rw [h2] at hm; cases hm
structure HR (H : Hist) (G : Gh) (fr : Int -> Bool) (r : Rep) (o : Rep × List Msg) (G' : Gh) : Prop where
 le : GLe G G'
 ok : GOk G'
 tf : ∀ x e, G'.F x e ≠ G.F x e -> x = r.self /\ r.frozen <= e /\ e = o.1.view.epoch /\ o.1.view.phase ≠ 0
 tt : ∀ e, G'.T e ≠ G.T e -> G.T e = none /\ r.view.epoch < e /\ r.frozen <= e /\ ∃ t, G'.T e = some t /\ ((fr e = true /\ t = vr e.toNat 0) \/ (fr e = false /\ r.frozen = e /\ r.view.phase ≠ 0 /\ t = r.tail.last)) /\
  ∃ C, (e, C) ∈ H /\ isFirst C r.self = true /\ (G'.F r.self e).isSome = true
 ri : RI G' o.1
 ms : ∀ x ∈ o.2, XI H G' o.1 x
theorem HR.same {H : Hist} {G : Gh} {fr : Int -> Bool} {r : Rep} (h : RI G r) (hg : GOk G) : HR H G fr r (r, []) G :=
 ⟨.refl _, hg, fun x e h => absurd rfl h, fun e h => absurd rfl h, h, fun m hm => by cases hm⟩
theorem HR.keep {H : Hist} {G : Gh} {fr : Int -> Bool} {r r' : Rep} {l : List Msg} (hg : GOk G) (h : RI G r') (hl : ∀ x ∈ l, XI H G r' x) : HR H G fr r (r', l) G :=
 ⟨.refl _, hg, fun x e h => absurd rfl h, fun e h => absurd rfl h, h, hl⟩
theorem GOk.setF {G : Gh} {m : Member} {e : Int} {v t : Ver} (h : GOk G) (ht : G.T e = some t) (hv : vle t v) : GOk (G.setF m e v) := by
 intro x i u hu
 by_cases c : x = m /\ i = e
 ·obtain ⟨rfl, rfl⟩ := c
  rw [setF_at] at hu
  injection hu with hu
  subst hu
  exact ⟨t, ht, hv⟩
 ·rw [setF_no c] at hu; exact h x i u hu
theorem GOk.setT {G : Gh} {e : Int} {t : Ver} (h : GOk G) (hn : G.T e = none) : GOk (G.setT e t) := by
 intro x i u hu
 obtain ⟨t', h1, h2⟩ := h x i u hu
 have : i ≠ e := fun c => by subst c; rw [hn] at h1; cases h1
 exact ⟨t', by rw [setT_no this]; exact h1, h2⟩
theorem RI.tail {H : Hist} {G : Gh} {r r' : Rep} (h : RI G r) (hp : r.view.phase = 3) (hg : GOk G) (hs : r'.self = r.self) (hv : r'.view = r.view) (hgot : r'.got = r.got) (hl : vle r.tail.last r'.tail.last) (ht : TEp r'.tail r.view.epoch) (hH : H = H) :
  GLe G (G.setF r.self r.view.epoch r'.tail.last) /\ GOk (G.setF r.self r.view.epoch r'.tail.last) /\ RI (G.setF r.self r.view.epoch r'.tail.last) r' := by
 have hne : r.view.phase ≠ 0 := by omega
 have hi := h.i hne
 obtain ⟨t, t1, t2⟩ := hg _ _ _ hi.r1
 have hle : GLe G (G.setF r.self r.view.epoch r'.tail.last) := .setF fun u hu => by
  rw [hi.r1] at hu
  injection hu with hu
  subst hu; exact hl
 have hok : GOk (G.setF r.self r.view.epoch r'.tail.last) := hg.setF t1 (t2.trans hl)
 refine ⟨hle, hok, ⟨fun e he => ?_, fun b e hb => ?_, fun _ => ?_⟩⟩
 ·rw [hs] at he
  rw [hv]
  by_cases c : e = r.view.epoch
  ·exact ⟨hne, by omega⟩
  ·rw [setF_no (fun x => c x.2)] at he; exact h.f7 e he
 ·rw [hs] at hb ⊢
  rw [setF_no (fun x => by
   have := congrArg Member.boot x.1
   have this : b = r.self.boot := this
   omega)]
  exact h.fb b e hb
 ·refine ⟨?_, ?_, ?_, ?_, ?_, ?_, ?_, ?_, ?_⟩
  ·rw [hs, hv]; exact setF_at ..
  ·rw [hs, hv]; exact hi.r2
  ·rw [hv]; intro x; omega
  ·rw [hv]; exact hi.r4
  ·rw [hv, hs]; intro x; omega
  ·rw [hv, hs, hgot]; intro y hy hle'; exact (hi.r5 y hy hle').ext hle hok
  ·rw [hv, hs]
   intro hf i hil _
   have := hi.r6 hf i hil (.inl hp)
   obtain ⟨u, hu⟩ := Option.isSome_iff_exists.1 this
   obtain ⟨u', a1, _⟩ := hle.f _ _ u hu
   rw [a1]; rfl
  ·rw [hv]; exact ht.1
  ·rw [hv]; exact ht.2
theorem RI.tep {G : Gh} {r : Rep} (h : RI G r) (hp : r.view.phase ≠ 0) : TEp r.tail r.view.epoch := ⟨(h.i hp).r8, (h.i hp).r9⟩
structure MQ (H : Hist) (G : Gh) (fr : Int -> Bool) (m : Msg) : Prop where
 k10 : m.kind = 10 -> fr m.epoch = m.fresh
 k11 : m.kind = 11 -> G.T m.epoch = some m.image.last /\ (ep m.image.last : Int) <= m.epoch /\ ∀ en ∈ m.image.log, (ep en.ver : Int) <= m.epoch
 k12 : m.kind = 12 -> (G.F ⟨m.src, m.sboot⟩ m.epoch).isSome = true
 k13 : m.kind = 13 -> ∀ en ∈ m.entries, (ep en.ver : Int) <= m.epoch
 k14 : m.kind = 14 -> ∀ C, (m.epoch, C) ∈ H -> ∀ y ∈ C, idx C ⟨m.src, m.sboot⟩ <= idx C y -> FdLe G m.ver y m.epoch
 kH : m.kind = 10 \/ m.kind = 11 -> (m.epoch, m.chain) ∈ H
 kh : m.kind = 14 -> ∃ C, (m.epoch, C) ∈ H
theorem hand_i {E : Int} {N : Nat} {H : Hist} {G : Gh} {fr : Int -> Bool} {r : Rep} {m : Msg} (h : RI G r) (hr : RepIs E N r) (hm : MsgIs E N m) (hEN : E <= N) (hN : N <= 1000) (ho : OR H r) (hf : HFun H) (hg : GOk G) (hq : MQ H G fr m)
  (hT : ∀ e t C, G.T e = some t -> (e, C) ∈ H -> ∀ w, isFirst C w = true -> (G.F w e).isSome = true) : ∃ G', HR H G fr r (handP r m) G' := by
 have hout := handP_is hr hm hN hEN
 have hoo := hand_o (H := H) (m := m) ho hq.kH
 unfold handP at hout hoo ⊢
 cases ht : toMe r m with
 | false => exact ⟨G, .same h hg⟩
 | true =>
  rw [ht, cond_true] at hout hoo
  rw [cond_true]
  unfold handK at hout hoo ⊢
  cases e8 : decide (m.kind = 8) with
  | true =>
   rw [cond_true]
   unfold freezeP
   cases ha : aboveP r m with
   | false => exact ⟨G, .same h hg⟩
   | true =>
    rw [cond_true]
    refine ⟨G, .keep hg ⟨h.f7, h.fb, fun hp => { h.i hp with }⟩ fun x hx => ?_⟩
    have : x = frozeM r m := by simpa using hx
    subst this
    exact ⟨(by show (9 : Int) ≠ 7; decide), (by show (9 : Int) ≠ 10; decide), fun _ => ⟨rfl, rfl, rfl, rfl, rfl, rfl⟩, (fun k => by cases k), (fun k => by cases k), (fun k => by cases k), (fun k => by cases k), (fun k => by cases k)⟩
  | false =>
  rw [e8, cond_false] at hout hoo
  rw [cond_false]
  cases e10 : decide (m.kind = 10) with
  | true =>
   have k10 := of_decide_eq_true e10
   rw [e10, cond_true] at hout hoo
   rw [cond_true]
   unfold actP at hout hoo ⊢
   cases ha : actG r m with
   | false => exact ⟨G, .same h hg⟩
   | true =>
    rw [ha, cond_true] at hout hoo
    rw [cond_true]
    unfold actG at ha
    obtain ⟨a1, a2⟩ := and_true' ha
    obtain ⟨a3, a4⟩ := and_true' a2
    obtain ⟨b1, b2⟩ := above_iff.1 a1
    have hH := hq.kH (.inl k10)
    have hFn : ∀ y, G.F y m.epoch = none := by
     intro y
     match hy : G.F y m.epoch with
     | none => rfl
     | some u =>
      obtain ⟨t, t1, _⟩ := hg y m.epoch u hy
      have := (h.f7 m.epoch (hT _ _ _ t1 hH _ a3)).2
      omega
    have hTn : G.T m.epoch = none := by
     match hy : G.T m.epoch with
     | none => rfl
     | some t =>
      have := (h.f7 m.epoch (hT _ _ _ hy hH _ a3)).2
      omega
    have hnd : m.chain.Nodup := hm.chain.2.1
    have hle1 := GLe.setT (v := (actT r m).last) hTn
    have hle2 : GLe (G.setT m.epoch (actT r m).last) ((G.setT m.epoch (actT r m).last).setF r.self m.epoch (actT r m).last) := .setF fun u hu => by
     have hu : G.F r.self m.epoch = some u := hu
     rw [hFn] at hu; cases hu
    have hok : GOk ((G.setT m.epoch (actT r m).last).setF r.self m.epoch (actT r m).last) := (hg.setT hTn).setF (setT_at ..) (.refl _)
    obtain ⟨tl, hC⟩ := isFirst_cons a3
    have hep : TEp (actT r m) m.epoch := by
     unfold actT
     cases hfr : m.fresh with
     | true =>
      have h0 := hm.ep0
      have h1 := hm.ep
      refine ⟨?_, fun en he => by cases he⟩
      show (ep (vr m.epoch.toNat 0) : Int) <= m.epoch
      rw [ep_vr (by omega)]; omega
     | false =>
      rw [hfr, Bool.false_or] at a4
      have hp : r.view.phase ≠ 0 := by
       intro e
       have := (and_true' a4).1
       rw [e] at this
       cases this
      have := h.tep hp
      exact ⟨by have := this.1; show (ep r.tail.last : Int) <= _; omega, fun en he => by have := this.2 en he; omega⟩
    have hri : RI ((G.setT m.epoch (actT r m).last).setF r.self m.epoch (actT r m).last) (actR r m) := by
     refine ⟨fun e he => ?_, fun b e hb => ?_, fun _ => ?_⟩
     ·have hph : (actR r m).view.phase ≠ 0 := by
       show (bif decide (m.chain.length = 1) then (3 : Int) else 2) ≠ 0
       cases decide (m.chain.length = 1) <;> decide
      refine ⟨hph, ?_⟩
      show e <= m.epoch
      by_cases c : e = m.epoch
      ·omega
      ·rw [setF_no (fun x => c x.2)] at he
       have := (h.f7 e he).2
       omega
     ·have hb : r.self.boot < b := hb
      rw [setF_no (fun x => by
       have := congrArg Member.boot x.1
       have this : b = r.self.boot := this
       omega)]
      exact h.fb b e hb
     ·refine ⟨setF_at .., by show r.self ∈ m.chain; rw [hC]; exact List.mem_cons_self .., fun _ => setT_at .., ?_, fun _ => a3, fun y hy hle => ?_, fun _ i hi hx => ?_, hep.1, hep.2⟩
      ·show (bif decide (m.chain.length = 1) then (3 : Int) else 2) = 2 \/ (bif decide (m.chain.length = 1) then (3 : Int) else 2) = 3
       cases decide (m.chain.length = 1) with
       | true => exact .inr rfl
       | false => exact .inl rfl
      ·show FdLe _ (actT r m).last y m.epoch
       by_cases c : y = r.self
       ·subst c; exact .inl ⟨_, setF_at .., .refl _⟩
       ·exact .inr ⟨by rw [setF_no (fun x => c x.1)]; exact hFn y, _, setT_at .., .refl _⟩
      ·have hi : i < m.chain.length := hi
       have hz : i = 0 := by
        rcases hx with hx | hx
        ·have hx : (bif decide (m.chain.length = 1) then (3 : Int) else 2) = 3 := hx
         cases hd : decide (m.chain.length = 1) with
         | true => have := of_decide_eq_true hd; omega
         | false => rw [hd] at hx; cases hx
        ·have hx : (true :: List.replicate (m.chain.length - 1) false).getD i false = true := hx
         cases i with
         | zero => rfl
         | succ i =>
          exfalso
          by_cases c : i < m.chain.length - 1
          ·simp [List.getD, c] at hx
          ·have c' : m.chain.length - 1 <= i := by omega
           simp [List.getD, List.getElem?_replicate, c] at hx
       subst hz
       show (((G.setT m.epoch (actT r m).last).setF r.self m.epoch (actT r m).last).F (m.chain.getD 0 default) m.epoch).isSome = true
       rw [hC]
       show (((G.setT m.epoch (actT r m).last).setF r.self m.epoch (actT r m).last).F r.self m.epoch).isSome = true
       rw [setF_at]; rfl
    refine ⟨_, hle1.trans hle2, hok, fun x e hx => ?_, fun e hx => ?_, hri, again_i hri hnd hoo.or hf⟩
    ·by_cases c : x = r.self /\ e = m.epoch
     ·refine ⟨c.1, by rw [c.2]; exact b2, c.2, ?_⟩
      show (bif decide (m.chain.length = 1) then (3 : Int) else 2) ≠ 0
      cases decide (m.chain.length = 1) <;> decide
     ·rw [setF_no c] at hx; exact absurd rfl hx
    ·by_cases c : e = m.epoch
     ·subst c
      refine ⟨hTn, b1, b2, _, setT_at .., ?_, m.chain, hH, a3, by rw [setF_at]; rfl⟩
      have hfre := hq.k10 k10
      unfold actT
      cases hfr : m.fresh with
      | true => exact .inl ⟨by rw [hfre, hfr], rfl⟩
      | false =>
       rw [hfr, Bool.false_or] at a4
       obtain ⟨p1, p2⟩ := and_true' a4
       refine .inr ⟨by rw [hfre, hfr], (of_decide_eq_true p2).symm, ?_, rfl⟩
       intro e
       rw [e] at p1
       cases p1
     ·exact absurd (setT_no c) hx
  | false =>
  rw [e10, cond_false] at hout hoo
  rw [cond_false]
  cases e11 : decide (m.kind = 11) with
  | true =>
   have k11 := of_decide_eq_true e11
   rw [cond_true]
   unfold insP
   cases hi : decide (0 < idx m.chain r.self) with
   | false => exact ⟨G, .same h hg⟩
   | true =>
    rw [cond_true]
    have hidx := of_decide_eq_true hi
    obtain ⟨q1, q2, q3⟩ := hq.k11 k11
    have hfst : isFirst m.chain r.self = false := by
     rw [<- idx_first]
     exact decide_eq_false (by omega)
    cases ha : aboveP r m with
    | false =>
     have hins : insR r m = r := by unfold insR; rw [ha]; rfl
     rw [hins]
     refine ⟨G, .keep hg h fun x hx => ?_⟩
     cases hc : liveP r && decide (m.epoch = r.view.epoch) with
     | false => rw [hc] at hx; cases hx
     | true =>
      rw [hc] at hx
      have : x = toM r ⟨m.src, m.sboot⟩ 12 := by simpa using hx
      subst this
      have hp := (live_ph (and_true' hc).1).1
      exact ⟨(by show (12 : Int) ≠ 7; decide), (by show (12 : Int) ≠ 10; decide), (fun k => by cases k), (fun k => by cases k), fun _ => (by show (G.F r.self r.view.epoch).isSome = true; rw [(h.i hp).r1]; rfl), (fun k => by cases k), (fun k => by cases k), (fun k => by cases k)⟩
    | true =>
     obtain ⟨b1, b2⟩ := above_iff.1 ha
     have hins : insR r m = { r with view := ⟨m.shard, m.epoch, m.gen, 3, m.chain⟩, tail := ⟨m.image.floor, m.image.last, m.image.log⟩, seen := m.image.seen, got := m.image.last, synced := [] } := by unfold insR; rw [ha]; rfl
     have hFn : G.F r.self m.epoch = none := by
      match hy : G.F r.self m.epoch with
      | none => rfl
      | some u =>
       have := (h.f7 m.epoch (by rw [hy]; rfl)).2
       omega
     have hle : GLe G (G.setF r.self m.epoch m.image.last) := .setF fun u hu => by rw [hFn] at hu; cases hu
     have hok : GOk (G.setF r.self m.epoch m.image.last) := hg.setF q1 (.refl _)
     have hri : RI (G.setF r.self m.epoch m.image.last) (insR r m) := by
      rw [hins]
      refine ⟨fun e he => ?_, fun b e hb => ?_, fun _ => ?_⟩
      ·refine ⟨by show (3 : Int) ≠ 0; decide, ?_⟩
       show e <= m.epoch
       by_cases c : e = m.epoch
       ·omega
       ·rw [setF_no (fun x => c x.2)] at he
        have := (h.f7 e he).2
        omega
      ·have hb : r.self.boot < b := hb
       rw [setF_no (fun x => by
        have := congrArg Member.boot x.1
        have this : b = r.self.boot := this
        omega)]
       exact h.fb b e hb
      ·refine ⟨setF_at .., idx_mem.1 (by show 0 <= idx m.chain r.self; omega), (fun e => by cases e), .inr rfl, (fun e => by cases e), fun y hy hle' => ?_, fun hx => ?_, q2, q3⟩
       ·show FdLe _ m.image.last y m.epoch
        by_cases c : y = r.self
        ·subst c; exact .inl ⟨_, setF_at .., .refl _⟩
        ·match hy2 : G.F y m.epoch with
         | none => exact .inr ⟨by rw [setF_no (fun x => c x.1)]; exact hy2, _, q1, .refl _⟩
         | some u =>
          obtain ⟨t, t1, t2⟩ := hg y m.epoch u hy2
          rw [q1] at t1
          injection t1 with t1
          subst t1
          exact .inl ⟨u, by rw [setF_no (fun x => c x.1)]; exact hy2, t2⟩
       ·have hx : isFirst m.chain r.self = true := hx
        rw [hfst] at hx; cases hx
     have hsv : (insR r m).view.epoch = m.epoch /\ (insR r m).view.phase = 3 := by rw [hins]; exact ⟨rfl, rfl⟩
     refine ⟨_, hle, hok, fun x e hx => ?_, fun e hx => absurd rfl hx, hri, fun x hx => ?_⟩
     ·by_cases c : x = r.self /\ e = m.epoch
      ·refine ⟨c.1, by rw [c.2]; exact b2, ?_, ?_⟩
       ·show e = (insR r m).view.epoch; rw [hsv.1]; exact c.2
       ·show (insR r m).view.phase ≠ 0; rw [hsv.2]; decide
      ·rw [setF_no c] at hx; exact absurd rfl hx
     ·dsimp only at hx
      cases hc : liveP (insR r m) && decide (m.epoch = (insR r m).view.epoch) with
      | false => rw [hc] at hx; cases hx
      | true =>
       rw [hc] at hx
       have : x = toM (insR r m) ⟨m.src, m.sboot⟩ 12 := by simpa using hx
       subst this
       have hp := (live_ph (and_true' hc).1).1
       exact ⟨(by show (12 : Int) ≠ 7; decide), (by show (12 : Int) ≠ 10; decide), (fun k => by cases k), (fun k => by cases k), fun _ => (by
        show ((G.setF r.self m.epoch m.image.last).F (insR r m).self (insR r m).view.epoch).isSome = true
        rw [(hri.i hp).r1]; rfl), (fun k => by cases k), (fun k => by cases k), (fun k => by cases k)⟩
  | false =>
  rw [e11, cond_false] at hout hoo
  rw [cond_false]
  cases e12 : decide (m.kind = 12) with
  | true =>
   rw [cond_true]
   unfold indP
   cases hc : syncsP r && (decide (m.epoch = r.view.epoch) && decide (0 <= idx r.view.chain (who m))) with
   | false => exact ⟨G, .same h hg⟩
   | true =>
    rw [cond_true]
    obtain ⟨c1, c2⟩ := and_true' hc
    obtain ⟨c3, c4⟩ := and_true' c2
    have c3 := of_decide_eq_true c3
    have c4 := of_decide_eq_true c4
    obtain ⟨s1, s2⟩ := syncs_ph c1
    have hp : r.view.phase ≠ 0 := by omega
    have hi := h.i hp
    have hk := hq.k12 (of_decide_eq_true e12)
    rw [c3] at hk
    have hk : (G.F (who m) r.view.epoch).isSome = true := hk
    obtain ⟨kk, k1, k2⟩ := idx_at (idx_mem.1 c4)
    have hsy : ∀ i, i < r.view.chain.length -> (indS r m).getD i false = true -> (G.F (r.view.chain.getD i default) r.view.epoch).isSome = true := by
     intro i hil hx
     unfold indS at hx
     rw [k1, Int.toNat_natCast] at hx
     by_cases c : i = kk
     ·subst c
      have : r.view.chain.getD i default = who m := by simp [List.getD, k2]
      rw [this]; exact hk
     ·have : (r.synced.set kk true).getD i false = r.synced.getD i false := by
       unfold List.getD
       rw [List.getElem?_set_ne (fun x => c x.symm)]
      rw [this] at hx
      exact hi.r6 (hi.r4' s2) i hil (.inr hx)
    have hlen : (indS r m).length = r.view.chain.length := by
     unfold indS
     rw [List.length_set]
     exact (hr.sync s2).2
    refine ⟨G, .keep hg ?_ (fun m hm => by cases hm)⟩
    unfold indR
    cases hall : (indS r m).all id with
    | false =>
     have hr6 : isFirst r.view.chain r.self = true -> ∀ i, i < r.view.chain.length -> (r.view.phase = 3 \/ (indS r m).getD i false = true) -> (G.F (r.view.chain.getD i default) r.view.epoch).isSome = true := by
      intro _ i hil hx
      rcases hx with hx | hx
      ·omega
      ·exact hsy i hil hx
     exact ⟨h.f7, h.fb, fun _ => { hi with r6 := hr6 }⟩
    | true =>
     rw [cond_true]
     have hT2 := hi.r3 s2
     have hin : ∀ i, i < r.view.chain.length -> (G.F (r.view.chain.getD i default) r.view.epoch).isSome = true := by
      intro i hil
      refine hsy i hil ?_
      have hil' : i < (indS r m).length := by omega
      have := List.all_eq_true.1 hall ((indS r m)[i]) (List.getElem_mem hil')
      simp [List.getD, List.getElem?_eq_getElem hil']
      simpa using this
     refine ⟨fun e he => ⟨by show (3 : Int) ≠ 0; decide, (h.f7 e he).2⟩, h.fb, fun _ => ⟨hi.r1, hi.r2, (fun e => by cases e), .inr rfl, (fun e => by cases e), fun y hy hle => ?_, fun _ i hil _ => hin i hil, hi.r8, hi.r9⟩⟩
     show FdLe G r.tail.last y r.view.epoch
     match hy2 : G.F y r.view.epoch with
     | none => exact .inr ⟨hy2, _, hT2, .refl _⟩
     | some u =>
      obtain ⟨t, t1, t2⟩ := hg y _ u hy2
      rw [hT2] at t1
      injection t1 with t1
      subst t1
      exact .inl ⟨u, hy2, t2⟩
  | false =>
  rw [e12, cond_false] at hout hoo
  rw [cond_false]
  cases e13 : decide (m.kind = 13) with
  | true =>
   rw [e13, cond_true] at hout hoo
   rw [cond_true]
   unfold fwdP at hout hoo ⊢
   cases hc : nextG r m (-1) with
   | false => exact ⟨G, .same h hg⟩
   | true =>
    rw [hc, cond_true] at hout hoo
    rw [cond_true]
    unfold nextG at hc
    obtain ⟨c1, c2⟩ := and_true' hc
    have c3 := of_decide_eq_true (and_true' c2).1
    obtain ⟨s1, s2⟩ := works_ph c1
    have hp : r.view.phase ≠ 0 := by omega
    have hlv := (live_ph s1).2
    have hkp := fwdR_self r m
    have hq13 := hq.k13 (of_decide_eq_true e13)
    rw [c3] at hq13
    have key := RI.tail (H := H) (r' := fwdR r m) h s2 hg hkp.self hkp.view hkp.got (vlast_fwd r m) (tep_fwd (h.tep hp) hq13) rfl
    obtain ⟨k1, k2, k3⟩ := key
    refine ⟨_, k1, k2, fun x e hx => ?_, fun e hx => absurd rfl hx, k3, again_i k3 hout.rep.chain.2.1 hoo.or hf⟩
    by_cases c : x = r.self /\ e = r.view.epoch
    ·refine ⟨c.1, by rw [c.2]; exact hlv, ?_, ?_⟩
     ·show e = (fwdR r m).view.epoch; rw [hkp.view]; exact c.2
     ·show (fwdR r m).view.phase ≠ 0; rw [hkp.view]; exact hp
    ·rw [setF_no c] at hx; exact absurd rfl hx
  | false =>
  rw [e13, cond_false] at hout hoo
  rw [cond_false]
  cases e14 : decide (m.kind = 14) with
  | true =>
   rw [e14, cond_true] at hout hoo
   rw [cond_true]
   unfold ackP at hout hoo ⊢
   cases hc : nextG r m 1 with
   | false => exact ⟨G, .same h hg⟩
   | true =>
    rw [hc, cond_true] at hout hoo
    rw [cond_true]
    unfold nextG at hc
    obtain ⟨c1, c2⟩ := and_true' hc
    obtain ⟨c3, c4⟩ := and_true' c2
    have c3 := of_decide_eq_true c3
    have c4 := of_decide_eq_true c4
    obtain ⟨s1, s2⟩ := works_ph c1
    have hp : r.view.phase ≠ 0 := by omega
    have hi := h.i hp
    have hnd := hr.chain.2.1
    obtain ⟨d1, d2, d3⟩ := sideP_some hnd c4
    have hri : RI G (ackR r m) := by
     unfold ackR
     cases hv : vlt r.tail.last m.ver with
     | true => exact h
     | false =>
      have hr5 : ∀ y ∈ r.view.chain, idx r.view.chain r.self <= idx r.view.chain y -> FdLe G (vmax r.got m.ver) y r.view.epoch := by
       intro y hy hle
       refine (hi.r5 y hy hle).max ?_
       by_cases c : y = r.self
       ·subst c; exact .inl ⟨_, hi.r1, hv⟩
       ·have hk := hq.k14 (of_decide_eq_true e14) r.view.chain (by rw [c3]; exact ho hp) y hy
        rw [c3] at hk
        refine hk ?_
        have hne : idx r.view.chain r.self ≠ idx r.view.chain y := fun e => c (idx_inj hy d1 e.symm)
        have d3 : idx r.view.chain ⟨m.src, m.sboot⟩ = idx r.view.chain r.self + 1 := d3
        omega
      exact ⟨h.f7, h.fb, fun _ => { hi with r5 := hr5 }⟩
    have hv : (ackR r m).view = r.view := by unfold ackR; cases vlt r.tail.last m.ver <;> rfl
    refine ⟨G, .keep hg hri fun x hx => ?_⟩
    have hp' : (ackR r m).view.phase ≠ 0 := by rw [hv]; exact hp
    exact acks_i (hri.i hp') (by rw [hv]; exact hnd) (hoo.or hp') hf x hx
  | false => exact ⟨G, .same h hg⟩
def CP (R : List Rep) (G : Gh) (t : Ver) (e : Int) (C : List Member) : Prop :=
 (∀ v : Ver, (ep v : Int) <= e -> vle v t) \/ ∃ w ∈ C, FzOk R w (e + 1) /\ ∀ u, G.F w e = some u -> vle u t
def K9 (R : List Rep) (m : Msg) : Prop := ∀ r ∈ R, r.self = ⟨m.src, m.sboot⟩ -> r.frozen = m.epoch -> r.view.epoch < m.epoch -> m.a = r.view.epoch /\ m.has = !decide (r.view.phase = 0) /\ m.ver = r.tail.last
def K9b (G : Gh) (m : Msg) : Prop := m.has = true -> (G.F ⟨m.src, m.sboot⟩ m.a).isSome = true
def K7 (H : Hist) (G : Gh) (m : Msg) : Prop := ∀ v ∈ m.views, v.phase = 3 -> ∀ C, (v.epoch, C) ∈ H -> isFirst C ⟨m.src, m.sboot⟩ = true -> ∀ y ∈ C, (G.F y v.epoch).isSome = true
structure WyI (R : List Rep) (H : Hist) (G : Gh) (fr : Int -> Bool) (m : Msg) : Prop where
 q : MQ H G fr m
 k9 : m.kind = 9 -> K9 R m /\ K9b G m
 k7 : m.kind = 7 -> K7 H G m
 k7h : m.kind = 7 -> ∀ v ∈ m.views, v.phase = 3 -> ∃ C, (v.epoch, C) ∈ H
structure BuI (R : List Rep) (H : Hist) (G : Gh) (fr : Int -> Bool) (s : ES) : Prop where
 fz : ∀ f ∈ s.fz.l, f.epoch = s.p.epoch /\ K9 R f /\ K9b G f
 f3 : s.p.phase = 3 -> fr s.p.epoch = s.p.fresh
 b0 : 0 <= s.p.base
 bh : ∀ e C rest, H = (e, C) :: rest -> s.p.base <= e
 bn : H = [] -> s.p.base = 0
 v : ∀ m ∈ s.p.valid, ∀ r ∈ R, r.self = m -> (r.view.phase ≠ 0 /\ s.p.base <= r.view.epoch) \/ (G.T s.p.base = none /\ ∃ C rest, H = (s.p.base, C) :: rest /\ isFirst C m = true)
 w : ∀ m ∈ s.p.valid, ∀ r ∈ R, r.self = m -> ∀ e C, (e, C) ∈ H -> s.p.base <= e -> r.view.epoch < e -> m ∈ C
 b : ∀ e C t, (e, C) ∈ H -> s.p.base <= e -> G.T e = some t -> s.p.base <= (ep t : Int)
 a : ∀ a C, (a, C) ∈ H -> fr a = false -> ∀ r ∈ R, isFirst C r.self = true -> r.frozen = a -> r.view.epoch < a -> r.view.phase ≠ 0 ->
  (∀ e Ce, (e, Ce) ∈ H -> e < a -> CP R G r.tail.last e Ce) /\ (s.p.base <= a -> s.p.base <= (ep r.tail.last : Int))
 fw : ∀ a C, (a, C) ∈ H -> fr a = false -> ∀ w, isFirst C w = true -> FzOk R w a
structure GI (R : List Rep) (H : Hist) (G : Gh) (fr : Int -> Bool) : Prop where
 ok : GOk G
 ri : ∀ r ∈ R, RI G r
 tf : ∀ e t C, G.T e = some t -> (e, C) ∈ H -> ∀ w, isFirst C w = true -> (G.F w e).isSome = true
 th : ∀ e t, G.T e = some t -> ∃ C, (e, C) ∈ H
 c : ∀ e C a C' t, (e, C) ∈ H -> (a, C') ∈ H -> e < a -> G.T a = some t -> CP R G t e C
theorem hfun {H : Hist} (h : H.Pairwise fun a b => b.1 < a.1) : HFun H := by
 intro e C C' h1 h2
 induction H with
 | nil => cases h1
 | cons x l ih =>
  obtain ⟨p1, p2⟩ := List.pairwise_cons.1 h
  rcases List.mem_cons.1 h1 with a | a
  ·rcases List.mem_cons.1 h2 with b | b
   ·rw [<- a] at b; injection b with _ b; exact b.symm
   ·have := p1 _ b
    rw [<- a] at this
    have this : e < e := this
    omega
  ·rcases List.mem_cons.1 h2 with b | b
   ·have := p1 _ a
    rw [<- b] at this
    have this : e < e := this
    omega
   ·exact ih p2 a b
theorem KI.le {R : List Rep} {H : Hist} {G : Gh} {v t : Ver} {e : Int} {C : List Member} (h : KI H G v e) (hf : HFun H) (hC : (e, C) ∈ H) (hc : CP R G t e C) : vle v t := by
 rcases hc with hc | ⟨w, w1, _, w3⟩
 ·exact hc v h.ep
 ·obtain ⟨C', c1, _, c3⟩ := h.c
  have := hf e C C' hC c1
  subst this
  obtain ⟨u, u1, u2⟩ := c3 w w1
  exact u2.trans (w3 u u1)
theorem safe_le {R : List Rep} {H : Hist} {G : Gh} {fr : Int -> Bool} {s : ES} {v : Ver} {e : Int} (hg : GI R H G fr) (hb : BuI R H G fr s) (hf : HFun H) (ho : ∀ r ∈ R, OR H r) (hd : ∀ e C rest, H = (e, C) :: rest -> ∀ x ∈ H, x.1 <= e) (hk : KI H G v e) (he : s.p.base <= e)
  {m : Member} (hm : m ∈ s.p.valid) {r : Rep} (hr : r ∈ R) (hs : r.self = m) : r.view.phase ≠ 0 /\ s.p.base <= r.view.epoch /\ vle v r.tail.last := by
 obtain ⟨C, c1, c2, c3⟩ := hk.c
 have hT : ∃ t, G.T e = some t := by
  obtain ⟨x, hx⟩ := List.exists_mem_of_ne_nil C c2
  obtain ⟨u, u1, _⟩ := c3 x hx
  obtain ⟨t, t1, _⟩ := hg.ok x e u u1
  exact ⟨t, t1⟩
 rcases hb.v m hm r hr hs with ⟨h1, h2⟩ | ⟨h1, C', rest, h2, _⟩
 ·refine ⟨h1, h2, ?_⟩
  have hi := (hg.ri r hr).i h1
  have hin := ho r hr h1
  obtain ⟨t, t1, t2⟩ := hg.ok _ _ _ hi.r1
  by_cases x1 : r.view.epoch = e
  ·rw [x1] at hin
   have := hf e _ _ hin c1
   obtain ⟨u, u1, u2⟩ := c3 r.self (by rw [<- this]; exact hi.r2)
   have h3 := hi.r1
   rw [x1, u1] at h3
   injection h3 with h3
   rw [<- h3]; exact u2
  ·by_cases x2 : e < r.view.epoch
   ·exact (hk.le hf c1 (hg.c e C _ _ t c1 hin x2 t1)).trans t2
   ·have hin2 := hb.w m hm r hr hs e C c1 he (by omega)
    obtain ⟨u, u1, _⟩ := c3 m hin2
    have := ((hg.ri r hr).f7 e (by rw [hs, u1]; rfl)).2
    omega
 ·obtain ⟨t, t1⟩ := hT
  have := hd _ _ _ h2 _ c1
  have this : e <= s.p.base := this
  have : e = s.p.base := by omega
  rw [this, h1] at t1
  cases t1
theorem commit_ki {H : Hist} {G : Gh} {r : Rep} {E : Int} {N : Nat} (h : RI G r) (ho : OR H r) (hr : RepIs E N r) : commitP r = ⟨0, 0⟩ \/ KI H G (commitP r) r.view.epoch := by
 unfold commitP
 cases hh : headP r with
 | false => exact .inl rfl
 | true =>
  right
  rw [cond_true]
  unfold headP at hh
  obtain ⟨h1, h2⟩ := and_true' hh
  obtain ⟨h3, h4⟩ := works_ph h1
  have hp : r.view.phase ≠ 0 := by omega
  have hi := h.i hp
  obtain ⟨t, hC⟩ := isFirst_cons h2
  have hne : r.view.chain ≠ [] := by rw [hC]; exact List.cons_ne_nil _ _
  cases hl : decide (r.view.chain.length = 1) with
  | true =>
   have hl := of_decide_eq_true hl
   refine ⟨⟨r.view.chain, ho hp, hne, fun x hx => ?_⟩, hi.r8⟩
   have : t = [] := by
    rw [hC] at hl
    simpa using hl
   rw [hC, this] at hx
   have : x = r.self := by simpa using hx
   subst this
   exact ⟨_, hi.r1, .refl _⟩
  | false =>
   have hgl := ep_le hr.gle
   refine ⟨⟨r.view.chain, ho hp, hne, fun x hx => ?_⟩, by have := hi.r8; show (ep r.got : Int) <= _; omega⟩
   obtain ⟨k, k1, k2⟩ := idx_at hx
   have hk : k < r.view.chain.length := (List.getElem?_eq_some_iff.1 k2).1
   have h6 := hi.r6 h2 k hk (.inl h4)
   have hx2 : r.view.chain.getD k default = x := by simp [List.getD, k2]
   rw [hx2] at h6
   obtain ⟨u, hu⟩ := Option.isSome_iff_exists.1 h6
   rcases hi.r5 x hx (by rw [isFirst_idx h2, k1]; omega) with ⟨u', a1, a2⟩ | ⟨a1, _⟩
   ·exact ⟨u', a1, a2⟩
   ·rw [hu] at a1; cases a1
structure StI (H : Hist) (fr : Int -> Bool) (R R' : List Rep) (G G' : Gh) : Prop where
 up : Up1 R R'
 le : GLe G G'
 ok : GOk G'
 tf : ∀ x e, FzOk R x (e + 1) -> G'.F x e = G.F x e
 tt : ∀ e, G'.T e ≠ G.T e -> G.T e = none /\ ∃ t, G'.T e = some t /\ (∃ C, (e, C) ∈ H) /\ (∀ C, (e, C) ∈ H -> ∀ w, isFirst C w = true -> (G'.F w e).isSome = true) /\
  ((fr e = true /\ t = vr e.toNat 0 /\ 0 <= e /\ e <= 1000) \/ (fr e = false /\ ∃ r ∈ R, (∃ C, (e, C) ∈ H /\ isFirst C r.self = true) /\ r.frozen = e /\ r.view.epoch < e /\ r.view.phase ≠ 0 /\ t = r.tail.last))
 st : ∀ r' ∈ R', ∀ f, r'.frozen = f -> r'.view.epoch < f -> FzOk R r'.self f -> ∃ r ∈ R, r.self = r'.self /\ r.frozen = f /\ r.view = r'.view /\ r.tail = r'.tail
 ri : ∀ r ∈ R', RI G' r
 mv : ∀ r' ∈ R', ∀ r ∈ R, r.self = r'.self -> r.view.epoch <= r'.view.epoch /\ (r.view.phase ≠ 0 -> r'.view.phase ≠ 0)
theorem StI.cp {H : Hist} {fr : Int -> Bool} {R R' : List Rep} {G G' : Gh} (h : StI H fr R R' G G') {t : Ver} {e : Int} {C : List Member} (hc : CP R G t e C) : CP R' G' t e C := by
 rcases hc with hc | ⟨w, w1, w2, w3⟩
 ·exact .inl hc
 ·exact .inr ⟨w, w1, w2.up h.up, fun u hu => w3 u (by rw [<- h.tf w e w2]; exact hu)⟩
theorem StI.k9 {H : Hist} {fr : Int -> Bool} {R R' : List Rep} {G G' : Gh} (h : StI H fr R R' G G') {m : Msg} (hk : K9 R m) (hf : FzOk R ⟨m.src, m.sboot⟩ m.epoch) : K9 R' m := by
 intro r' hr' hs hfz hv
 obtain ⟨r, r1, r2, r3, r4, r5⟩ := h.st r' hr' m.epoch hfz hv (by rw [hs]; exact hf)
 have := hk r r1 (r2.trans hs) r3 (by rw [r4]; exact hv)
 rw [r4, r5] at this
 exact this
theorem some_mono {G G' : Gh} (h : GLe G G') {x : Member} {e : Int} (hs : (G.F x e).isSome = true) : (G'.F x e).isSome = true := by
 obtain ⟨u, hu⟩ := Option.isSome_iff_exists.1 hs
 obtain ⟨u', a, _⟩ := h.f x e u hu
 rw [a]; rfl
theorem StI.wy {H : Hist} {fr : Int -> Bool} {R R' : List Rep} {G G' : Gh} (h : StI H fr R R' G G') {m : Msg} (hm : WyI R H G fr m) (hw : OW H R m) : WyI R' H G' fr m := by
 refine ⟨⟨hm.q.k10, fun k => ?_, fun k => some_mono h.le (hm.q.k12 k), hm.q.k13, fun k C hC y hy hle => (hm.q.k14 k C hC y hy hle).ext h.le h.ok, hm.q.kH, hm.q.kh⟩, fun k => ⟨h.k9 (hm.k9 k).1 (hw.1 k), fun x => some_mono h.le ((hm.k9 k).2 x)⟩, fun k v hv hp C hC hf y hy => some_mono h.le (hm.k7 k v hv hp C hC hf y hy), hm.k7h⟩
 obtain ⟨a1, a2, a3⟩ := hm.q.k11 k
 exact ⟨h.le.t _ _ a1, a2, a3⟩
theorem StI.new {H : Hist} {fr : Int -> Bool} {R R' : List Rep} {G G' : Gh} {s : ES} (h : StI H fr R R' G G') (hb : BuI R H G fr s) {a : Int} {t : Ver} (ht : G'.T a = some t) : G.T a = some t \/
  (G.T a = none /\ (∀ e C, (e, C) ∈ H -> e < a -> CP R G t e C) /\ (s.p.base <= a -> s.p.base <= (ep t : Int))) := by
 by_cases c : G'.T a = G.T a
 ·left; rw [<- c]; exact ht
 ·right
  obtain ⟨a1, t', a2, _, _, a5⟩ := h.tt a c
  rw [a2] at ht
  injection ht with ht
  subst ht
  refine ⟨a1, ?_⟩
  rcases a5 with ⟨_, b2, b3, b4⟩ | ⟨b1, r, b2, ⟨C, b3, b4⟩, b5, b6, b7, b8⟩
  ·have he : (ep t' : Int) = a := by rw [b2, ep_vr (by omega)]; omega
   refine ⟨fun e C hC hlt => .inl fun v hv => vle_iff.2 (.inl (by omega)), fun hx => by omega⟩
  ·have := hb.a a C b3 b1 r b2 b4 b5 b6 b7
   rw [b8]; exact this
theorem StI.gi {H : Hist} {fr : Int -> Bool} {R R' : List Rep} {G G' : Gh} {s : ES} (h : StI H fr R R' G G') (hg : GI R H G fr) (hb : BuI R H G fr s) : GI R' H G' fr := by
 refine ⟨h.ok, h.ri, fun e t C ht hC w hw => ?_, fun e t ht => ?_, fun e C a C' t hC hC' hlt ht => ?_⟩
 ·by_cases c : G'.T e = G.T e
  ·rw [c] at ht
   exact some_mono h.le (hg.tf e t C ht hC w hw)
  ·obtain ⟨_, t', _, _, a4, _⟩ := h.tt e c
   exact a4 C hC w hw
 ·by_cases c : G'.T e = G.T e
  ·rw [c] at ht; exact hg.th e t ht
  ·obtain ⟨_, t', _, a3, _⟩ := h.tt e c
   exact a3
 ·rcases h.new hb ht with h1 | ⟨_, h2, _⟩
  ·exact h.cp (hg.c e C a C' t hC hC' hlt h1)
  ·exact h.cp (h2 e C hC hlt)
theorem StI.bu {H : Hist} {fr : Int -> Bool} {R R' : List Rep} {G G' : Gh} {s : ES} (h : StI H fr R R' G G') (hg : GI R H G fr) (hb : BuI R H G fr s) (ho : OB H R s) : BuI R' H G' fr s := by
 have pre : ∀ m ∈ s.p.valid, ∀ r' ∈ R', r'.self = m -> ∃ r ∈ R, r.self = m := by
  intro m hm r' hr' hs
  obtain ⟨r, hr, x⟩ := h.up r' hr'
  rcases x with ⟨x, _⟩ | ⟨x1, x2⟩
  ·exact ⟨r, hr, by rw [<- x]; exact hs⟩
  ·have := ho.chK m (ho.va m hm) r hr (by rw [<- x1, hs])
   rw [hs] at x2
   omega
 refine ⟨fun f hf => ?_, hb.f3, hb.b0, hb.bh, hb.bn, fun m hm r' hr' hs => ?_, fun m hm r' hr' hs e C hC he hlt => ?_, fun e C t hC he ht => ?_, fun a C hC hf r' hr' hfst hfz hv hp => ?_, fun a C hC hf w hw => (hb.fw a C hC hf w hw).up h.up⟩
 ·obtain ⟨f1, f2, f3⟩ := hb.fz f hf
  exact ⟨f1, h.k9 f2 (by rw [f1]; exact ho.fz f hf), fun x => some_mono h.le (f3 x)⟩
 ·obtain ⟨r, hr, e⟩ := pre m hm r' hr' hs
  obtain ⟨m1, m2⟩ := h.mv r' hr' r hr (e.trans hs.symm)
  rcases hb.v m hm r hr e with ⟨v1, v2⟩ | ⟨v1, C, rest, v2, v3⟩
  ·exact .inl ⟨m2 v1, by omega⟩
  ·by_cases c : G'.T s.p.base = G.T s.p.base
   ·exact .inr ⟨by rw [c]; exact v1, C, rest, v2, v3⟩
   ·obtain ⟨_, t, _, _, a4, _⟩ := h.tt _ c
    have := a4 C (by rw [v2]; exact List.mem_cons_self ..) m v3
    exact .inl ((h.ri r' hr').f7 _ (by rw [hs]; exact this))
 ·obtain ⟨r, hr, e1⟩ := pre m hm r' hr' hs
  obtain ⟨m1, _⟩ := h.mv r' hr' r hr (e1.trans hs.symm)
  exact hb.w m hm r hr e1 e C hC he (by omega)
 ·rcases h.new hb ht with h1 | ⟨_, _, h3⟩
  ·exact hb.b e C t hC he h1
  ·exact h3 he
 ·obtain ⟨r, r1, r2, r3, r4, r5⟩ := h.st r' hr' a hfz hv (hb.fw a C hC hf _ hfst)
  obtain ⟨q1, q2⟩ := hb.a a C hC hf r r1 (by rw [r2]; exact hfst) r3 (by rw [r4]; exact hv) (by rw [r4]; exact hp)
  rw [r5] at q1 q2
  exact ⟨fun e Ce he hlt => h.cp (q1 e Ce he hlt), q2⟩
theorem StI.one {N : Nat} {c : CConf} {p : PlayB} {H : Hist} {fr : Int -> Bool} {G G' : Gh} {j : Nat} {o : Rep × List Msg} (hp : PIs N c p) (hN : N <= 1000) (hj : j < p.reps.length) (hg : GI p.reps H G fr) (hb : ∀ e C, (e, C) ∈ H -> 0 <= e /\ e <= 1000) (hf : HFun H)
  (hst : (rpB p j).view.epoch < (rpB p j).frozen -> (rpB p j).frozen <= o.1.view.epoch \/ ∃ f, (rpB p j).frozen <= f /\ o.1 = { rpB p j with frozen := f })
  (hself : o.1.self = (rpB p j).self) (hfr : (rpB p j).frozen <= o.1.frozen) (h : HR H G fr (rpB p j) o G')
  (hmv : (rpB p j).view.epoch <= o.1.view.epoch /\ ((rpB p j).view.phase ≠ 0 -> o.1.view.phase ≠ 0)) : StI H fr p.reps (putB p j o.1).reps G G' := by
 have hrj := rp_mem hj
 have mem : ∀ r ∈ (putB p j o.1).reps, (r ∈ p.reps /\ r.self ≠ (rpB p j).self) \/ r = o.1 := by
  intro r hr
  obtain ⟨i, hi, e⟩ := List.getElem_of_mem hr
  have hi' : i < p.reps.length := by
   have : i < (p.reps.set j o.1).length := hi
   rwa [List.length_set] at this
  have e : (p.reps.set j o.1)[i]'(by rw [List.length_set]; exact hi') = r := e
  rw [List.getElem_set] at e
  by_cases c1 : j = i
  ·rw [if_pos c1] at e; exact .inr e.symm
  ·rw [if_neg c1] at e
   refine .inl ⟨by rw [<- e]; exact List.getElem_mem _, fun hs => c1 ?_⟩
   have s1 := hp.self i (by rw [<- hp.rl]; exact hi')
   have s2 := hp.self j (by rw [<- hp.rl]; exact hj)
   have e3 : rpB p i = r := by unfold rpB; simpa [List.getD, hi'] using e
   rw [e3, hs] at s1
   omega
 refine ⟨up_put hj (.inl ⟨hself, hfr⟩), h.le, h.ok, fun x e hx => ?_, fun e he => ?_, fun r' hr' f h1 h2 h3 => ?_, fun r hr => ?_, fun r' hr' r hr hs => ?_⟩
 ·by_cases c1 : G'.F x e = G.F x e
  ·exact c1
  ·obtain ⟨a1, a2, _⟩ := h.tf x e c1
   have := hx.2 _ hrj a1.symm
   omega
 ·obtain ⟨a1, a2, a3, t, a4, a5, C, a6, a7, a8⟩ := h.tt e he
  refine ⟨a1, t, a4, ⟨C, a6⟩, fun C' hC' w hw => ?_, ?_⟩
  ·have := hf e C C' a6 hC'
   subst this
   obtain ⟨t1, e1⟩ := isFirst_cons a7
   obtain ⟨t2, e2⟩ := isFirst_cons hw
   rw [e1] at e2
   injection e2 with e2 _
   rw [<- e2]; exact a8
  ·rcases a5 with ⟨b1, b2⟩ | ⟨b1, b2, b3, b4⟩
   ·exact .inl ⟨b1, b2, (hb e C a6).1, (hb e C a6).2⟩
   ·exact .inr ⟨b1, _, hrj, ⟨C, a6, a7⟩, b2, a2, b3, b4⟩
 ·rcases mem r' hr' with ⟨m1, _⟩ | m1
  ·exact ⟨r', m1, rfl, h1, rfl, rfl⟩
  ·subst m1
   have hfz := h3.2 _ hrj hself.symm
   have hlt : (rpB p j).view.epoch < (rpB p j).frozen := by omega
   rcases hst hlt with c1 | ⟨f', c1, c2⟩
   ·omega
   ·refine ⟨_, hrj, hself.symm, ?_, by rw [c2], by rw [c2]⟩
    omega
 ·rcases mem r hr with ⟨m1, m2⟩ | m1
  ·have hri := hg.ri r m1
   have hF : ∀ x, x ≠ (rpB p j).self -> ∀ e, G'.F x e = G.F x e := fun x hx e => by
    by_cases c1 : G'.F x e = G.F x e
    ·exact c1
    ·exact absurd (h.tf x e c1).1 hx
   have hnode : r.self.node ≠ (rpB p j).self.node := fun e => m2 (by rw [node_inj hp m1 hrj e])
   refine ⟨fun e he => hri.f7 e (by rw [<- hF _ m2]; exact he), fun b e hlt => ?_, fun hph => ?_⟩
   ·rw [hF _ (fun x => hnode (by rw [<- x]))]; exact hri.fb b e hlt
   ·have hi := hri.i hph
    exact ⟨by rw [hF _ m2]; exact hi.r1, hi.r2, fun x => h.le.t _ _ (hi.r3 x), hi.r4, hi.r4', fun y hy hle => (hi.r5 y hy hle).ext h.le h.ok, fun x i hil hx => some_mono h.le (hi.r6 x i hil hx), hi.r8, hi.r9⟩
  ·rw [m1]; exact h.ri
 ·rcases mem r' hr' with ⟨m1, m2⟩ | m1
  ·have := node_inj hp hr m1 (by rw [hs])
   subst this
   exact ⟨Int.le_refl _, id⟩
  ·subst m1
   have : r = rpB p j := node_inj hp hr hrj (by rw [hs, hself])
   subst this
   exact hmv
theorem frozenL_is : ∀ (l : List Msg) (m : Member), (frozenL l m).2 = true -> (frozenL l m).1 ∈ l /\ (frozenL l m).1.src = m.node /\ (frozenL l m).1.sboot = m.boot
 | [], m, h => by cases h
 | f :: r, m, h => by
  have e : frozenL (f :: r) m = bif isFz m f then (f, true) else frozenL r m := rfl
  rw [e] at h ⊢
  cases hf : isFz m f with
  | true =>
   unfold isFz at hf
   rw [Bool.and_eq_true] at hf
   exact ⟨List.mem_cons_self .., of_decide_eq_true hf.1, of_decide_eq_true hf.2⟩
  | false =>
   rw [hf] at h
   obtain ⟨h1, h2⟩ := frozenL_is r m h
   exact ⟨List.mem_cons_of_mem _ h1, h2⟩
theorem best_fold (k : Work) (base : Int) (P : Member -> Prop) : ∀ (l : List Member) (acc : Option (Member × Msg)), (∀ x t, acc = some (x, t) -> P x) -> (∀ x ∈ l, ableP k base x = true -> P x) -> ∀ x t, l.foldl (bestStep k base) acc = some (x, t) -> P x
 | [], acc, h, _, x, t, e => h x t e
 | m :: l, acc, h, hl, x, t, e => by
  refine best_fold k base P l (bestStep k base acc m) (fun y u hy => ?_) (fun y hy => hl y (List.mem_cons_of_mem _ hy)) x t e
  unfold bestStep at hy
  cases ha : ableP k base m with
  | false => rw [ha] at hy; exact h y u hy
  | true =>
   rw [ha, cond_true] at hy
   have hm := hl m (List.mem_cons_self ..) ha
   match acc, h, hy with
   | none, _, hy =>
    injection hy with hy
    injection hy with hy _
    rw [<- hy]; exact hm
   | some (z, q), h, hy =>
    dsimp only at hy
    cases hb : isBet q (frozenP k m).1 with
    | true =>
     rw [hb] at hy
     injection hy with hy
     injection hy with hy _
     rw [<- hy]; exact hm
    | false =>
     rw [hb] at hy
     exact h y u hy
theorem best_is {k : Work} {base : Int} (h : (bestP k base).isSome = true) : fstB (bestP k base) ∈ k.keep /\ ableP k base (fstB (bestP k base)) = true := by
 obtain ⟨⟨x, t⟩, hx⟩ := Option.isSome_iff_exists.1 h
 have := best_fold k base (fun m => m ∈ k.keep /\ ableP k base m = true) k.keep none (fun x t e => by cases e) (fun x hx ha => ⟨hx, ha⟩) x t hx
 rw [hx]; exact this
theorem chainL_first (keep : List Member) (c : Int) : ∀ (up : List Member) (a : Member) (r : List Member), ∃ t, chainL keep c up (a :: r) = a :: t
 | [], a, r => ⟨r, rfl⟩
 | m :: up, a, r => by
  unfold chainL
  cases decide (c <= ((a :: r).length : Int)) with
  | true => exact ⟨r, rfl⟩
  | false =>
   rw [cond_false]
   cases hasNode keep m.node with
   | true => exact chainL_first keep c up a r
   | false => exact chainL_first keep c up a (r ++ [m])
theorem lead_first {l : List Member} {m : Member} (h : m ∈ l) : ∃ t, leadP l m = m :: t := by
 unfold leadP
 have : l.any (isM m) = true := List.any_eq_true.2 ⟨m, h, isM_eq.2 rfl⟩
 rw [this]; exact ⟨_, rfl⟩
theorem first_of {m a : Member} {t : List Member} (h : isFirst (a :: t) m = true) : m = a := (of_decide_eq_true h).symm
theorem OB.lt {H : Hist} {R : List Rep} {s : ES} (h : OB H R s) (hp : s.p.phase ≠ 3) : ∀ x ∈ H, x.1 < s.p.epoch := by
 intro x hx
 match hH : H with
 | [] => cases hx
 | (e, C) :: rest =>
  obtain ⟨_, _, a3⟩ := h.hd e C rest rfl
  have a3 := a3 hp
  rcases List.mem_cons.1 hx with e1 | e1
  ·rw [e1]; exact a3
  ·have := (List.pairwise_cons.1 h.fn).1 x e1
   have this : x.1 < e := this
   omega
theorem OB.top {H : Hist} {R : List Rep} {s : ES} (h : OB H R s) : ∀ e C rest, H = (e, C) :: rest -> ∀ x ∈ H, x.1 <= e := by
 intro e C rest hH x hx
 have hf := h.fn
 rw [hH] at hf hx
 rcases List.mem_cons.1 hx with e1 | e1
 ·rw [e1]; exact Int.le_refl _
 ·have := (List.pairwise_cons.1 hf).1 x e1
  have this : x.1 < e := this
  omega
def frS (fr : Int -> Bool) (a : Int) (b : Bool) : Int -> Bool := fun e => if e = a then b else fr e
theorem frS_at (fr : Int -> Bool) (a : Int) (b : Bool) : frS fr a b a = b := by unfold frS; simp
theorem frS_no {fr : Int -> Bool} {a e : Int} {b : Bool} (h : e ≠ a) : frS fr a b e = fr e := by unfold frS; simp [h]
theorem GI.cons {R : List Rep} {H : Hist} {G : Gh} {fr fr' : Int -> Bool} {a : Int} {C : List Member} (h : GI R H G fr) (ha : ∀ x ∈ H, x.1 < a) : GI R ((a, C) :: H) G fr' /\ G.T a = none := by
 have hT : G.T a = none := by
  match hx : G.T a with
  | none => rfl
  | some t =>
   obtain ⟨C', c1⟩ := h.th a t hx
   have := ha _ c1
   have this : a < a := this
   omega
 refine ⟨⟨h.ok, h.ri, fun e t D ht hD w hw => ?_, fun e t ht => ?_, fun e D a' D' t hD hD' hlt ht => ?_⟩, hT⟩
 ·rcases List.mem_cons.1 hD with x | x
  ·injection x with x _
   rw [x, hT] at ht; cases ht
  ·exact h.tf e t D ht x w hw
 ·obtain ⟨D, d⟩ := h.th e t ht
  exact ⟨D, List.mem_cons_of_mem _ d⟩
 ·rcases List.mem_cons.1 hD' with x | x
  ·injection x with x _
   rw [x, hT] at ht; cases ht
  ·rcases List.mem_cons.1 hD with y | y
   ·injection y with y _
    have := ha _ x
    have this : a' < a := this
    omega
   ·exact h.c e D a' D' t y x hlt ht
theorem WyI.cons {R : List Rep} {H : Hist} {G : Gh} {fr : Int -> Bool} {a : Int} {b : Bool} {C : List Member} {m : Msg} (h : WyI R H G fr m) (hg : GI R H G fr) (ha : ∀ x ∈ H, x.1 < a) : WyI R ((a, C) :: H) G (frS fr a b) m := by
 have hT := (hg.cons (fr' := fr) (C := C) ha).2
 have hF : ∀ y, G.F y a = none := fun y => by
  match hx : G.F y a with
  | none => rfl
  | some u =>
   obtain ⟨t, t1, _⟩ := hg.ok y a u hx
   rw [hT] at t1; cases t1
 refine ⟨⟨fun k => ?_, h.q.k11, h.q.k12, h.q.k13, fun k D hD y hy hle => ?_, fun k => List.mem_cons_of_mem _ (h.q.kH k), fun k => (by obtain ⟨D, d⟩ := h.q.kh k; exact ⟨D, List.mem_cons_of_mem _ d⟩)⟩, h.k9, fun k v hv hp D hD hf y hy => ?_, fun k v hv hp => (by obtain ⟨D, d⟩ := h.k7h k v hv hp; exact ⟨D, List.mem_cons_of_mem _ d⟩)⟩
 ·have := ha _ (h.q.kH (.inl k))
  have this : m.epoch < a := this
  rw [frS_no (by omega)]; exact h.q.k10 k
 ·rcases List.mem_cons.1 hD with x | x
  ·obtain ⟨C', c'⟩ := h.q.kh k
   have := ha _ c'
   injection x with x _
   have this : m.epoch < a := this
   omega
  ·exact h.q.k14 k D x y hy hle
 ·rcases List.mem_cons.1 hD with x | x
  ·obtain ⟨C', c'⟩ := h.k7h k v hv hp
   have := ha _ c'
   injection x with x _
   have this : v.epoch < a := this
   omega
  ·exact h.k7 k v hv hp D x hf y hy
structure BA (R : List Rep) (H : Hist) (G : Gh) (fr : Int -> Bool) (s : ES) : Prop where
 o : OB H R s
 g : GI R H G fr
 b : BuI R H G fr s
 h0 : ∀ x ∈ H, 0 <= x.1
 or : ∀ r ∈ R, OR H r
 u : ∀ x ∈ R, ∀ r ∈ R, x.self = r.self -> x = r
def BO (R : List Rep) (H : Hist) (G : Gh) (fr : Int -> Bool) (x : ES × List Msg) : Prop :=
 ∃ H' fr', (∀ y ∈ H, y ∈ H') /\ BA R H' G fr' x.1 /\ (∀ m ∈ x.2, OW H' R m /\ WyI R H' G fr' m) /\ ∀ m, WyI R H G fr m -> WyI R H' G fr' m
theorem BO.same {R : List Rep} {H : Hist} {G : Gh} {fr : Int -> Bool} {s : ES} {l : List Msg} (h : BA R H G fr s) (hl : ∀ m ∈ l, OW H R m /\ WyI R H G fr m) : BO R H G fr (s, l) := ⟨H, fr, fun _ h => h, h, hl, fun _ h => h⟩
theorem WyI.no {R : List Rep} {H : Hist} {G : Gh} {fr : Int -> Bool} {m : Msg} (h : m.kind = 19 \/ m.kind = 20 \/ m.kind = 21 \/ m.kind = 22 \/ m.kind = 8) : WyI R H G fr m := by
 have h9 : m.kind ≠ 9 := by omega
 have h7 : m.kind ≠ 7 := by omega
 have h10 : m.kind ≠ 10 := by omega
 have h11 : m.kind ≠ 11 := by omega
 have h12 : m.kind ≠ 12 := by omega
 have h13 : m.kind ≠ 13 := by omega
 have h14 : m.kind ≠ 14 := by omega
 exact ⟨⟨fun k => absurd k h10, fun k => absurd k h11, fun k => absurd k h12, fun k => absurd k h13, fun k => absurd k h14, fun k => by omega, fun k => absurd k h14⟩, fun k => absurd k h9, fun k => absurd k h7, fun k => absurd k h7⟩
theorem WyI.act {R : List Rep} {H : Hist} {G : Gh} {fr : Int -> Bool} {p : Plan} (hH : (p.epoch, p.chain) ∈ H) (hf : fr p.epoch = p.fresh) : WyI R H G fr (actMg p) :=
 ⟨⟨fun _ => hf, (fun k => by cases k), (fun k => by cases k), (fun k => by cases k), (fun k => by cases k), fun _ => hH, (fun k => by cases k)⟩, (fun k => by cases k), (fun k => by cases k), (fun k => by cases k)⟩
structure BestI (R : List Rep) (H : Hist) (G : Gh) (s : ES) (w : Member) : Prop where
 f : FzOk R w s.p.epoch
 t : ∃ i t C, (i, C) ∈ H /\ s.p.base <= i /\ G.T i = some t
 r : ∀ r ∈ R, r.self = w -> r.frozen = s.p.epoch -> r.view.epoch < s.p.epoch -> r.view.phase ≠ 0 /\ s.p.base <= r.view.epoch
theorem best_i {R : List Rep} {H : Hist} {G : Gh} {fr : Int -> Bool} {s : ES} (h : BA R H G fr s) {w : Member} (ha : ableP (wkE s) s.p.base w = true) : BestI R H G s w := by
 unfold ableP at ha
 obtain ⟨a1, a2⟩ := and_true' ha
 obtain ⟨a3, a4⟩ := and_true' a2
 obtain ⟨b1, b2, b3⟩ := frozenL_is s.fz.l w a1
 obtain ⟨c1, c2, c3⟩ := h.b.fz _ b1
 have hf := h.o.frozen a1
 have ha4 : ¬ (frozenL s.fz.l w).1.a < s.p.base := by
  have a4 : (!decide ((frozenL s.fz.l w).1.a < s.p.base)) = true := a4
  intro e
  rw [decide_eq_true e] at a4
  cases a4
 have hb := c3 a3
 rw [b2, b3] at hb
 refine ⟨hf, ?_, fun r hr hs hfz hv => ?_⟩
 ·obtain ⟨u, hu⟩ := Option.isSome_iff_exists.1 hb
  obtain ⟨t, t1, _⟩ := h.g.ok _ _ _ hu
  obtain ⟨C, c⟩ := h.g.th _ _ t1
  exact ⟨_, t, C, c, by omega, t1⟩
 ·have := c2 r hr (by rw [b2, b3]; exact hs) (by rw [c1]; exact hfz) (by rw [c1]; exact hv)
  obtain ⟨d1, d2, _⟩ := this
  refine ⟨?_, by omega⟩
  have a3 : (frozenL s.fz.l w).1.has = true := a3
  rw [a3] at d2
  intro e
  rw [e] at d2
  cases d2
theorem pre_i {R : List Rep} {H : Hist} {G : Gh} {fr : Int -> Bool} {s : ES} (h : BA R H G fr s) (hp : s.p.phase ≠ 3) {r : Rep} (hr : r ∈ R) (hv : r.self ∈ s.p.valid) (hfz : r.frozen = s.p.epoch) (hlt : r.view.epoch < s.p.epoch) (hph : r.view.phase ≠ 0) (hb : s.p.base <= r.view.epoch) :
  (∀ e C, (e, C) ∈ H -> CP R G r.tail.last e C) /\ s.p.base <= (ep r.tail.last : Int) := by
 have hf := hfun h.o.fn
 have hri := h.g.ri r hr
 have hi := hri.i hph
 have hin := h.or r hr hph
 obtain ⟨t, t1, t2⟩ := h.g.ok _ _ _ hi.r1
 have hbe := h.b.b _ _ t hin hb t1
 have hel := ep_le t2
 refine ⟨fun e C hC => ?_, by omega⟩
 have hle := h.o.lt hp _ hC
 have hle : e < s.p.epoch := hle
 by_cases c0 : e < s.p.base
 ·exact .inl fun v hv => vle_iff.2 (.inl (by omega))
 ·by_cases c1 : r.view.epoch = e
  ·right
   rw [c1] at hin
   have := hf e _ _ hin hC
   subst this
   refine ⟨r.self, hi.r2, ⟨h.o.chK _ (h.o.va _ hv), fun x hx hs => ?_⟩, fun u hu => ?_⟩
   ·have := h.u x hx r hr hs
    subst this; omega
   ·have h1 := hi.r1
    rw [c1, hu] at h1
    injection h1 with h1
    rw [h1]; exact .refl _
  ·by_cases c2 : e < r.view.epoch
   ·rcases h.g.c e C _ _ t hC hin c2 t1 with d | ⟨w, w1, w2, w3⟩
    ·exact .inl fun v hv => (d v hv).trans t2
    ·exact .inr ⟨w, w1, w2, fun u hu => (w3 u hu).trans t2⟩
   ·right
    have hwC := h.b.w r.self hv r hr rfl e C hC (by omega) (by omega)
    refine ⟨r.self, hwC, ⟨h.o.chK _ (h.o.va _ hv), fun x hx hs => ?_⟩, fun u hu => ?_⟩
    ·have := h.u x hx r hr hs
     subst this; omega
    ·have := (hri.f7 e (by rw [hu]; rfl)).2
     omega
theorem endS_o {H : Hist} {R : List Rep} {s : ES} (h : OB H R s) (he : EOk s) (hm : mayE s = true) : OB (((endP s).2.epoch, (endP s).2.chain) :: H) R (endS s) := by
 have ho := endP_o h
 have hph := may_phase hm
 obtain ⟨hc, _⟩ := endP_chain he hm
 have hlt : ∀ x ∈ H, x.1 < s.p.epoch := by
  intro x hx
  match hH : H with
  | [] => cases hx
  | (e, C) :: rest =>
   obtain ⟨_, _, a3⟩ := h.hd e C rest rfl
   have a3 := a3 (by rw [hph]; decide)
   rcases List.mem_cons.1 hx with e1 | e1
   ·rw [e1]; exact a3
   ·have := (List.pairwise_cons.1 h.fn).1 x e1
    have this : x.1 < e := this
    omega
 refine ⟨List.pairwise_cons.2 ⟨fun x hx => by show x.1 < (endP s).2.epoch; rw [ho.ep]; exact hlt x hx, h.fn⟩, fun x hx => ?_, (fun e => by cases e), fun e C rest e1 => ?_, fun _ => ⟨H, rfl⟩, fun x hx m hm => ?_, fun x hx => ?_, ho.va, (fun m hm => by cases hm), fun _ => rfl, (fun f hf => by cases hf), h.nd⟩
 ·rcases List.mem_cons.1 hx with e | e
  ·rw [e]; exact hc
  ·exact h.hn x e
 ·injection e1 with e1 e2
  injection e1 with e1 e3
  refine ⟨e3.symm, by show e <= (endP s).2.epoch; omega, fun hne => absurd ho.ph hne⟩
 ·rcases List.mem_cons.1 hx with e | e
  ·rw [e] at hm; exact ho.kn m hm
  ·exact h.hk x e m hm
 ·have hx : x ∈ H := hx
  match hH : H with
  | [] => cases hx
  | (e, C) :: rest =>
   obtain ⟨a1, _, a3⟩ := h.hd e C rest rfl
   have a3 := a3 (by rw [hph]; decide)
   rcases List.mem_cons.1 hx with e1 | e1
   ·subst e1
    have hne : s.p.chain ≠ [] := by
     have := h.hn (e, C) (List.mem_cons_self ..)
     rw [<- a1]; exact this
    obtain ⟨_, m, m1, m2⟩ := may_old h hm hne
    exact ⟨m, by show m ∈ C; rw [a1]; exact m1, m2.le (by show e + 1 <= _; omega)⟩
   ·exact h.old x e1
theorem end_cases (s : ES) : (((bestP (wkE s) s.p.base).isSome = true /\ (endP s).2.base = s.p.base /\ (endP s).2.fresh = false /\ (endP s).2.valid = s.keep /\ (endP s).2.chain = chainP (leadP s.keep (fstB (bestP (wkE s) s.p.base))) (upP s.ns s.c.susp) s.c.chain) \/
  ((endP s).2.base = s.p.epoch /\ (endP s).2.fresh = true /\ (endP s).2.valid = (endP s).2.chain.take 1)) := by
 unfold endP
 cases hc : (bestP (wkE s) s.p.base).isSome && !s.p.fresh with
 | true =>
  obtain ⟨a1, a2⟩ := and_true' hc
  refine .inl ⟨a1, rfl, ?_, rfl, rfl⟩
  show s.p.fresh = false
  cases hf : s.p.fresh with
  | false => rfl
  | true => rw [hf] at a2; cases a2
 | false =>
  rw [cond_false]
  cases s.p.fresh && decide (0 < s.p.chain.length) with
  | true => exact .inr ⟨rfl, rfl, rfl⟩
  | false => exact .inr ⟨rfl, rfl, rfl⟩
theorem endS_b {R : List Rep} {H : Hist} {G : Gh} {fr : Int -> Bool} {s : ES} (h : BA R H G fr s) (he : EOk s) (h0 : 0 <= s.p.epoch) (hm : mayE s = true) :
  BuI R (((endP s).2.epoch, (endP s).2.chain) :: H) G (frS fr (endP s).2.epoch (endP s).2.fresh) (endS s) := by
 have hph : s.p.phase ≠ 3 := by
  have := may_phase hm
  omega
 have hlt := h.o.lt hph
 have hep : (endP s).2.epoch = s.p.epoch := (endP_o h.o).ep
 have hlt' : ∀ x ∈ H, x.1 < (endP s).2.epoch := by rw [hep]; exact hlt
 obtain ⟨_, hT⟩ := h.g.cons (fr' := frS fr (endP s).2.epoch (endP s).2.fresh) (C := (endP s).2.chain) hlt'
 have hold : ∀ a0 C0, (a0, C0) ∈ H -> frS fr (endP s).2.epoch (endP s).2.fresh a0 = false -> fr a0 = false := fun a0 C0 hx hy => by
  have := hlt' _ hx
  have this : a0 < (endP s).2.epoch := this
  rw [frS_no (by omega)] at hy; exact hy
 have hin : ∀ a0 e Ce, a0 <= (endP s).2.epoch -> (e, Ce) ∈ ((endP s).2.epoch, (endP s).2.chain) :: H -> e < a0 -> (e, Ce) ∈ H := fun a0 e Ce ha hx hy => by
  rcases List.mem_cons.1 hx with x | x
  ·injection x with x _
   omega
  ·exact x
 rcases end_cases s with ⟨f1, f2, f3, f4, f5⟩ | ⟨f2, f3, f4⟩
 ·obtain ⟨k1, k2⟩ := best_is f1
  have hB := best_i h k2
  obtain ⟨i, t, C, i1, i2, i3⟩ := hB.t
  have hwv : fstB (bestP (wkE s) s.p.base) ∈ s.p.valid := h.o.ke _ k1
  have hfst : ∀ w, isFirst (endP s).2.chain w = true -> w = fstB (bestP (wkE s) s.p.base) := by
   intro w hw
   obtain ⟨t1, e1⟩ := lead_first (l := s.keep) k1
   rw [f5] at hw
   unfold chainP at hw
   rw [e1] at hw
   obtain ⟨t2, e2⟩ := chainL_first (fstB (bestP (wkE s) s.p.base) :: t1) s.c.chain (upP s.ns s.c.susp) (fstB (bestP (wkE s) s.p.base)) t1
   rw [e2] at hw
   exact first_of hw
  refine ⟨(fun f hf => by cases hf), fun _ => frS_at .., ?_, fun e C rest hx => ?_, (fun e => by cases e), fun m hm r hr hs => ?_, fun m hm r hr hs e C hC hb hv => ?_, fun e C t hC hb ht => ?_, fun a0 C0 hC hfr r hr hfi hfz hv hp => ?_, fun a0 C0 hC hfr w hw => ?_⟩
  ·show 0 <= (endP s).2.base
   rw [f2]; exact h.b.b0
  ·injection hx with hx _
   injection hx with hx _
   show (endP s).2.base <= e
   have := hlt' _ i1
   have this : i < (endP s).2.epoch := this
   rw [f2]; omega
  ·have hm : m ∈ (endP s).2.valid := hm
   rw [f4] at hm
   show _ \/ (G.T (endP s).2.base = none /\ _)
   rw [f2]
   rcases h.b.v m (h.o.ke m hm) r hr hs with x | ⟨x1, C', rest, x2, _⟩
   ·left; show _ /\ (endP s).2.base <= _; rw [f2]; exact x
   ·exfalso
    have := h.o.top _ _ _ x2 _ i1
    have this : i <= s.p.base := this
    have : i = s.p.base := by omega
    rw [this, x1] at i3
    cases i3
  ·have hm : m ∈ (endP s).2.valid := hm
   rw [f4] at hm
   have hb : (endP s).2.base <= e := hb
   rw [f2] at hb
   rcases List.mem_cons.1 hC with x | x
   ·injection x with _ x
    rw [x, f5]
    exact mem_chainL _ _ _ _ m (mem_lead hm)
   ·exact h.b.w m (h.o.ke m hm) r hr hs e C x hb hv
  ·have hb : (endP s).2.base <= e := hb
   show (endP s).2.base <= _
   rw [f2] at hb ⊢
   rcases List.mem_cons.1 hC with x | x
   ·injection x with x _
    rw [x, hT] at ht; cases ht
   ·exact h.b.b e C t x hb ht
  ·show (∀ e Ce, (e, Ce) ∈ _ -> e < a0 -> CP R G r.tail.last e Ce) /\ ((endP s).2.base <= a0 -> (endP s).2.base <= _)
   rw [f2]
   rcases List.mem_cons.1 hC with x | x
   ·injection x with x y
    rw [y] at hfi
    have hw := hfst _ hfi
    rw [x, hep] at hfz hv
    obtain ⟨_, q2⟩ := hB.r r hr hw hfz hv
    obtain ⟨p1, p2⟩ := pre_i h hph hr (by rw [hw]; exact hwv) hfz hv hp q2
    exact ⟨fun e Ce hx hlt0 => p1 e Ce (hin a0 e Ce (by omega) hx hlt0), fun _ => p2⟩
   ·have hl := hlt' _ x
    have hl : a0 < (endP s).2.epoch := hl
    obtain ⟨p1, p2⟩ := h.b.a a0 C0 x (hold a0 C0 x hfr) r hr hfi hfz hv hp
    exact ⟨fun e Ce hx hlt0 => p1 e Ce (hin a0 e Ce (by omega) hx hlt0) hlt0, p2⟩
  ·rcases List.mem_cons.1 hC with x | x
   ·injection x with x y
    rw [y] at hw
    rw [hfst w hw, x, hep]
    exact hB.f
   ·exact h.b.fw a0 C0 x (hold a0 C0 x hfr) w hw
 ·refine ⟨(fun f hf => by cases hf), fun _ => frS_at .., ?_, fun e C rest hx => ?_, (fun e => by cases e), fun m hm r hr hs => ?_, fun m hm r hr hs e C hC hb hv => ?_, fun e C t hC hb ht => ?_, fun a0 C0 hC hfr r hr hfi hfz hv hp => ?_, fun a0 C0 hC hfr w hw => ?_⟩
  ·show 0 <= (endP s).2.base
   rw [f2]; exact h0
  ·injection hx with hx _
   injection hx with hx _
   show (endP s).2.base <= e
   rw [f2]; omega
  ·have hm : m ∈ (endP s).2.valid := hm
   rw [f4] at hm
   right
   show G.T (endP s).2.base = none /\ ∃ C rest, _ = ((endP s).2.base, C) :: rest /\ _
   rw [f2, <- hep]
   refine ⟨hT, _, _, rfl, ?_⟩
   cases hc : (endP s).2.chain with
   | nil => rw [hc] at hm; cases hm
   | cons x l =>
    rw [hc] at hm
    have : m = x := by simpa using hm
    subst this
    exact decide_eq_true rfl
  ·have hm : m ∈ (endP s).2.valid := hm
   rw [f4] at hm
   have hb : (endP s).2.base <= e := hb
   rw [f2] at hb
   rcases List.mem_cons.1 hC with x | x
   ·injection x with _ x
    rw [x]; exact List.mem_of_mem_take hm
   ·have := hlt _ x
    have this : e < s.p.epoch := this
    omega
  ·have hb : (endP s).2.base <= e := hb
   rw [f2] at hb
   rcases List.mem_cons.1 hC with x | x
   ·injection x with x _
    rw [x, hT] at ht; cases ht
   ·have := hlt _ x
    have this : e < s.p.epoch := this
    omega
  ·rcases List.mem_cons.1 hC with x | x
   ·injection x with x _
    rw [x, frS_at, f3] at hfr; cases hfr
   ·have hl := hlt' _ x
    have hl : a0 < (endP s).2.epoch := hl
    obtain ⟨p1, _⟩ := h.b.a a0 C0 x (hold a0 C0 x hfr) r hr hfi hfz hv hp
    refine ⟨fun e Ce hx hlt0 => p1 e Ce (hin a0 e Ce (by omega) hx hlt0) hlt0, fun hb => ?_⟩
    have hb : (endP s).2.base <= a0 := hb
    rw [f2] at hb
    omega
  ·rcases List.mem_cons.1 hC with x | x
   ·injection x with x _
    rw [x, frS_at, f3] at hfr; cases hfr
   ·exact h.b.fw a0 C0 x (hold a0 C0 x hfr) w hw
theorem endQ_i {R : List Rep} {H : Hist} {G : Gh} {fr : Int -> Bool} {s : ES} (h : BA R H G fr s) (he : EOk s) (h0 : 0 <= s.p.epoch) : BO R H G fr (endQ s) := by
 unfold endQ
 cases hm : mayE s with
 | false => exact .same h fun m hm => by cases hm
 | true =>
  have hph : s.p.phase ≠ 3 := by
   have := may_phase hm
   omega
  have hep : (endP s).2.epoch = s.p.epoch := (endP_o h.o).ep
  have hlt' : ∀ x ∈ H, x.1 < (endP s).2.epoch := by rw [hep]; exact h.o.lt hph
  refine ⟨((endP s).2.epoch, (endP s).2.chain) :: H, frS fr (endP s).2.epoch (endP s).2.fresh, fun y hy => List.mem_cons_of_mem _ hy, ⟨endS_o h.o he hm, (h.g.cons hlt').1, endS_b h he h0 hm, fun x hx => ?_, fun r hr => (h.or r hr).ext fun y hy => List.mem_cons_of_mem _ hy, h.u⟩, fun m hx => ?_, fun m hx => hx.cons h.g hlt'⟩
  ·rcases List.mem_cons.1 hx with e | e
   ·rw [e]; show 0 <= (endP s).2.epoch; rw [hep]; exact h0
   ·exact h.h0 x e
  ·rcases List.mem_cons.1 hx with e | e
   ·subst e
    exact ⟨act_o (List.mem_cons_self ..), .act (List.mem_cons_self ..) (frS_at ..)⟩
   ·obtain ⟨a, _, e⟩ := List.mem_map.1 e
    subst e
    exact ⟨.no (by show (22 : Int) ≠ 9; decide) (by show (22 : Int) ≠ 7; decide) (by show (22 : Int) ≠ 10; decide) (by show (22 : Int) ≠ 11; decide), .no (.inr (.inr (.inr (.inl rfl))))⟩
theorem begin_b {R : List Rep} {H : Hist} {G : Gh} {fr : Int -> Bool} {s : ES} {f : Bool} {N : Nat} (h : BA R H G fr s) (hs : SI N s) (hN : N <= 1000) : BA R H G fr (beginS s f) := by
 have ho := begin_o (fr := f) h.o hs hN
 refine ⟨ho, h.g, ?_, h.h0, h.or, h.u⟩
 have he := hs.ep
 have hb := h.b
 unfold beginS
 rw [decide_eq_false (by omega), cond_false]
 exact { hb with fz := (fun f hf => by cases hf), f3 := (fun e => by cases e) }
theorem h20_i {R : List Rep} {H : Hist} {G : Gh} {fr : Int -> Bool} {s : ES} {m : Msg} {N : Nat} (h : BA R H G fr s) (hs : SI N s) (hN : N <= 990) : BO R H G fr (h20P s m) := by
 unfold h20P
 cases decide (s.p.phase = 1) && decide (s.p.epoch = m.epoch) with
 | false => exact .same h fun m hm => by cases hm
 | true =>
  have hb := h.b
  have h1 : BA R H G fr { s with fe := true } := ⟨h.o.fe true, h.g, { hb with }, h.h0, h.or, h.u⟩
  exact endQ_i h1 ((hs.eok (by omega)).fe true) hs.ep0
theorem h9_i {R : List Rep} {H : Hist} {G : Gh} {fr : Int -> Bool} {s : ES} {m : Msg} {N : Nat} (h : BA R H G fr s) (hs : SI N s) (hN : N <= 990) (hm : MsgIs N N m) (hk : m.kind = 9) (hw : OW H R m) (hi : WyI R H G fr m) : BO R H G fr (h9P s m) := by
 unfold h9P
 cases hc : decide (s.p.phase = 1) && decide (s.p.epoch = m.epoch) with
 | false => exact .same h fun m hm => by cases hm
 | true =>
  have hep : s.p.epoch = m.epoch := by
   rw [Bool.and_eq_true] at hc
   exact of_decide_eq_true hc.2
  have hl : (lnApp s.fz m).l = s.fz.l ++ [m] := by cases s.fz <;> rfl
  have h1 : BA R H G fr (frzS s m) := by
   unfold frzS
   cases (frozenP (wkE s) ⟨m.src, m.sboot⟩).2 with
   | true => exact h
   | false =>
    rw [cond_false, kM9 hk hm.shard]
    have hfz : ∀ f ∈ (lnApp s.fz m).l, FzOk R ⟨f.src, f.sboot⟩ s.p.epoch := by
     intro f hf
     rw [hl] at hf
     rcases List.mem_append.1 hf with e | e
     ·exact h.o.fz f e
     ·have : f = m := by simpa using e
      subst this
      rw [hep]; exact hw.1 hk
    have hfz2 : ∀ f ∈ (lnApp s.fz m).l, f.epoch = s.p.epoch /\ K9 R f /\ K9b G f := by
     intro f hf
     rw [hl] at hf
     rcases List.mem_append.1 hf with e | e
     ·exact h.b.fz f e
     ·have : f = m := by simpa using e
      subst this
      exact ⟨hep.symm, hi.k9 hk⟩
    have ho := h.o
    have hb := h.b
    exact ⟨{ ho with fz := hfz }, h.g, { hb with fz := hfz2 }, h.h0, h.or, h.u⟩
  have h2 : EOk (frzS s m) /\ (frzS s m).p = s.p := by
   have e0 := hs.eok (show N <= 1000 by omega)
   unfold frzS
   cases (frozenP (wkE s) ⟨m.src, m.sboot⟩).2 with
   | true => exact ⟨e0, rfl⟩
   | false =>
    rw [cond_false, kM9 hk hm.shard]
    have hf := hs.fl
    refine ⟨e0.fz' (by rw [hl, List.length_append]; simp; omega) fun f hf => ?_, rfl⟩
    rw [hl] at hf
    rcases List.mem_append.1 hf with e | e
    ·exact e0.ver f e
    ·have : f = m := by simpa using e
     subst this; exact hm.ver.num (by omega)
  exact endQ_i h1 h2.1 (by rw [h2.2]; exact hs.ep0)
theorem h21_i {R : List Rep} {H : Hist} {G : Gh} {fr : Int -> Bool} {s : ES} {m : Msg} {N : Nat} (h : BA R H G fr s) (hs : SI N s) (hsrc : m.src = 100) (hN : N <= 990) : BO R H G fr (h21P s m) := by
 have ho := h.o
 have hb := h.b
 have hA : BA R H G fr (askS s m) := by
  unfold askS
  cases s.l.any (isAsk m) with
  | true => exact h
  | false => exact ⟨{ ho with }, h.g, { hb with }, h.h0, h.or, h.u⟩
 have hAs : SI (N + 1) (askS s m) := by
  have h1 := hs.mono (show N <= N + 1 by omega)
  have hl := hs.ll
  unfold askS
  cases s.l.any (isAsk m) with
  | true => exact h1
  | false =>
   have hll : ∀ a ∈ s.l ++ [askOf m], a.1 = 100 := by
    intro a hx
    rcases List.mem_append.1 hx with e | e
    ·exact hs.l a e
    ·have : a = askOf m := by simpa using e
     subst this; exact hsrc
   exact { h1 with ll := (by show (s.l ++ [askOf m]).length <= _; rw [List.length_append]; simp; omega), l := hll }
 unfold h21P
 cases isNo s m with
 | true =>
  refine .same h fun x hx => ?_
  have : x = wasMg (askOf m) := by simpa using hx
  subst this
  exact ⟨.no (by show (22 : Int) ≠ 9; decide) (by show (22 : Int) ≠ 7; decide) (by show (22 : Int) ≠ 10; decide) (by show (22 : Int) ≠ 11; decide), .no (.inr (.inr (.inr (.inl rfl))))⟩
 | false =>
  rw [cond_false]
  cases decide (s.p.reset < m.num) with
  | false => exact .same hA fun m hm => by cases hm
  | true =>
   rw [cond_true]
   have hbs : SI (N + 1) { askS s m with p := rsP1 (askS s m).p m } := { hAs with }
   have hao := hA.o
   have hab := hA.b
   have hbo : BA R H G fr { askS s m with p := rsP1 (askS s m).p m } := ⟨{ hao with }, h.g, { hab with }, h.h0, h.or, h.u⟩
   have h3 : BA R H G fr (afS (askS s m) m) /\ 0 <= (afS (askS s m) m).p.epoch := by
    unfold afS
    cases decide ((askS s m).p.phase = 1) && (askS s m).p.fresh with
    | true => exact ⟨hbo, hbs.ep0⟩
    | false => exact ⟨begin_b hbo hbs (by omega), (beginB_is hbs (by omega)).ep0⟩
   exact endQ_i h3.1 ((hAs.eok (by omega)).af m) h3.2
theorem h7_i {R : List Rep} {H : Hist} {G : Gh} {fr : Int -> Bool} {s : ES} {m : Msg} (h : BA R H G fr s) (hkn : Kn R ⟨m.src, m.sboot⟩) (hk : m.kind = 7) (hi : WyI R H G fr m) (hv : ∀ v, vfOf m = .one v -> v ∈ m.views) : BA R H G fr (h7P s m (vfOf m)) := by
 have ho' := h7_o (x := vfOf m) h.o hkn
 refine ⟨ho', h.g, ?_, h.h0, h.or, h.u⟩
 have hb := h.b
 clear ho'
 unfold h7P
 cases stale s.ns m with
 | true => exact hb
 | false =>
  rw [cond_false]
  have hp : (vwP (vfOf m) s m).1 = s.p \/ ((vwP (vfOf m) s m).1 = { s.p with valid := s.p.chain } /\ s.p.phase = 3 /\ ∀ y ∈ s.p.chain, (G.F y s.p.epoch).isSome = true) := by
   cases hx : vfOf m with
   | nil => exact .inl rfl
   | emp => exact .inl rfl
   | one v =>
    have e : vwP (.one v) s m = bif serves s m v then (bif decide (v.phase = 3) then { s.p with valid := s.p.chain } else s.p, true) else (s.p, s.he) := rfl
    rw [e]
    cases hs : serves s m v with
    | false => exact .inl rfl
    | true =>
     cases hv3 : decide (v.phase = 3) with
     | false => exact .inl rfl
     | true =>
      right
      unfold serves at hs
      obtain ⟨s1, s2⟩ := and_true' hs
      obtain ⟨s3, s4⟩ := and_true' s2
      obtain ⟨s5, s6⟩ := and_true' s4
      obtain ⟨s7, s8⟩ := and_true' s6
      have s1 := of_decide_eq_true s1
      have s3 := of_decide_eq_true s3
      have s5 := of_decide_eq_true s5
      obtain ⟨rest, hr⟩ := h.o.h3 s1
      refine ⟨rfl, s1, fun y hy => ?_⟩
      have := hi.k7 hk v (hv v hx) (of_decide_eq_true hv3) s.p.chain (by rw [<- s3, hr]; exact List.mem_cons_self ..) ?_ y hy
      ·rw [<- s3] at this; exact this
      ·cases hc : s.p.chain with
       | nil => rw [hc] at s5; simp at s5
       | cons a t =>
        rw [hc] at s7 s8
        have s7 : a.node = m.src := of_decide_eq_true s7
        have s8 : a.boot = m.sboot := of_decide_eq_true s8
        refine decide_eq_true ?_
        obtain ⟨n, b⟩ := a
        simp only at s7 s8
        rw [s7, s8]
  rcases hp with e | ⟨e, e3, hall⟩
  ·have : ({ s with p := (vwP (vfOf m) s m).1, he := (vwP (vfOf m) s m).2, ns := putNs s.ns m } : ES) = { s with he := (vwP (vfOf m) s m).2, ns := putNs s.ns m } := by rw [e]
   rw [this]
   exact { hb with }
  ·have : ({ s with p := (vwP (vfOf m) s m).1, he := (vwP (vfOf m) s m).2, ns := putNs s.ns m } : ES) = { s with p := { s.p with valid := s.p.chain }, he := (vwP (vfOf m) s m).2, ns := putNs s.ns m } := by rw [e]
   rw [this]
   obtain ⟨rest, hr⟩ := h.o.h3 e3
   have hbase := hb.bh _ _ _ hr
   have hvv : ∀ m ∈ s.p.chain, ∀ r ∈ R, r.self = m -> r.view.phase ≠ 0 /\ s.p.epoch <= r.view.epoch := fun m hm r hr hs => (h.g.ri r hr).f7 _ (by rw [hs]; exact hall m hm)
   have hV : ∀ m ∈ s.p.chain, ∀ r ∈ R, r.self = m -> (r.view.phase ≠ 0 /\ s.p.base <= r.view.epoch) \/ (G.T s.p.base = none /\ ∃ C rest, H = (s.p.base, C) :: rest /\ isFirst C m = true) := fun m hm r hr hs => by
    obtain ⟨a, b⟩ := hvv m hm r hr hs
    exact .inl ⟨a, by omega⟩
   have hW : ∀ m ∈ s.p.chain, ∀ r ∈ R, r.self = m -> ∀ e C, (e, C) ∈ H -> s.p.base <= e -> r.view.epoch < e -> m ∈ C := fun m hm r hr hs e C hC _ hlt => by
    obtain ⟨_, b⟩ := hvv m hm r hr hs
    have := h.o.top _ _ _ ‹_› _ hC
    have this : e <= s.p.epoch := this
    omega
   exact { hb with v := hV, w := hW }
theorem tick_i {R : List Rep} {H : Hist} {G : Gh} {fr : Int -> Bool} {s : ES} {N : Nat} (h : BA R H G fr s) (hs : SI N s) (hN : N <= 990) : BO R H G fr (tickQ s) := by
 have h0s : SI (N + 1) (blkS s) := by
  have h1 := hs.mono (show N <= N + 1 by omega)
  have hkn : s.ns.map incA = [] -> s.keep = [] := fun e => hs.kn (by simpa using e)
  exact { h1 with ns := hs.ns.inc (by omega), kn := hkn }
 have hnd : ∀ a ∈ s.ns.map incA, Kn R a.member := fun a ha => by
  obtain ⟨x, hx, e⟩ := List.mem_map.1 ha
  subst e; exact h.o.nd x hx
 have ho := h.o
 have hb := h.b
 have h0 : BA R H G fr (blkS s) := ⟨{ ho with nd := hnd }, h.g, { hb with }, h.h0, h.or, h.u⟩
 have h2 : BA R H G fr (lookP (blkS s)) := by
  rcases look_begin (blkS s) with e | ⟨f, e⟩
  ·rw [e]; exact h0
  ·rw [e]; exact begin_b h0 h0s (by omega)
 obtain ⟨h2s, _⟩ := look_is h0s (by omega)
 unfold tickQ againQ
 cases hm : mayE (lookP (blkS s)) with
 | true =>
  have := endQ_i h2 (h2s.eok (by omega)) h2s.ep0
  unfold endQ at this
  rw [hm] at this
  exact this
 | false =>
  refine .same h2 fun m hx => ⟨agMs_o h2.o m hx, ?_⟩
  have hx : m ∈ agMs (lookP (blkS s)) := hx
  generalize lookP (blkS s) = q at hx h2
  have hfr : ∀ l : List Member, m ∈ l.filterMap (agF q) -> WyI R H G fr m := by
   intro l hm
   obtain ⟨a, ha, e⟩ := List.mem_filterMap.1 hm
   unfold agF at e
   cases hb : (frozenP (wkE q) a).2 with
   | true => rw [hb] at e; simp at e
   | false =>
    rw [hb] at e
    have : frzMg a q.p.epoch = m := by simpa using e
    rw [<- this]; exact .no (.inr (.inr (.inr (.inr rfl))))
  unfold agMs at hx
  cases hp : decide (q.p.phase = 1) with
  | true =>
   rw [hp, cond_true] at hx
   cases hfe : q.fe with
   | true => rw [hfe] at hx; exact hfr _ (by simpa using hx)
   | false =>
    rw [hfe] at hx
    rcases List.mem_append.1 hx with e | e
    ·have : m = fenMg q.p.epoch := by simpa using e
     subst this; exact .no (.inl rfl)
    ·exact hfr _ e
  | false =>
   rw [hp, cond_false] at hx
   cases hp3 : decide (q.p.phase = 3) && !q.he with
   | false => rw [hp3] at hx; cases hx
   | true =>
    rw [hp3, cond_true] at hx
    rw [Bool.and_eq_true] at hp3
    have h3 := of_decide_eq_true hp3.1
    obtain ⟨rest, hr⟩ := h2.o.h3 h3
    cases hl : decide (0 < q.p.chain.length) with
    | false => rw [hl] at hx; cases hx
    | true =>
     rw [hl] at hx
     have : m = actMg q.p := by simpa using hx
     subst this
     exact .act (by rw [hr]; exact List.mem_cons_self ..) (h2.b.f3 h3)
end Go.Wk
end
