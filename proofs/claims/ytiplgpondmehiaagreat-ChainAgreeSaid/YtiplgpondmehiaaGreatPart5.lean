/- Part 5 of the texts that the proof needs: the abstract machine, plain laws, contracts of the program's functions. No statement is claimed here. -/
import Derived.Test.YtiplgpondmehiaaGreatPart4
set_option linter.unusedVariables false
set_option linter.unusedSimpArgs false
section
/- A member's Handle: activating. -/
open Go Go.AM Go.Md
namespace Go.Wk
set_option maxRecDepth 100000
set_option maxHeartbeats 400000
def inAc (m : Msg) (l : List Member) : Msg := ⟨10, m.src, m.dst, m.boot, m.sboot, m.shard, m.epoch, m.gen, m.sess, m.num, m.a, m.code, m.has, m.fresh, m.key, m.val, m.ver, m.floor, m.op, m.entries, l, m.views, m.image⟩
theorem inAc_eq {m : Msg} (h : m.kind = 10) : inAc m m.chain = m := by cases m; simp only at h; subst h; rfl
noncomputable def agK (cs : List AV) : Option AV := gC dRep1 RepAg eRep1 [.agg cs] fun y => some (.tup [.agg cs, encMsgs (againP y)])
noncomputable def actK (y : Rep) (m : Msg) (l : List Member) (ph : Int) (sy : AV) : Option AV := gC (dL decMember) shortL eMems [encMembers l] fun a =>
  bif m.fresh then gC dI2 pI2 eI2 [.int .i64 m.epoch, .int .i64 0] fun b => agK (repN y m a ph (vr b.1 b.2) (vr b.1 b.2) .nils .nils (vr b.1 b.2) sy)
  else agK (repN y m a ph y.tail.floor y.tail.last (encEntrys y.tail.log) (encSeens y.seen) y.tail.last sy)
noncomputable def whenK (y : Rep) (m : Msg) (K : Option AV) : Option AV :=
  bif m.fresh then bif !decide (y.view.phase = 0) then bif !decide (y.frozen ≤ m.epoch) then bif !decide (m.epoch = y.frozen) then nilA y else K else K else bif !decide (y.frozen ≤ m.epoch) then nilA y else K
  else bif !decide (y.view.phase = 0) then bif !decide (m.epoch = y.frozen) then nilA y else K else nilA y
noncomputable def H10 (m : Msg) (K : Rep → Option AV) : Rep → Option AV := fun y => gt y m (nilA y) <| bif decide (m.epoch < 0) then nilA y else bif decide (1099511627776 < m.epoch) then nilA y else bif decide (m.epoch ≤ y.view.epoch) then nilA y else K y
theorem h10_0 (r : Rep) (m : Msg) : callT env30 9 F_chain_Handle [.agg (encRep r), .agg (encMsg (inAc m []))] = gC dRep1 RepShort eRep1 [.agg (encRep r)] (H10 m nilA) := by kernel_rfl
theorem h10_1 (r : Rep) (m : Msg) (a : Member) : callT env30 9 F_chain_Handle [.agg (encRep r), .agg (encMsg (inAc m [a]))] =
    gC dRep1 RepShort eRep1 [.agg (encRep r)] (H10 m fun y => bif !(chF [a] y.self) then nilA y else whenK y m (actK y m [a] 3 (.trl 1 [[.bool true]]))) := by kernel_rfl
theorem h10_2 (r : Rep) (m : Msg) (a b : Member) : callT env30 9 F_chain_Handle [.agg (encRep r), .agg (encMsg (inAc m [a, b]))] =
    gC dRep1 RepShort eRep1 [.agg (encRep r)] (H10 m fun y => bif !(chF [a, b] y.self) then nilA y else whenK y m (actK y m [a, b] 2 (.trl 1 [[.bool true], [.bool false]]))) := by kernel_rfl
theorem h10_3 (r : Rep) (m : Msg) (a b c : Member) : callT env30 9 F_chain_Handle [.agg (encRep r), .agg (encMsg (inAc m [a, b, c]))] =
    gC dRep1 RepShort eRep1 [.agg (encRep r)] (H10 m fun y => bif !(chF [a, b, c] y.self) then nilA y else whenK y m (actK y m [a, b, c] 2 (.trl 1 [[.bool true], [.bool false], [.bool false]]))) := by kernel_rfl
theorem h10_4 (r : Rep) (m : Msg) (a b c d : Member) : callT env30 9 F_chain_Handle [.agg (encRep r), .agg (encMsg (inAc m [a, b, c, d]))] =
    gC dRep1 RepShort eRep1 [.agg (encRep r)] (H10 m fun y => bif !(chF [a, b, c, d] y.self) then nilA y else whenK y m (actK y m [a, b, c, d] 2 (.trl 1 [[.bool true], [.bool false], [.bool false], [.bool false]]))) := by kernel_rfl
theorem H10_eq {m : Msg} {K : Rep → Option AV} {r : Rep} (h0 : 0 ≤ m.epoch) (h1 : m.epoch ≤ 1099511627776) : H10 m K r = bif toMe r m then bif decide (m.epoch ≤ r.view.epoch) then nilA r else K r else nilA r := by
  unfold H10
  rw [gt_eq, decide_eq_false (by omega : ¬ m.epoch < 0), decide_eq_false (by omega : ¬ 1099511627776 < m.epoch)]
  rfl
theorem whenK_eq {r : Rep} {m : Msg} {K : Option AV} : whenK r m K = bif (m.fresh && decide (r.frozen ≤ m.epoch)) || (!decide (r.view.phase = 0) && decide (m.epoch = r.frozen)) then K else nilA r := by
  unfold whenK
  cases m.fresh <;> cases decide (r.view.phase = 0) <;> cases decide (r.frozen ≤ m.epoch) <;> cases decide (m.epoch = r.frozen) <;> rfl
theorem qI2 {R : Type} {a b : Int} {k : Nat × Nat → Option R} (ha : 0 ≤ a) (hb : 0 ≤ b) : gC dI2 pI2 eI2 [.int .i64 a, .int .i64 b] k = k (a.toNat, b.toNat) := by
  refine gC_eq (a.toNat, b.toNat) rfl trivial ?_
  show SubC _ [.int .i64 (a.toNat : Int), .int .i64 (b.toNat : Int)]
  rw [Int.toNat_of_nonneg ha, Int.toNat_of_nonneg hb]
  exact .refl _
theorem agK_eq {cs : List AV} {R' : Rep} (hd : decRep cs = R') (hs : SubC cs (encRep R')) (h : RepAg R') : agK cs = some (.tup [.agg cs, encMsgs (againP R')]) := by
  unfold agK
  exact gC_eq (dec := dRep1) (pre := RepAg) (enc := eRep1) R' hd h (.cons (.agg hs) .nil)
theorem actK_eq {r : Rep} {m : Msg} {l : List Member} {sy : AV} {bs : List Bool} (hl : shortL l) (hml : m.chain = l) (h0 : 0 ≤ m.epoch) (hsy : decL decBool sy = bs) (hsb : SubV sy (encBools bs)) (hbs : bs = true :: List.replicate (m.chain.length - 1) false) (hR : RepAg (actR r m)) :
    ∃ v, actK r m l (bif decide (m.chain.length = 1) then 3 else 2) sy = some v ∧ SubV v (oHd (actR r m, againP (actR r m))) := by
  unfold actK
  rw [qMems hl]
  have dR : ∀ (fl la go : Ver) (lg se : AV), decRep (repN r m l (bif decide (m.chain.length = 1) then 3 else 2) fl la lg se go sy) = ⟨r.shard, ⟨r.self.node, r.self.boot⟩, ⟨m.shard, m.epoch, m.gen, bif decide (m.chain.length = 1) then 3 else 2, l⟩, r.frozen, ⟨fl, la, decL decEntry lg⟩, decL decSeen se, go, bs⟩ := by
    intro fl la go lg se
    show (⟨r.shard, ⟨r.self.node, r.self.boot⟩, ⟨m.shard, m.epoch, m.gen, bif decide (m.chain.length = 1) then 3 else 2, decL decMember (encMembers l)⟩, r.frozen, ⟨fl, la, decL decEntry lg⟩, decL decSeen se, go, decL decBool sy⟩ : Rep) = _
    rw [decMembers, hsy]
  cases hf : m.fresh with
  | true =>
    rw [cond_true, qI2 h0 (by decide)]
    have e : actR r m = ⟨r.shard, ⟨r.self.node, r.self.boot⟩, ⟨m.shard, m.epoch, m.gen, bif decide (m.chain.length = 1) then 3 else 2, l⟩, r.frozen, tail0 m.epoch, [], vr m.epoch.toNat 0, bs⟩ := by
      unfold actR actT
      rw [hf, hbs, hml]; rfl
    have hd := dR (vr m.epoch.toNat 0) (vr m.epoch.toNat 0) (vr m.epoch.toNat 0) .nils .nils
    rw [e] at hR ⊢
    have hs : SubC (repN r m l (bif decide (m.chain.length = 1) then 3 else 2) (vr m.epoch.toNat 0) (vr m.epoch.toNat 0) .nils .nils (vr m.epoch.toNat 0) sy) (encRep ⟨r.shard, ⟨r.self.node, r.self.boot⟩, ⟨m.shard, m.epoch, m.gen, bif decide (m.chain.length = 1) then 3 else 2, l⟩, r.frozen, tail0 m.epoch, [], vr m.epoch.toNat 0, bs⟩) :=
      subC_all (by repeat' (first | exact trivial | exact nilsL | exact hsb | exact SubV.refl _ | refine ⟨?_, ?_⟩))
    exact ⟨_, agK_eq hd hs hR, .tup (.cons (.agg hs) (.refl _))⟩
  | false =>
    rw [cond_false]
    have e : actR r m = ⟨r.shard, ⟨r.self.node, r.self.boot⟩, ⟨m.shard, m.epoch, m.gen, bif decide (m.chain.length = 1) then 3 else 2, l⟩, r.frozen, r.tail, r.seen, r.tail.last, bs⟩ := by
      unfold actR actT
      rw [hf, hbs, hml]; rfl
    have hd := dR r.tail.floor r.tail.last r.tail.last (encEntrys r.tail.log) (encSeens r.seen)
    rw [decEntrys, decSeens] at hd
    rw [e] at hR ⊢
    have hs : SubC (repN r m l (bif decide (m.chain.length = 1) then 3 else 2) r.tail.floor r.tail.last (encEntrys r.tail.log) (encSeens r.seen) r.tail.last sy) (encRep ⟨r.shard, ⟨r.self.node, r.self.boot⟩, ⟨m.shard, m.epoch, m.gen, bif decide (m.chain.length = 1) then 3 else 2, l⟩, r.frozen, r.tail, r.seen, r.tail.last, bs⟩) :=
      subC_all (by repeat' (first | exact trivial | exact hsb | exact SubV.refl _ | refine ⟨?_, ?_⟩))
    exact ⟨_, agK_eq hd hs hR, .tup (.cons (.agg hs) (.refl _))⟩
theorem h10_con {r : Rep} {m : Msg} (h : HandOk r m) (hk : m.kind = 10) : Contract PG F_chain_Handle [.agg (encRep r), .agg (encMsg m)] [] (oHd (handP r m)) [] := by
  obtain ⟨E, N, hN, hEN, hr, hm⟩ := h.ex
  have hep := hm.ep
  have hep0 := hm.ep0
  have key : ∃ v, callT env30 9 F_chain_Handle [.agg (encRep r), .agg (encMsg m)] = some v ∧ SubV v (oHd (handP r m)) := by
    have hgen : ∀ {K : Rep → Option AV}, callT env30 9 F_chain_Handle [.agg (encRep r), .agg (encMsg m)] = gC dRep1 RepShort eRep1 [.agg (encRep r)] (H10 m K) →
        (actG r m = true → ∃ v, K r = some v ∧ SubV v (oHd (actR r m, againP (actR r m)))) → (actG r m = false → m.epoch ≤ r.view.epoch ∨ K r = nilA r) → ∃ v, callT env30 9 F_chain_Handle [.agg (encRep r), .agg (encMsg m)] = some v ∧ SubV v (oHd (handP r m)) := by
      intro K hK h1 h2
      rw [qRep1 (P := RepShort) (hr.ag hN).short, H10_eq hep0 (by omega)] at hK
      rw [hK]
      unfold handP handK
      rw [hk]
      show ∃ v, _ ∧ SubV v (oHd (bif toMe r m then actP r m else (r, [])))
      cases ht : toMe r m with
      | false => exact ⟨_, rfl, out_nil⟩
      | true =>
        simp only [cond_true]
        unfold actP
        cases hg : actG r m with
        | false =>
          rcases h2 hg with h3 | h3
          · rw [decide_eq_true h3]; exact ⟨_, rfl, out_nil⟩
          · rw [h3]; cases decide (m.epoch ≤ r.view.epoch) <;> exact ⟨_, rfl, out_nil⟩
        | true =>
          have ha := (and_true' hg).1
          obtain ⟨a1, _⟩ := above_iff.1 ha
          rw [decide_eq_false (by omega : ¬ m.epoch ≤ r.view.epoch)]
          exact h1 hg
    have hact : ∀ {l : List Member} {sy : AV} {ph : Int}, m.chain = l → l ≠ [] → ph = (bif decide (m.chain.length = 1) then 3 else 2) → decL decBool sy = true :: List.replicate (l.length - 1) false → SubV sy (encBools (true :: List.replicate (l.length - 1) false)) →
        callT env30 9 F_chain_Handle [.agg (encRep r), .agg (encMsg m)] = gC dRep1 RepShort eRep1 [.agg (encRep r)] (H10 m fun y => bif !(chF l y.self) then nilA y else whenK y m (actK y m l ph sy)) → ∃ v, callT env30 9 F_chain_Handle [.agg (encRep r), .agg (encMsg m)] = some v ∧ SubV v (oHd (handP r m)) := by
      intro l sy ph hml hne hph hd hs hK
      have hwn : actG r m = (aboveP r m && (chF l r.self && ((m.fresh && decide (r.frozen ≤ m.epoch)) || (!decide (r.view.phase = 0) && decide (m.epoch = r.frozen))))) := by
        unfold actG aboveP
        rw [hml, chF_first hne]
        by_cases hq : r.frozen ≤ m.epoch
        · rw [decide_eq_true hq, Bool.and_true m.fresh]
        · rw [decide_eq_false hq]; simp
      refine hgen hK (fun hg => ?_) fun hg => ?_
      · have hf : isFirst m.chain r.self = true := by unfold actG at hg; exact (and_true' (and_true' hg).2).1
        rw [hwn] at hg
        obtain ⟨_, g2⟩ := and_true' hg
        obtain ⟨g2, g3⟩ := and_true' g2
        have hR := (actR_is hr hm hEN hf).ag hN
        obtain ⟨v, v1, v2⟩ := actK_eq (r := r) (m := m) (l := l) (sy := sy) (bs := true :: List.replicate (l.length - 1) false) (by have := hm.chain.1; rw [hml] at this; unfold shortL LB; omega) hml hep0 hd hs (by rw [hml]) hR
        refine ⟨v, ?_, v2⟩
        simp only [g2, Bool.not_true, cond_false]
        rw [whenK_eq, g3, cond_true, hph]
        exact v1
      · rw [hwn] at hg
        by_cases he : m.epoch ≤ r.view.epoch
        · exact .inl he
        · right
          show (bif !(chF l r.self) then nilA r else whenK r m (actK r m l ph sy)) = nilA r
          cases hc : chF l r.self with
          | false => rfl
          | true =>
            simp only [Bool.not_true, cond_false]
            rw [whenK_eq]
            cases hw : (m.fresh && decide (r.frozen ≤ m.epoch)) || (!decide (r.view.phase = 0) && decide (m.epoch = r.frozen)) with
            | false => rfl
            | true =>
              rw [hc, hw] at hg
              unfold aboveP at hg
              rw [decide_eq_true (by omega : r.view.epoch < m.epoch)] at hg
              simp only [Bool.true_and, Bool.and_true] at hg
              have hg := of_decide_eq_false hg
              rw [decide_eq_false hg] at hw
              simp at hw
              omega
    have hme := inAc_eq hk
    have hlen := hm.chain.1
    cases hc : m.chain with
    | nil =>
      have k := h10_0 r m
      rw [← hc, hme] at k
      refine hgen k (fun hg => ?_) fun _ => .inr rfl
      have hf : isFirst m.chain r.self = true := by unfold actG at hg; exact (and_true' (and_true' hg).2).1
      rw [hc] at hf; cases hf
    | cons a l1 => cases l1 with
      | nil =>
        have k := h10_1 r m a
        rw [← hc, hme] at k
        rw [hc] at k
        exact hact hc (by simp) (by rw [hc]; rfl) rfl (SubV.trl_of [true] rfl) k
      | cons b l2 => cases l2 with
        | nil =>
          have k := h10_2 r m a b
          rw [← hc, hme] at k
          rw [hc] at k
          exact hact hc (by simp) (by rw [hc]; rfl) rfl (SubV.trl_of [true, false] rfl) k
        | cons c l3 => cases l3 with
          | nil =>
            have k := h10_3 r m a b c
            rw [← hc, hme] at k
            rw [hc] at k
            exact hact hc (by simp) (by rw [hc]; rfl) rfl (SubV.trl_of [true, false, false] rfl) k
          | cons d l4 =>
            have : l4 = [] := by
              rw [hc] at hlen
              cases l4 with
              | nil => rfl
              | cons x y => simp at hlen
            subst this
            have k := h10_4 r m a b c d
            rw [← hc, hme] at k
            rw [hc] at k
            exact hact hc (by simp) (by rw [hc]; rfl) rfl (SubV.trl_of [true, false, false, false] rfl) k
  obtain ⟨v, k1, k2⟩ := key
  exact (con30 k1).res k2
end Go.Wk
end

section
/- A member's Handle: who has installed. -/
open Go Go.AM Go.Md
namespace Go.Wk
set_option maxRecDepth 100000
set_option maxHeartbeats 400000
/-! ### is anyone missing? -/
def SIb (l : List Bool) (i : Int) : St := { fr := [(0, encBools l), (1, .bool false), (7, .int .i64 l.length), (8, .int .i64 i)], hp := [] }
theorem ib_in (N : Nat) (l : List Bool) : callT env0 (N + 1) F_slices_Index_bool [encBools l, .bool false] = LP env0 N 0 F_slices_Index_bool snK 0 [] N (SIb l 0) := by kernel_rfl
theorem ib_step (N : Nat) (m : Nat) (l : List Bool) (i : Int) : LP env0 N 0 F_slices_Index_bool snK 0 [] (m + 1) (SIb l i) =
  bif decide (i < (↑l.length : Int)) then 
    bif decide (0 ≤ i) && decide (i < (↑l.length : Int)) then 
      bif bif false then l.getD i.toNat false else !l.getD i.toNat false then 
        some (AV.int IntKind.i64 i)
      else 
        LP (env0) (N) (0) (F_slices_Index_bool) (snK) 0 ([]) (m) (SIb l (IntKind.i64.wrap (i + 1)))
    else none
  else 
    some (AV.int IntKind.i64 (-1)) := by kernel_rfl
def ixB : List Bool → Nat → Int
  | [], _ => -1
  | b :: r, i => bif b then ixB r (i + 1) else i
theorem ixB_all : ∀ (l : List Bool) (i : Nat), decide (0 ≤ ixB l i) = !l.all id
  | [], i => rfl
  | true :: r, i => by show decide (0 ≤ ixB r (i + 1)) = _; rw [ixB_all r (i + 1)]; rfl
  | false :: r, i => by show decide (0 ≤ (i : Int)) = _; rw [decide_eq_true (by omega)]; rfl
theorem ib_con (l : List Bool) (h : shortL l) : Contract PG F_slices_Index_bool [encBools l, .bool false] [] (.int .i64 (ixB l 0)) [] := by
  unfold shortL LB at h
  have run : ∀ d i m, i + d = l.length → d < m → LP env0 (l.length + 1) 0 F_slices_Index_bool snK 0 [] m (SIb l (i : Nat)) = some (.int .i64 (ixB (l.drop i) i)) := by
    intro d
    induction d with
    | zero =>
      intro i m hi hm
      obtain ⟨m, rfl⟩ : ∃ k, m = k + 1 := ⟨m - 1, by omega⟩
      rw [ib_step, dec_nat, decide_eq_false (by omega), cond_false, List.drop_eq_nil_of_le (by omega)]
      rfl
    | succ d ih =>
      intro i m hi hm
      obtain ⟨m, rfl⟩ : ∃ k, m = k + 1 := ⟨m - 1, by omega⟩
      have hil : i < l.length := by omega
      rw [ib_step, dec_nat, decide_eq_true hil, dec_nonneg, drop_cons (z := false) hil]
      simp only [cond_true, Bool.and_true, Int.toNat_natCast]
      rw [wrapS (by omega)]
      have e : ixB (l.getD i false :: l.drop (i + 1)) i = bif l.getD i false then ixB (l.drop (i + 1)) (i + 1) else i := rfl
      rw [e]
      cases l.getD i false with
      | true => exact ih (i + 1) m (by omega) (by omega)
      | false => rfl
  exact con0 ((ib_in (l.length + 1) l).trans (run l.length 0 (l.length + 1) (by omega) (by omega)))
def eBF (l : List Bool) : List AV := [encBools l, .bool false]
noncomputable def kIndexB : Known := .spec F_slices_Index_bool (dL decBool) shortL eBF (fun l => .int .i64 (ixB l 0))
theorem kIndexB_ok : kIndexB.Ok PG := Known.spec_ok ib_con
noncomputable def env33a : Env := envL [] (fun f => bif Nat.beq f F_slices_Index_bool then some 0 else none) [kIndexB]
theorem con33a {n f : Nat} {xs : List AV} {r : AV} (e : callT env33a n f xs = some r) : Contract PG f xs [] r [] := conL (ak kIndexB_ok ank) e
theorem contB (l : List Bool) : callT env33a 5 F_slices_Contains_bool [encBools l, AV.bool false] =
  gC (dL decBool) (shortL) (eBF) ([encBools l, AV.bool false]) fun y0 =>
  some (AV.bool (decide (0 ≤ ixB y0 0))) := by kernel_rfl
theorem cont_con (l : List Bool) (h : shortL l) : Contract PG F_slices_Contains_bool (eBF l) [] (.bool (!l.all id)) [] := by
  have k := contB l
  have q : ∀ K : List Bool → Option AV, gC (dL decBool) shortL eBF [encBools l, .bool false] K = K l := fun K => gC_eq l (decBools l) h (.refl _)
  rw [q, ixB_all] at k
  exact con33a k
noncomputable def kCont : Known := .spec F_slices_Contains_bool (dL decBool) shortL eBF (fun l => .bool (!l.all id))
theorem kCont_ok : kCont.Ok PG := Known.spec_ok cont_con

/-! ### a member whose list of who has the state may be written -/
theorem cloneBB (n : Nat) (f : Nat → List AV) : callH env0 2 F_slices_Clone_bool [AV.tr 1 (n + 1) f] [] =
  bif ((0 + (n + 1)) * 1).ble 140737488355328 && (0 + (n + 1)).ble 140737488355328 then 
    some ((AV.sl 1 0 0 (n + 1) 0, [BS.seq true 1 (n + 1) f]))
  else none := by kernel_rfl
def pNb (l : List Bool) : Prop := l.length ≤ 10000 ∧ l ≠ []
theorem cloneBB_con (l : List Bool) (h : pNb l) : Contract PG F_slices_Clone_bool [encBools l] [] (outBlk 1 encBool default l).1 (outBlk 1 encBool default l).2 := by
  obtain ⟨h1, h2⟩ := h
  cases l with
  | nil => exact absurd rfl h2
  | cons a r =>
    have k := cloneBB r.length fun i => encBool ((a :: r).getD i default)
    simp only [List.length_cons] at h1
    simp only [roomV (n := 0 + (r.length + 1)) (b := 1) (by omega) (by omega), cond_true] at k
    exact (callH_ok (envM_ok (md := fun _ => none) (l := []) fun k hk => by cases hk) envM_code mixed k).1
noncomputable def kCloneBB : Known := .specB F_slices_Clone_bool (dL decBool) pNb eBools (fun l => outBlk 1 encBool default l)
theorem kCloneBB_ok : kCloneBB.Ok PG := Known.specB_ok cloneBB_con
noncomputable def env33b : Env := envO [kCloneMember, kCloneEntry, kCloneSeen, kCloneBB]
/-- a member's cells, with another list of who has the state -/
def repB (r : Rep) (sy : AV) : List AV := [.int .i64 r.shard, .int .i64 r.self.node, .int .i64 r.self.boot, .int .i64 r.view.shard, .int .i64 r.view.epoch, .int .i64 r.view.gen, .int .i64 r.view.phase, encMembers r.view.chain, .int .i64 r.frozen, eV r.tail.floor, eV r.tail.last, encEntrys r.tail.log, encSeens r.seen, eV r.got, sy]
theorem ownB_eq (r : Rep) : callH env33b 3 F_chain_own [.agg (encRep r)] [] = gC (dL decMember) shortL eMems [encMembers r.view.chain] fun a => gC (dL decEntry) shortL eEnts [encEntrys r.tail.log] fun b => gC (dL decSeen) shortL eSeens [encSeens r.seen] fun c => gC (dL decBool) pNb eBools [encBools r.synced] fun d =>
    some (.agg (repB { r with view := { r.view with chain := a }, tail := { r.tail with log := b }, seen := c } (.sl 1 0 0 d.length 0)), [.seq true 1 d.length fun i => encBool (d.getD i default)]) := by kernel_rfl
def pOwB (r : Rep) : Prop := RepShort r ∧ r.synced.length ≤ 10000 ∧ r.synced ≠ []
def oOwB (r : Rep) : AV × Heap := (.agg (repB r (.sl 1 0 0 r.synced.length 0)), [.seq true 1 r.synced.length fun i => encBool (r.synced.getD i default)])
theorem ownB_con (r : Rep) (h : pOwB r) : Contract PG F_chain_own [.agg (encRep r)] [] (oOwB r).1 (oOwB r).2 := by
  have k := ownB_eq r
  have q : ∀ {R : Type} (K : List Bool → Option R), gC (dL decBool) pNb eBools [encBools r.synced] K = K r.synced := fun K => gC_eq r.synced (decBools _) h.2 (.refl _)
  rw [qMems h.1.1, qEnts h.1.2.1, qSeens h.1.2.2.1, q] at k
  exact (callH_ok (envM_ok (md := fun _ => none) (ak kCloneMember_ok (ak kCloneEntry_ok (ak kCloneSeen_ok (ak kCloneBB_ok ank))))) envM_code mixed k).1
noncomputable def kOwnB : Known := .specB F_chain_own dRep1 pOwB eRep1 oOwB
theorem kOwnB_ok : kOwnB.Ok PG := Known.specB_ok ownB_con
noncomputable def kns33 : List Known := [kOwnB, kIndex, kCont]
noncomputable def env33 : Env := envL [] (fun f => bif Nat.beq f F_slices_Contains_bool then some 0 else none) kns33
theorem con33 {n f : Nat} {xs : List AV} {r : AV} (e : callT env33 n f xs = some r) : Contract PG f xs [] r [] := conL (ak kOwnB_ok (ak kIndex_ok (ak kCont_ok ank))) e
theorem h12b (r : Rep) (m : Msg) : callT env33 9 F_chain_Handle [AV.agg (encRep r), AV.agg (encMsg (inKd m 12))] =
  gC (dRep1) (pOwB) (eRep1) ([AV.agg (encRep r)]) fun y1 =>
  bif !decide ((inKd m 12).dst = y1.self.node) then 
    bif (y1.synced.length.beq 0 || y1.synced.length.ble y1.synced.length) && true && true then 
      some (AV.tup [AV.agg (encRep y1), AV.nils])
    else none
  else 
    bif !decide ((inKd m 12).boot = y1.self.boot) then 
      bif (y1.synced.length.beq 0 || y1.synced.length.ble y1.synced.length) && true && true then 
        some (AV.tup [AV.agg (encRep y1), AV.nils])
      else none
    else 
      bif !decide ((inKd m 12).shard = y1.shard) then 
        bif (y1.synced.length.beq 0 || y1.synced.length.ble y1.synced.length) && true && true then 
          some (AV.tup [AV.agg (encRep y1), AV.nils])
        else none
      else 
        gC (decLM) (preLM) (encLM) ([encMembers y1.view.chain, AV.agg [AV.int IntKind.i64 m.src, AV.int IntKind.i64 m.sboot]]) fun y2 =>
        bif (y1.synced.length.beq 0 || y1.synced.length.ble y1.synced.length) && true && true then 
          bif !decide (y1.view.phase = 0) then 
            bif decide (y1.frozen ≤ y1.view.epoch) then 
              bif !decide (y1.view.phase = 2) then 
                bif (y1.synced.length.beq 0 || y1.synced.length.ble y1.synced.length) && true && true then 
                  some (AV.tup [AV.agg (encRep y1), AV.nils])
                else none
              else 
                bif !decide ((inKd m 12).epoch = y1.view.epoch) then 
                  bif (y1.synced.length.beq 0 || y1.synced.length.ble y1.synced.length) && true && true then 
                    some (AV.tup [AV.agg (encRep y1), AV.nils])
                  else none
                else 
                  bif decide (idx y2.fst y2.snd < 0) then 
                    bif (y1.synced.length.beq 0 || y1.synced.length.ble y1.synced.length) && true && true then 
                      some (AV.tup [AV.agg (encRep y1), AV.nils])
                    else none
                  else 
                    bif decide ((↑y1.synced.length : Int) ≤ idx y2.fst y2.snd) then 
                      bif (y1.synced.length.beq 0 || y1.synced.length.ble y1.synced.length) && true && true then 
                        some (AV.tup [AV.agg (encRep y1), AV.nils])
                      else none
                    else 
                      bif decide (0 ≤ idx y2.fst y2.snd) && decide (idx y2.fst y2.snd < (↑y1.synced.length : Int)) then 
                        bif (0 + (idx y2.fst y2.snd).toNat).blt y1.synced.length && true then 
                          bif (y1.synced.length.beq 0 || y1.synced.length.ble y1.synced.length) && true then 
                            gC (dL decBool) (shortL) (eBF) ([AV.tr 1 y1.synced.length fun i => bif i.beq (0 + (idx y2.fst y2.snd).toNat) then [AV.bool true] else [AV.bool (y1.synced.getD i false)], AV.bool false]) fun y3 =>
                            bif !!y3.all id then 
                              bif (y1.synced.length.beq 0 || y1.synced.length.ble y1.synced.length) && true && true then 
                                some (AV.tup [AV.agg [AV.int IntKind.i64 y1.shard, AV.int IntKind.i64 y1.self.node, AV.int IntKind.i64 y1.self.boot, AV.int IntKind.i64 y1.view.shard, AV.int IntKind.i64 y1.view.epoch, AV.int IntKind.i64 y1.view.gen, AV.int IntKind.i64 3, encMembers y1.view.chain, AV.int IntKind.i64 y1.frozen, AV.cplx FloatKind.f64 y1.tail.floor.re y1.tail.floor.im, AV.cplx FloatKind.f64 y1.tail.last.re y1.tail.last.im, encEntrys y1.tail.log, encSeens y1.seen, AV.cplx FloatKind.f64 y1.tail.last.re y1.tail.last.im, AV.tr 1 y1.synced.length fun i => bif i.beq (0 + (idx y2.fst y2.snd).toNat) then [AV.bool true] else [AV.bool (y1.synced.getD i false)]], AV.nils])
                              else none
                            else 
                              bif (y1.synced.length.beq 0 || y1.synced.length.ble y1.synced.length) && true && true then 
                                some (AV.tup [AV.agg [AV.int IntKind.i64 y1.shard, AV.int IntKind.i64 y1.self.node, AV.int IntKind.i64 y1.self.boot, AV.int IntKind.i64 y1.view.shard, AV.int IntKind.i64 y1.view.epoch, AV.int IntKind.i64 y1.view.gen, AV.int IntKind.i64 y1.view.phase, encMembers y1.view.chain, AV.int IntKind.i64 y1.frozen, AV.cplx FloatKind.f64 y1.tail.floor.re y1.tail.floor.im, AV.cplx FloatKind.f64 y1.tail.last.re y1.tail.last.im, encEntrys y1.tail.log, encSeens y1.seen, AV.cplx FloatKind.f64 y1.got.re y1.got.im, AV.tr 1 y1.synced.length fun i => bif i.beq (0 + (idx y2.fst y2.snd).toNat) then [AV.bool true] else [AV.bool (y1.synced.getD i false)]], AV.nils])
                              else none
                          else none
                        else none
                      else none
            else 
              bif (y1.synced.length.beq 0 || y1.synced.length.ble y1.synced.length) && true && true then 
                some (AV.tup [AV.agg (encRep y1), AV.nils])
              else none
          else 
            bif (y1.synced.length.beq 0 || y1.synced.length.ble y1.synced.length) && true && true then 
              some (AV.tup [AV.agg (encRep y1), AV.nils])
            else none
        else none := by kernel_rfl
theorem h12 (r : Rep) (m : Msg) : callT env30 9 F_chain_Handle [AV.agg (encRep r), AV.agg (encMsg (inKd m 12))] =
  gC (dRep1) (RepShort) (eRep1) ([AV.agg (encRep r)]) fun y4 =>
  bif !decide ((inKd m 12).dst = y4.self.node) then 
    some (AV.tup [AV.agg (encRep y4), AV.nils])
  else 
    bif !decide ((inKd m 12).boot = y4.self.boot) then 
      some (AV.tup [AV.agg (encRep y4), AV.nils])
    else 
      bif !decide ((inKd m 12).shard = y4.shard) then 
        some (AV.tup [AV.agg (encRep y4), AV.nils])
      else 
        gC (decLM) (preLM) (encLM) ([encMembers y4.view.chain, AV.agg [AV.int IntKind.i64 m.src, AV.int IntKind.i64 m.sboot]]) fun y5 =>
        bif !decide (y4.view.phase = 0) then 
          bif decide (y4.frozen ≤ y4.view.epoch) then 
            bif !decide (y4.view.phase = 2) then 
              some (AV.tup [AV.agg (encRep y4), AV.nils])
            else 
              bif !decide ((inKd m 12).epoch = y4.view.epoch) then 
                some (AV.tup [AV.agg (encRep y4), AV.nils])
              else 
                bif decide (idx y5.fst y5.snd < 0) then 
                  some (AV.tup [AV.agg (encRep y4), AV.nils])
                else 
                  bif decide ((↑y4.synced.length : Int) ≤ idx y5.fst y5.snd) then 
                    some (AV.tup [AV.agg (encRep y4), AV.nils])
                  else 
                    bif decide (0 ≤ idx y5.fst y5.snd) && decide (idx y5.fst y5.snd < (↑y4.synced.length : Int)) then none
                    else none
          else 
            some (AV.tup [AV.agg (encRep y4), AV.nils])
        else 
          some (AV.tup [AV.agg (encRep y4), AV.nils]) := by kernel_rfl
/-! ### a list with a place that is set -/
def setT (l : List Bool) (k : Nat) : AV := .tr 1 l.length fun i => bif Nat.beq i k then [.bool true] else [.bool (l.getD i false)]
theorem set_at (l : List Bool) (k i : Nat) (h : i < l.length) : (l.set k true).getD i false = bif Nat.beq i k then true else l.getD i false := by
  by_cases e : i = k
  · subst e
    rw [beq_true rfl, cond_true]
    simp [List.getD, h]
  · rw [beq_false e, cond_false]
    unfold List.getD
    rw [List.getElem?_set_ne (fun x => e x.symm)]
theorem setT_sub (l : List Bool) (k : Nat) : SubV (setT l k) (encBools (l.set k true)) := by
  unfold setT encBools encL
  rw [List.length_set]
  refine SubV.trs fun i hi => ?_
  have := set_at l k i hi
  show SubC _ [.bool ((l.set k true).getD i false)]
  rw [this]
  cases Nat.beq i k <;> exact .refl _
theorem setT_dec (l : List Bool) (k : Nat) : decL decBool (setT l k) = l.set k true := by
  show (List.range l.length).map (fun i => decBool (bif Nat.beq i k then [.bool true] else [.bool (l.getD i false)])) = _
  refine List.ext_getElem (by simp) fun i h1 h2 => ?_
  simp only [List.getElem_map, List.getElem_range]
  have hi : i < l.length := by simpa using h2
  have := set_at l k i hi
  have e2 : (l.set k true).getD i false = (l.set k true)[i] := by simp [List.getD, List.getElem?_eq_getElem h2]
  rw [← e2, this]
  cases Nat.beq i k <;> rfl
theorem h12_con {r : Rep} {m : Msg} (h : HandOk r m) (hk : m.kind = 12) : Contract PG F_chain_Handle [.agg (encRep r), .agg (encMsg m)] [] (oHd (handP r m)) [] := by
  obtain ⟨E, N, hN, hEN, hr, hm⟩ := h.ex
  have hag := hr.ag hN
  have hch := hag.short.1
  have qw : ∀ K : LM → Option AV, gC decLM preLM encLM [encMembers r.view.chain, .agg [.int .i64 m.src, .int .i64 m.sboot]] K = K (r.view.chain, who m) := fun K => qLM (m := who m) hch
  have hP : handP r m = bif toMe r m then indP r m else (r, []) := by unfold handP handK; rw [hk]; rfl
  rw [hP]
  by_cases h2 : r.view.phase = 2
  · obtain ⟨s1, s2⟩ := hr.sync h2
    have hsl := hr.synl
    have hne : r.synced ≠ [] := fun e => by
      obtain ⟨x, hx⟩ := isFirst_cons s1
      rw [e, hx] at s2; simp at s2
    have k := h12b r m
    rw [inKd_eq hk, qRep1 (P := pOwB) ⟨hag.short, by omega, hne⟩] at k
    simp only [orU, Bool.and_true, cond_true] at k
    rw [gate, qw] at k
    have e1 : (decide (m.dst = r.self.node) && (decide (m.boot = r.self.boot) && decide (m.shard = r.shard))) = toMe r m := rfl
    rw [e1] at k
    cases ht : toMe r m with
    | false => rw [ht] at k; exact (con33 k).res out_nil
    | true =>
      rw [ht] at k
      simp only [cond_true] at k ⊢
      have hnz : decide (r.view.phase = 0) = false := decide_eq_false (by omega)
      have hnt : decide (r.view.phase = 2) = true := decide_eq_true h2
      rw [hnz, hnt] at k
      simp only [Bool.not_false, Bool.not_true, cond_true, cond_false] at k
      have hix := idx_le r.view.chain (who m)
      unfold indP syncsP liveP
      rw [hnz, hnt]
      simp only [Bool.not_false, Bool.true_and, Bool.and_true]
      cases hlv : decide (r.frozen ≤ r.view.epoch) with
      | false => rw [hlv] at k; exact (con33 k).res out_nil
      | true =>
        rw [hlv] at k
        simp only [cond_true, Bool.true_and] at k ⊢
        cases hep : decide (m.epoch = r.view.epoch) with
        | false => rw [hep] at k; exact (con33 k).res out_nil
        | true =>
          rw [hep] at k
          simp only [Bool.not_true, cond_false, Bool.true_and] at k ⊢
          by_cases hi : 0 ≤ idx r.view.chain (who m)
          · have a1 : decide (idx r.view.chain (who m) < 0) = false := decide_eq_false (by omega)
            have a2 : decide ((r.synced.length : Int) ≤ idx r.view.chain (who m)) = false := decide_eq_false (by omega)
            have a3 : decide (idx r.view.chain (who m) < (r.synced.length : Int)) = true := decide_eq_true (by omega)
            have a4 : Nat.blt (0 + (idx r.view.chain (who m)).toNat) r.synced.length = true := blt_true (by omega)
            have a0 : decide (0 ≤ idx r.view.chain (who m)) = true := decide_eq_true hi
            change _ = bif decide (idx r.view.chain (who m) < 0) then _ else _ at k
            rw [a1, cond_false] at k
            change _ = bif decide ((r.synced.length : Int) ≤ idx r.view.chain (who m)) then _ else _ at k
            rw [a2, cond_false] at k
            change _ = bif decide (0 ≤ idx r.view.chain (who m)) && decide (idx r.view.chain (who m) < (r.synced.length : Int)) then _ else _ at k
            rw [a0, a3] at k
            simp only [Bool.and_true, cond_true] at k
            change _ = bif Nat.blt (0 + (idx r.view.chain (who m)).toNat) r.synced.length then _ else _ at k
            rw [a4, cond_true] at k
            rw [a0, cond_true]
            simp only [Nat.zero_add] at k
            have q : ∀ K : List Bool → Option AV, gC (dL decBool) shortL eBF [setT r.synced (idx r.view.chain (who m)).toNat, .bool false] K = K (indS r m) := fun K =>
              gC_eq (indS r m) (setT_dec _ _) (by unfold indS shortL LB; rw [List.length_set]; omega) (.cons (setT_sub _ _) (.refl _))
            have k : callT env33 9 F_chain_Handle [.agg (encRep r), .agg (encMsg m)] = gC (dL decBool) shortL eBF [setT r.synced (idx r.view.chain (who m)).toNat, .bool false] fun y3 => bif !!y3.all id then
                some (.tup [.agg (repB { r with view := { r.view with phase := 3 }, got := r.tail.last } (setT r.synced (idx r.view.chain (who m)).toNat)), .nils])
              else some (.tup [.agg (repB r (setT r.synced (idx r.view.chain (who m)).toNat)), .nils]) := k
            rw [q, Bool.not_not] at k
            have hs : SubV (setT r.synced (idx r.view.chain (who m)).toNat) (encBools (indS r m)) := setT_sub _ _
            unfold indR
            cases hall : (indS r m).all id with
            | true =>
              rw [hall] at k
              refine (con33 k).res (.tup (.cons (.agg ?_) (.cons nilsL .nil)))
              exact subC_all (by repeat' (first | exact trivial | exact hs | exact SubV.refl _ | refine ⟨?_, ?_⟩))
            | false =>
              rw [hall] at k
              refine (con33 k).res (.tup (.cons (.agg ?_) (.cons nilsL .nil)))
              exact subC_all (by repeat' (first | exact trivial | exact hs | exact SubV.refl _ | refine ⟨?_, ?_⟩))
          · have a1 : decide (idx r.view.chain (who m) < 0) = true := decide_eq_true (by omega)
            change _ = bif decide (idx r.view.chain (who m) < 0) then _ else _ at k
            rw [a1, cond_true] at k
            rw [decide_eq_false hi]
            exact (con33 k).res out_nil
  · have k := h12 r m
    rw [inKd_eq hk, qRep1 (P := RepShort) hag.short, gate, qw] at k
    have e1 : (decide (m.dst = r.self.node) && (decide (m.boot = r.self.boot) && decide (m.shard = r.shard))) = toMe r m := rfl
    rw [e1, decide_eq_false h2] at k
    have hi : indP r m = (r, []) := by
      unfold indP syncsP
      rw [decide_eq_false h2, Bool.and_false, Bool.false_and]; rfl
    rw [hi]
    cases ht : toMe r m with
    | false => rw [ht] at k; exact (con30 k).res out_nil
    | true =>
      rw [ht] at k
      simp only [cond_true, Bool.not_false] at k ⊢
      cases hz : decide (r.view.phase = 0) with
      | true => rw [hz] at k; exact (con30 k).res out_nil
      | false =>
        rw [hz] at k
        cases hf : decide (r.frozen ≤ r.view.epoch) with
        | true => rw [hf] at k; exact (con30 k).res out_nil
        | false => rw [hf] at k; exact (con30 k).res out_nil

/-! ### Handle -/
def Kinds (m : Msg) : Prop := m.kind = 8 ∨ m.kind = 10 ∨ m.kind = 11 ∨ m.kind = 12 ∨ m.kind = 13 ∨ m.kind = 14
def dRMs (a : List AV) : Rep × Msg := (decRep (argC a 0), decMsg (argC a 1))
def pRMs (p : Rep × Msg) : Prop := HandOk p.1 p.2 ∧ Kinds p.2
def eRMs (p : Rep × Msg) : List AV := [.agg (encRep p.1), .agg (encMsg p.2)]
def oRMs (p : Rep × Msg) : AV := oHd (handP p.1 p.2)
theorem qRMs {R : Type} {r : Rep} {m : Msg} {k : Rep × Msg → Option R} (h : HandOk r m) (h' : Kinds m) : gC dRMs pRMs eRMs [.agg (encRep r), .agg (encMsg m)] k = k (r, m) := gC_eq (r, m) (Prod.ext (dec_encRep r) (dec_encMsg m)) ⟨h, h'⟩ (.refl _)
theorem handle_con (p : Rep × Msg) (h : pRMs p) : Contract PG F_chain_Handle (eRMs p) [] (oRMs p) [] := by
  obtain ⟨h1, h2⟩ := h
  rcases h2 with k | k | k | k | k | k
  · exact h8_con h1 k
  · exact h10_con h1 k
  · exact h11_con h1 k
  · exact h12_con h1 k
  · exact h13_con h1 k
  · exact h14_con h1 k
noncomputable def kHandle : Known := .spec F_chain_Handle dRMs pRMs eRMs oRMs
theorem kHandle_ok : kHandle.Ok PG := Known.spec_ok handle_con
end Go.Wk
end

section
/- The reference's Handle: freezing, words. -/
open Go Go.AM Go.Md
namespace Go.Wk
set_option maxRecDepth 100000
set_option maxHeartbeats 400000
noncomputable def kns34 : List Known := [kRLive, kRIndex, kRAgain, kRAcks, kRNum, kRPush, kRLift, kRAhead, kRLater, kRMsg, kRMake]
theorem kns34_ok : ∀ k ∈ kns34, k.Ok PG := ak kRLive_ok (ak kRIndex_ok (ak kRAgain_ok (ak kRAcks_ok (ak kRNum_ok (ak kRPush_ok (ak kRLift_ok (ak kRAhead_ok (ak kRLater_ok (ak kRMsg_ok (ak kRMake_ok ank))))))))))
noncomputable def env34 : Env := envO kns34
theorem con34 {n f : Nat} {xs : List AV} {r : AV} (e : callT env34 n f xs = some r) : Contract PG f xs [] r [] := con_of (md := fun _ => none) kns34_ok e
/-- what is done behind the kinds that may begin an epoch -/
noncomputable def restK (r : Rep) (m : Msg) (K12 : Int → Option AV → Option AV) (K : Int → Int → Option AV) : Option AV :=
  bif !decide (m.epoch = r.view.epoch) then nilA r else gC dRep1 pRep1 eRep1 [.agg (encRep r)] fun y => bif !liveP y then nilA r else
  gC decLM preLM encLM [encMembers r.view.chain, .agg (encMember (who m))] fun i => K12 (idx i.1 i.2) <| bif !decide (r.view.phase = 3) then nilA r else bif decide (idx i.1 i.2 < 0) then nilA r else
  gC decLM preLM encLM [encMembers r.view.chain, .agg (encMember r.self)] fun s => K (idx i.1 i.2) (idx s.1 s.2)
def k12 (_ : Int) (k : Option AV) : Option AV := k
/-- the reference's beginning: A where the epoch is a later one, B where it is not -/
noncomputable def refK (r : Rep) (m : Msg) (A B : Int → Option AV) : Option AV := gt r m (nilA r) <| bif decide (r.view.epoch < m.epoch) then gC decLM preLM encLM [encMembers m.chain, .agg (encMember r.self)] fun z => A (idx z.1 z.2)
  else gC decLM preLM encLM [encMembers m.chain, .agg (encMember r.self)] fun z => B (idx z.1 z.2)
theorem rh8 (r : Rep) (m : Msg) : callT env34 9 F_lockgateref18_Handle [.agg (encRep r), .agg (encMsg (inKd m 8))] =
    refK r m (fun _ => bif decide (r.frozen ≤ m.epoch) then some (.tup [.agg (encRep { r with frozen := m.epoch }), .trl 31 [(toN { r with view := { r.view with epoch := m.epoch } } ⟨m.src, 0⟩ 9).set 10 (.int .i64 r.view.epoch) |>.set 12 (.bool (!decide (r.view.phase = 0))) |>.set 16 (eV r.tail.last)]])
      else restK r m k12 fun _ _ => nilA r) (fun _ => restK r m k12 fun _ _ => nilA r) := by kernel_rfl
noncomputable def rackR (r : Rep) (m : Msg) : Option AV := gC dV2 V2 eV2 [eV r.got, eV m.ver] fun a => gC dV2 V2 eV2 [eV r.tail.last, eV (vmax a.1 a.2)] fun b =>
  bif !vlt b.1 b.2 then gC dRep1 pChain1 eRep1 [.agg (encRep { r with got := vmax a.1 a.2 })] fun y => some (.tup [.agg (encRep { r with got := vmax a.1 a.2 }), encMsgs (acksP y)])
  else gC dRep1 pChain1 eRep1 [.agg (encRep r)] fun y => some (.tup [.agg (encRep r), encMsgs (acksP y)])
noncomputable def rackN (r : Rep) (m : Msg) : Option AV := restK r m k12 fun i s => bif decide (0 ≤ s) then bif decide (i = IntKind.i64.wrap (s + 1)) then rackR r m else nilA r else nilA r
theorem rh14 (r : Rep) (m : Msg) : callT env34 9 F_lockgateref18_Handle [.agg (encRep r), .agg (encMsg (inKd m 14))] = refK r m (fun _ => rackN r m) (fun _ => rackN r m) := by kernel_rfl

theorem refK_eq {r : Rep} {m : Msg} {A B : Int → Option AV} (h : m.chain.length ≤ LB) : refK r m A B = bif toMe r m then (bif decide (r.view.epoch < m.epoch) then A (idx m.chain r.self) else B (idx m.chain r.self)) else nilA r := by
  unfold refK
  rw [gt_eq, qLM h, qLM h]
theorem restK_eq {r : Rep} {m : Msg} {K : Int → Int → Option AV} (h : r.view.chain.length ≤ LB) : restK r m k12 K = bif decide (m.epoch = r.view.epoch) && (worksP r && decide (0 ≤ idx r.view.chain (who m))) then K (idx r.view.chain (who m)) (idx r.view.chain r.self) else nilA r := by
  unfold restK k12
  rw [qRep1 (P := pRep1) trivial, qLM h]
  have e : (fun i : LM => bif !decide (r.view.phase = 3) then nilA r else bif decide (idx i.1 i.2 < 0) then nilA r else gC decLM preLM encLM [encMembers r.view.chain, .agg (encMember r.self)] fun s => K (idx i.1 i.2) (idx s.1 s.2)) =
      fun i : LM => bif !decide (r.view.phase = 3) then nilA r else bif decide (idx i.1 i.2 < 0) then nilA r else K (idx i.1 i.2) (idx r.view.chain r.self) := by
    funext i; rw [qLM h]
  rw [qLM h]
  unfold worksP
  by_cases hi : 0 ≤ idx r.view.chain (who m)
  · rw [decide_eq_true hi]
    simp only [decide_eq_false (by omega : ¬ idx r.view.chain (who m) < 0)]
    cases decide (m.epoch = r.view.epoch) <;> cases liveP r <;> cases decide (r.view.phase = 3) <;> rfl
  · rw [decide_eq_false hi]
    simp only [decide_eq_true (by omega : idx r.view.chain (who m) < 0)]
    cases decide (m.epoch = r.view.epoch) <;> cases liveP r <;> cases decide (r.view.phase = 3) <;> rfl
theorem restK_nil {r : Rep} {m : Msg} (h : r.view.chain.length ≤ LB) : restK r m k12 (fun _ _ => nilA r) = nilA r := by
  rw [restK_eq h]
  cases decide (m.epoch = r.view.epoch) && (worksP r && decide (0 ≤ idx r.view.chain (who m))) <;> rfl
theorem side_iff {l : List Member} {x w : Member} {d : Int} (hn : l.Nodup) (hd : d = 1 ∨ d = -1) : sideP l x d = some w ↔ 0 ≤ idx l w ∧ 0 ≤ idx l x ∧ idx l w = idx l x + d := by
  constructor
  · intro h
    obtain ⟨h1, h2, h3⟩ := sideP_some hn h
    exact ⟨idx_mem.2 h2, idx_mem.2 h1, h3⟩
  · rintro ⟨h1, h2, h3⟩
    obtain ⟨k, k1, k2⟩ := idx_at (idx_mem.1 h1)
    have hb := (idx_le l w).2
    unfold sideP
    rw [if_neg (by omega)]
    congr 1
    have : (idx l x + d).toNat = k := by omega
    rw [this]
    simp [List.getD, k2]
theorem nextG_iff {r : Rep} {m : Msg} {d : Int} (hn : r.view.chain.Nodup) (hd : d = 1 ∨ d = -1) : nextG r m d = (decide (m.epoch = r.view.epoch) && (worksP r && decide (0 ≤ idx r.view.chain (who m))) && (decide (0 ≤ idx r.view.chain r.self) && decide (idx r.view.chain (who m) = idx r.view.chain r.self + d))) := by
  unfold nextG
  have e : decide (sideP r.view.chain r.self d = some (who m)) = (decide (0 ≤ idx r.view.chain (who m)) && (decide (0 ≤ idx r.view.chain r.self) && decide (idx r.view.chain (who m) = idx r.view.chain r.self + d))) := by
    rw [← Bool.decide_and, ← Bool.decide_and]
    exact decide_eq_decide.2 (side_iff hn hd)
  rw [e]
  cases worksP r <;> cases decide (m.epoch = r.view.epoch) <;> cases decide (0 ≤ idx r.view.chain (who m)) <;> rfl
theorem rh8_con {r : Rep} {m : Msg} (h : HandOk r m) (hk : m.kind = 8) : Contract PG F_lockgateref18_Handle [.agg (encRep r), .agg (encMsg m)] [] (oHd (handP r m)) [] := by
  obtain ⟨E, N, hN, hEN, hr, hm⟩ := h.ex
  have hch : m.chain.length ≤ LB := by have := hm.chain.1; unfold LB; omega
  have k := rh8 r m
  rw [inKd_eq hk, refK_eq hch, restK_nil (hr.ag hN).short.1] at k
  have hP : handP r m = bif toMe r m then freezeP r m else (r, []) := by unfold handP handK; rw [hk]; rfl
  rw [hP]
  cases ht : toMe r m with
  | false => rw [ht] at k; exact (con34 k).res out_nil
  | true =>
    rw [ht] at k
    simp only [cond_true] at k ⊢
    unfold freezeP aboveP
    cases h1 : decide (r.view.epoch < m.epoch) with
    | false => rw [h1] at k; exact (con34 k).res out_nil
    | true =>
      rw [h1] at k
      simp only [cond_true, Bool.true_and] at k ⊢
      cases h2 : decide (r.frozen ≤ m.epoch) with
      | false => rw [h2] at k; exact (con34 k).res out_nil
      | true =>
        rw [h2] at k
        refine (con34 k).res (.tup (.cons (.refl _) (.cons ?_ .nil)))
        exact SubV.trans (trl_map (X := Unit) (f := fun _ => _) (g := fun _ => encMsg (frozeM r m)) (fun _ => subC_all (by repeat' (first | exact trivial | exact nilsL | exact SubV.refl _ | refine ⟨?_, ?_⟩))) [()]) (SubV.trl_of [frozeM r m] rfl)
theorem rh14_con {r : Rep} {m : Msg} (h : HandOk r m) (hk : m.kind = 14) : Contract PG F_lockgateref18_Handle [.agg (encRep r), .agg (encMsg m)] [] (oHd (handP r m)) [] := by
  obtain ⟨E, N, hN, hEN, hr, hm⟩ := h.ex
  have hch : m.chain.length ≤ LB := by have := hm.chain.1; unfold LB; omega
  have hc1 := (hr.ag hN).short.1
  have k := rh14 r m
  rw [inKd_eq hk, refK_eq hch] at k
  have hP : handP r m = bif toMe r m then ackP r m else (r, []) := by unfold handP handK; rw [hk]; rfl
  rw [hP]
  have e2 : (bif decide (r.view.epoch < m.epoch) then rackN r m else rackN r m) = rackN r m := by cases decide (r.view.epoch < m.epoch) <;> rfl
  rw [e2] at k
  cases ht : toMe r m with
  | false => rw [ht] at k; exact (con34 k).res out_nil
  | true =>
    rw [ht] at k
    simp only [cond_true] at k ⊢
    have hix := idx_le r.view.chain r.self
    have hcl := hr.chain.1
    have hN' : rackN r m = bif nextG r m 1 then rackR r m else nilA r := by
      unfold rackN
      rw [restK_eq hc1, nextG_iff hr.chain.2.1 (.inl rfl), wrap64 (by omega : -9223372036854775808 ≤ idx r.view.chain r.self + 1 ∧ idx r.view.chain r.self + 1 ≤ 9223372036854775807)]
      cases decide (m.epoch = r.view.epoch) && (worksP r && decide (0 ≤ idx r.view.chain (who m))) <;> cases decide (0 ≤ idx r.view.chain r.self) <;> cases decide (idx r.view.chain (who m) = idx r.view.chain r.self + 1) <;> rfl
    rw [hN'] at k
    unfold ackP
    cases hg : nextG r m 1 with
    | false => rw [hg] at k; exact (con34 k).res out_nil
    | true =>
      rw [hg] at k
      simp only [cond_true] at k ⊢
      have hv1 := hr.got.num hN
      have hv2 := hm.ver.num hN
      have hv3 := hr.tail.la.num hN
      unfold rackR at k
      have q1 : ∀ K : Ver × Ver → Option AV, gC dV2 V2 eV2 [eV r.got, eV m.ver] K = K (r.got, m.ver) := fun K => qV2 hv1 hv2
      have q2 : ∀ K : Ver × Ver → Option AV, gC dV2 V2 eV2 [eV r.tail.last, eV (vmax r.got m.ver)] K = K (r.tail.last, vmax r.got m.ver) := fun K => qV2 hv3 (hv1.max hv2)
      rw [q1, q2] at k
      have hgl := hr.gle
      unfold ackR
      -- both say the same of what is got
      have hcmp : vlt r.tail.last (vmax r.got m.ver) = vlt r.tail.last m.ver := by
        cases hv : vlt r.tail.last m.ver with
        | true =>
          rw [vlt_iff] at hv ⊢
          have := vmax_r r.got m.ver
          rw [vle_iff] at this; omega
        | false => exact vmax_le hgl hv
      rw [hcmp] at k
      cases hv : vlt r.tail.last m.ver with
      | true =>
        rw [hv] at k
        simp only [Bool.not_true, cond_false, cond_true] at k ⊢
        rw [qRep1 (P := pChain1) hc1] at k
        exact con34 k
      | false =>
        rw [hv] at k
        simp only [Bool.not_false, cond_false, cond_true] at k ⊢
        rw [qRep1 (P := pChain1) (r := { r with got := vmax r.got m.ver }) hc1] at k
        exact con34 k
end Go.Wk
end

section
/- The reference's Handle: installing, activating. -/
open Go Go.AM Go.Md
namespace Go.Wk
set_option maxRecDepth 100000
set_option maxHeartbeats 400000
def sameSh (r : Rep) (m : Msg) : Msg := { m with shard := r.shard }
theorem sameSh_eq {r : Rep} {m : Msg} (h : toMe r m = true) : sameSh r m = m := by
  have : m.shard = r.shard := of_decide_eq_true (and_true' (and_true' h).2).2
  unfold sameSh; cases m; simp only at this ⊢; rw [this]
noncomputable def restN (r : Rep) (m : Msg) : Option AV := restK r m k12 fun _ _ => nilA r
noncomputable def roldK (r : Rep) (m : Msg) : Option AV := gC dRep1 pRep1 eRep1 [.agg (encRep r)] fun y => bif liveP y then bif decide (m.epoch = r.view.epoch) then
  gC dRMsg pTo eRMsg [.agg (encRep r), .int .i64 12, .agg (encMember (who m))] fun z => some (.tup [.agg (encRep r), .trl 31 [encMsg (toM z.1 z.2.1 z.2.2)]]) else nilA r else nilA r
noncomputable def rnewK (r : Rep) (m : Msg) (cs : List AV) : Option AV := gC dRep1 pRep1 eRep1 [.agg cs] fun y => bif liveP y then bif decide (m.epoch = m.epoch) then
  gC dRMsg pTo eRMsg [.agg cs, .int .i64 12, .agg (encMember (who m))] fun z => some (.tup [.agg cs, .trl 31 [encMsg (toM z.1 z.2.1 z.2.2)]]) else some (.tup [.agg cs, .nils]) else some (.tup [.agg cs, .nils])
def insC (r : Rep) (m : Msg) : List AV := repN r m m.chain 3 m.image.floor m.image.last (encEntrys m.image.log) (encSeens m.image.seen) m.image.last .nils
theorem rh11 (r : Rep) (m : Msg) : callT env34 9 F_lockgateref18_Handle [.agg (encRep r), .agg (encMsg (inKd m 11))] =
    refK r m (fun at' => bif decide (0 < at') then (bif decide (r.frozen ≤ m.epoch) then rnewK r m (insC r (sameSh r m)) else roldK r m) else restN r m) (fun at' => bif decide (0 < at') then roldK r m else restN r m) := by kernel_rfl
noncomputable def ractK (r : Rep) (m : Msg) (l : List Member) (ph : Int) (sy : AV) : Option AV :=
  bif m.fresh then gC dI2 pI2 eI2 [.int .i64 m.epoch, .int .i64 0] fun b => agK (repN r (sameSh r m) l ph (vr b.1 b.2) (vr b.1 b.2) .nils .nils (vr b.1 b.2) sy)
  else agK (repN r (sameSh r m) l ph r.tail.floor r.tail.last (encEntrys r.tail.log) (encSeens r.seen) r.tail.last sy)
noncomputable def rwhenK (r : Rep) (m : Msg) (K : Option AV) : Int → Option AV := fun at' => bif decide (r.frozen ≤ m.epoch) then bif decide (at' = 0) then bif m.fresh then K else bif !decide (r.view.phase = 0) then bif decide (m.epoch = r.frozen) then K else restN r m else restN r m else restN r m else restN r m
theorem rh10_1 (r : Rep) (m : Msg) (a : Member) : callT env34 9 F_lockgateref18_Handle [.agg (encRep r), .agg (encMsg (inAc m [a]))] =
    refK r (inAc m [a]) (rwhenK r (inAc m [a]) (ractK r (inAc m [a]) [a] 3 (.trl 1 [[.bool true]]))) (fun _ => restN r (inAc m [a])) := by kernel_rfl
theorem rh10_2 (r : Rep) (m : Msg) (a b : Member) : callT env34 9 F_lockgateref18_Handle [.agg (encRep r), .agg (encMsg (inAc m [a, b]))] =
    refK r (inAc m [a, b]) (rwhenK r (inAc m [a, b]) (ractK r (inAc m [a, b]) [a, b] 2 (.trl 1 [[.bool true], [.bool false]]))) (fun _ => restN r (inAc m [a, b])) := by kernel_rfl
theorem rh10_3 (r : Rep) (m : Msg) (a b c : Member) : callT env34 9 F_lockgateref18_Handle [.agg (encRep r), .agg (encMsg (inAc m [a, b, c]))] =
    refK r (inAc m [a, b, c]) (rwhenK r (inAc m [a, b, c]) (ractK r (inAc m [a, b, c]) [a, b, c] 2 (.trl 1 [[.bool true], [.bool false], [.bool false]]))) (fun _ => restN r (inAc m [a, b, c])) := by kernel_rfl
theorem rh10_4 (r : Rep) (m : Msg) (a b c d : Member) : callT env34 9 F_lockgateref18_Handle [.agg (encRep r), .agg (encMsg (inAc m [a, b, c, d]))] =
    refK r (inAc m [a, b, c, d]) (rwhenK r (inAc m [a, b, c, d]) (ractK r (inAc m [a, b, c, d]) [a, b, c, d] 2 (.trl 1 [[.bool true], [.bool false], [.bool false], [.bool false]]))) (fun _ => restN r (inAc m [a, b, c, d])) := by kernel_rfl
end Go.Wk
end

section
/- The reference's Handle: installing, activating, as contracts. -/
open Go Go.AM Go.Md
namespace Go.Wk
set_option maxRecDepth 100000
set_option maxHeartbeats 400000
theorem restN_eq {r : Rep} {m : Msg} (h : r.view.chain.length ≤ LB) : restN r m = nilA r := restK_nil h
theorem ractK_eq {r : Rep} {m : Msg} {l : List Member} {ph : Int} {sy : AV} (ht : toMe r m = true) (hl : shortL l) : ractK r m l ph sy = actK r m l ph sy := by
  unfold ractK actK
  rw [qMems hl, sameSh_eq ht]
theorem rwhenK_eq {r : Rep} {m : Msg} {K : Option AV} (h : r.view.chain.length ≤ LB) : (bif decide (r.view.epoch < m.epoch) then rwhenK r m K (idx m.chain r.self) else restN r m) = bif actG r m then K else nilA r := by
  unfold rwhenK actG aboveP
  rw [restN_eq h, ← idx_first]
  cases decide (r.view.epoch < m.epoch) <;> cases decide (r.frozen ≤ m.epoch) <;> cases decide (idx m.chain r.self = 0) <;> cases m.fresh <;> cases decide (r.view.phase = 0) <;> cases decide (m.epoch = r.frozen) <;> rfl
theorem rh10_0 (r : Rep) (m : Msg) : callT env34 9 F_lockgateref18_Handle [.agg (encRep r), .agg (encMsg (inAc m []))] =
    refK r (inAc m []) (rwhenK r (inAc m []) (bif m.fresh then gC dI2 pI2 eI2 [.int .i64 m.epoch, .int .i64 0] fun _ => none else none)) (fun _ => restN r (inAc m [])) := by kernel_rfl
theorem rh10_con {r : Rep} {m : Msg} (h : HandOk r m) (hk : m.kind = 10) : Contract PG F_lockgateref18_Handle [.agg (encRep r), .agg (encMsg m)] [] (oHd (handP r m)) [] := by
  obtain ⟨E, N, hN, hEN, hr, hm⟩ := h.ex
  have hep0 := hm.ep0
  have hc1 := (hr.ag hN).short.1
  have hch : m.chain.length ≤ LB := by have := hm.chain.1; unfold LB; omega
  have hP : handP r m = bif toMe r m then actP r m else (r, []) := by unfold handP handK; rw [hk]; rfl
  rw [hP]
  have hgen : ∀ {K : Option AV}, callT env34 9 F_lockgateref18_Handle [.agg (encRep r), .agg (encMsg m)] = refK r m (rwhenK r m K) (fun _ => restN r m) →
      (toMe r m = true → actG r m = true → ∃ v, K = some v ∧ SubV v (oHd (actR r m, againP (actR r m)))) → Contract PG F_lockgateref18_Handle [.agg (encRep r), .agg (encMsg m)] [] (oHd (bif toMe r m then actP r m else (r, []))) [] := by
    intro K k h1
    rw [refK_eq hch, rwhenK_eq hc1] at k
    cases ht : toMe r m with
    | false => rw [ht] at k; exact (con34 k).res out_nil
    | true =>
      rw [ht] at k
      simp only [cond_true] at k ⊢
      unfold actP
      cases hg : actG r m with
      | false => rw [hg] at k; exact (con34 k).res out_nil
      | true =>
        rw [hg] at k
        obtain ⟨v, v1, v2⟩ := h1 ht hg
        exact (con34 (k.trans v1)).res v2
  have hact : ∀ {l : List Member} {sy : AV} {ph : Int}, m.chain = l → ph = (bif decide (m.chain.length = 1) then 3 else 2) → decL decBool sy = true :: List.replicate (l.length - 1) false → SubV sy (encBools (true :: List.replicate (l.length - 1) false)) →
      callT env34 9 F_lockgateref18_Handle [.agg (encRep r), .agg (encMsg m)] = refK r m (rwhenK r m (ractK r m l ph sy)) (fun _ => restN r m) → Contract PG F_lockgateref18_Handle [.agg (encRep r), .agg (encMsg m)] [] (oHd (bif toMe r m then actP r m else (r, []))) [] := by
    intro l sy ph hml hph hd hs k
    refine hgen k fun ht hg => ?_
    have hf : isFirst m.chain r.self = true := by unfold actG at hg; exact (and_true' (and_true' hg).2).1
    have hl : shortL l := by have := hm.chain.1; rw [hml] at this; unfold shortL LB; omega
    rw [ractK_eq ht hl, hph]
    exact actK_eq hl hml hep0 hd hs (by rw [hml]) ((actR_is hr hm hEN hf).ag hN)
  have hme := inAc_eq hk
  have hlen := hm.chain.1
  cases hc : m.chain with
  | nil =>
    have k := rh10_0 r m
    rw [← hc, hme] at k
    refine hgen k fun _ hg => ?_
    have hf : isFirst m.chain r.self = true := by unfold actG at hg; exact (and_true' (and_true' hg).2).1
    rw [hc] at hf; cases hf
  | cons a l1 => cases l1 with
    | nil =>
      have k := rh10_1 r m a
      rw [← hc, hme] at k
      rw [hc] at k
      exact hact hc (by rw [hc]; rfl) rfl (SubV.trl_of [true] rfl) k
    | cons b l2 => cases l2 with
      | nil =>
        have k := rh10_2 r m a b
        rw [← hc, hme] at k
        rw [hc] at k
        exact hact hc (by rw [hc]; rfl) rfl (SubV.trl_of [true, false] rfl) k
      | cons c l3 => cases l3 with
        | nil =>
          have k := rh10_3 r m a b c
          rw [← hc, hme] at k
          rw [hc] at k
          exact hact hc (by rw [hc]; rfl) rfl (SubV.trl_of [true, false, false] rfl) k
        | cons d l4 =>
          have : l4 = [] := by
            rw [hc] at hlen
            cases l4 with
            | nil => rfl
            | cons x y => simp at hlen
          subst this
          have k := rh10_4 r m a b c d
          rw [← hc, hme] at k
          rw [hc] at k
          exact hact hc (by rw [hc]; rfl) rfl (SubV.trl_of [true, false, false, false] rfl) k
theorem rold_out (r : Rep) (m : Msg) : ∃ v, roldK r m = some v ∧ SubV v (oHd (r, bif liveP r && decide (m.epoch = r.view.epoch) then [toM r (who m) 12] else [])) := by
  unfold roldK
  rw [qRep1 (P := pRep1) trivial, qRMsg]
  cases liveP r with
  | false => exact ⟨_, rfl, out_nil⟩
  | true =>
    cases decide (m.epoch = r.view.epoch) with
    | false => exact ⟨_, rfl, out_nil⟩
    | true => exact ⟨_, rfl, .tup (.cons (.refl _) (.cons (SubV.trl_of [_] rfl) .nil))⟩
theorem rnew_out {r : Rep} {m : Msg} {cs : List AV} {R' : Rep} (hd : decRep cs = R') (hs : SubC cs (encRep R')) (he : m.epoch = R'.view.epoch) : ∃ v, rnewK r m cs = some v ∧ SubV v (oHd (R', bif liveP R' && decide (m.epoch = R'.view.epoch) then [toM R' (who m) 12] else [])) := by
  unfold rnewK
  have q1 : ∀ K : Rep → Option AV, gC dRep1 pRep1 eRep1 [.agg cs] K = K R' := fun K => gC_eq (dec := dRep1) (pre := pRep1) (enc := eRep1) R' hd trivial (.cons (.agg hs) .nil)
  have q2 : ∀ K : RMI → Option AV, gC dRMsg pTo eRMsg [.agg cs, .int .i64 12, .agg (encMember (who m))] K = K (R', who m, 12) := fun K => gC_eq (dec := dRMsg) (pre := pTo) (enc := eRMsg) (R', who m, 12) (Prod.ext hd rfl) trivial (.cons (.agg hs) (.refl _))
  rw [q1, q2, decide_eq_true rfl, decide_eq_true he]
  cases liveP R' with
  | false => exact ⟨_, rfl, .tup (.cons (.agg hs) (.cons nilsL .nil))⟩
  | true => exact ⟨_, rfl, .tup (.cons (.agg hs) (.cons (SubV.trl_of [_] rfl) .nil))⟩
theorem rh11_con {r : Rep} {m : Msg} (h : HandOk r m) (hk : m.kind = 11) : Contract PG F_lockgateref18_Handle [.agg (encRep r), .agg (encMsg m)] [] (oHd (handP r m)) [] := by
  obtain ⟨E, N, hN, hEN, hr, hm⟩ := h.ex
  have hc1 := (hr.ag hN).short.1
  have hch : m.chain.length ≤ LB := by have := hm.chain.1; unfold LB; omega
  have hP : handP r m = bif toMe r m then insP r m else (r, []) := by unfold handP handK; rw [hk]; rfl
  rw [hP]
  have k := rh11 r m
  rw [inKd_eq hk, refK_eq hch, restN_eq hc1] at k
  cases ht : toMe r m with
  | false => rw [ht] at k; exact (con34 k).res out_nil
  | true =>
    rw [ht, sameSh_eq ht] at k
    simp only [cond_true] at k ⊢
    unfold insP
    cases hi : decide (0 < idx m.chain r.self) with
    | false =>
      rw [hi] at k
      have e : (bif decide (r.view.epoch < m.epoch) then (bif false then (bif decide (r.frozen ≤ m.epoch) then rnewK r m (insC r m) else roldK r m) else nilA r) else (bif false then roldK r m else nilA r)) = nilA r := by cases decide (r.view.epoch < m.epoch) <;> rfl
      exact (con34 (k.trans e)).res out_nil
    | true =>
      rw [hi] at k
      have e : (bif decide (r.view.epoch < m.epoch) then (bif true then (bif decide (r.frozen ≤ m.epoch) then rnewK r m (insC r m) else roldK r m) else nilA r) else (bif true then roldK r m else nilA r)) = bif aboveP r m then rnewK r m (insC r m) else roldK r m := by
        unfold aboveP; cases decide (r.view.epoch < m.epoch) <;> cases decide (r.frozen ≤ m.epoch) <;> rfl
      have k := k.trans e
      simp only [cond_true]
      unfold insR
      cases ha : aboveP r m with
      | false =>
        rw [ha] at k
        obtain ⟨v, v1, v2⟩ := rold_out r m
        exact (con34 (k.trans v1)).res v2
      | true =>
        rw [ha] at k
        have hd : decRep (insC r m) = { r with view := ⟨m.shard, m.epoch, m.gen, 3, m.chain⟩, tail := ⟨m.image.floor, m.image.last, m.image.log⟩, seen := m.image.seen, got := m.image.last, synced := [] } := by
          show (⟨r.shard, ⟨r.self.node, r.self.boot⟩, ⟨m.shard, m.epoch, m.gen, 3, decL decMember (encMembers m.chain)⟩, r.frozen, ⟨m.image.floor, m.image.last, decL decEntry (encEntrys m.image.log)⟩, decL decSeen (encSeens m.image.seen), m.image.last, []⟩ : Rep) = _
          rw [decMembers, decEntrys, decSeens]
        have hs : SubC (insC r m) (encRep { r with view := ⟨m.shard, m.epoch, m.gen, 3, m.chain⟩, tail := ⟨m.image.floor, m.image.last, m.image.log⟩, seen := m.image.seen, got := m.image.last, synced := [] }) :=
          subC_all (by repeat' (first | exact trivial | exact nilsL | exact SubV.refl _ | refine ⟨?_, ?_⟩))
        obtain ⟨v, v1, v2⟩ := rnew_out (r := r) (m := m) hd hs rfl
        exact (con34 (k.trans v1)).res v2
end Go.Wk
end

section
/- The reference's Handle: forwards. -/
open Go Go.AM Go.Md
namespace Go.Wk
set_option maxRecDepth 100000
set_option maxHeartbeats 400000
def SR13 (r : Rep) (m : Msg) (i : Int) : St := { fr := [(2, .ptr 0 0 0), (3, .ptr 1 0 0), (4, .ptr 2 0 0), (15, .int .i64 i)], hp := [.arr true 15 [encRep r], .arr true 31 [encMsg (inKd m 13)], .arr true 15 [z15]] }
noncomputable def rfwdN (N : Nat) (r : Rep) (m : Msg) : Option AV := restK r m k12 fun i s => bif decide (0 ≤ s) then bif decide (i = IntKind.i64.wrap (s - 1)) then LP env34 N 0 F_lockgateref18_Handle snK 2 [] N (SR13 r m 0) else nilA r else nilA r
theorem rh13 (N : Nat) (r : Rep) (m : Msg) : callT env34 (N + 1) F_lockgateref18_Handle [.agg (encRep r), .agg (encMsg (inKd m 13))] = refK r m (fun _ => rfwdN N r m) (fun _ => rfwdN N r m) := by kernel_rfl
noncomputable def rendK (r : Rep) (m : Msg) : Option AV := gC dV2 V2 eV2 [eV r.tail.last, eV m.floor] fun y => bif !vlt y.1 y.2 then gC dTV pTV eTV [.agg (encTail r.tail), eV m.floor] fun z =>
    gC dRep1 RepAg eRep1 [.agg (encRep { r with tail := liftP z.1 z.2 })] fun w => some (.tup [.agg (encRep { r with tail := liftP z.1 z.2 }), encMsgs (againP w)])
  else gC dRep1 RepAg eRep1 [.agg (encRep r)] fun w => some (.tup [.agg (encRep r), encMsgs (againP w)])
noncomputable def rtakK (l : List Entry) (r : Rep) (i : Int) (E : Option AV) (K : Rep → Int → Option AV) : Option AV :=
  bif decide (i < (l.length : Int)) then rg i l.length <|
    gC dV1 VNum eV1 [eV (l.getD i.toNat default).ver] fun y0 => gC dV1 VNum eV1 [eV r.tail.last] fun y1 =>
    bif decide ((nu y0 : Int) = IntKind.i64.wrap ((nu y1 : Int) + 1)) then rg i l.length <| gC dRE pRE eRE [.agg (encRep r), .agg (encEntry (l.getD i.toNat default))] fun y2 => K (pushP y2.1 y2.2).1 (IntKind.i64.wrap (i + 1))
    else K r (IntKind.i64.wrap (i + 1))
  else E
theorem rh13_step (N k : Nat) (r : Rep) (m : Msg) (i : Int) : LP env34 N 0 F_lockgateref18_Handle snK 2 [] (k + 1) (SR13 r m i) = rtakK m.entries r i (rendK r m) fun r i => LP env34 N 0 F_lockgateref18_Handle snK 2 [] k (SR13 r m i) := by kernel_rfl
theorem rtakK_eq {l : List Entry} {r : Rep} {i : Nat} {E : Option AV} {K : Rep → Int → Option AV} (hi : i ≤ l.length) : rtakK l r (i : Int) E K = bif decide (i = l.length) then E else takK l r (i : Int) K := by
  unfold rtakK takK
  by_cases e : i = l.length
  · subst e
    rw [decide_eq_false (by omega), decide_eq_true rfl]; rfl
  · rw [decide_eq_true (by omega), decide_eq_false e, decide_eq_false (by omega)]; rfl
/-- a step of the loop, whatever stands at its end -/
theorem takK_gen {l : List Entry} {K : Rep → Int → Option AV} {r : Rep} {i : Nat} (h : TakeOk r (l.drop i)) (hl : l.length ≤ 10000) (hi : i < l.length) : ∃ r', takK l r (i : Int) K = K r' ((i + 1 : Nat) : Int) ∧ TakeOk r' (l.drop (i + 1)) ∧ takeP r (l.drop i) = takeP r' (l.drop (i + 1)) := by
  unfold takK
  rw [decide_eq_false (by omega), cond_false, rg_eq hi, Int.toNat_natCast]
  rw [drop_cons (z := default) hi] at h ⊢
  obtain ⟨n1, n2⟩ := h.next
  have hpush : PushOk r (l.getD i default) := h.push
  have hver : VNum (l.getD i default).ver := (h.ent _ (List.mem_cons_self)).1
  have q0 : ∀ k : Ver → Option AV, gC dV1 VNum eV1 [eV (l.getD i default).ver] k = k (l.getD i default).ver := fun k => qV1 hver
  have q1 : ∀ k : Ver → Option AV, gC dV1 VNum eV1 [eV r.tail.last] k = k r.tail.last := fun k => qV1 h.last
  rw [q0, q1, rg_eq hi, qRE (r := r) (e := l.getD i default) (P := pRE) hpush]
  have hnl := h.last.lt.2
  have hw : IntKind.i64.wrap ((nu r.tail.last : Int) + 1) = ((nu r.tail.last + 1 : Nat) : Int) := wrap64 (by omega)
  rw [hw, wrapS (by omega), dec_int]
  have e : takeP r (l.getD i default :: l.drop (i + 1)) = takeP (bif decide (nu (l.getD i default).ver = nu r.tail.last + 1) then (pushP r (l.getD i default)).1 else r) (l.drop (i + 1)) := rfl
  rw [e]
  cases decide (nu (l.getD i default).ver = nu r.tail.last + 1) with
  | true => exact ⟨_, rfl, n2, rfl⟩
  | false => exact ⟨_, rfl, n1, rfl⟩
theorem rtake_run {N : Nat} {m : Msg} : ∀ d i k r, i + d = m.entries.length → d < k → m.entries.length ≤ 10000 → TakeOk r (m.entries.drop i) → LP env34 N 0 F_lockgateref18_Handle snK 2 [] k (SR13 r m (i : Nat)) = rendK (takeP r (m.entries.drop i)) m := by
  intro d
  induction d with
  | zero =>
    intro i k r hi hk hl h
    obtain ⟨k, rfl⟩ : ∃ j, k = j + 1 := ⟨k - 1, by omega⟩
    rw [rh13_step, rtakK_eq (by omega), decide_eq_true (by omega), cond_true, List.drop_eq_nil_of_le (by omega)]
    rfl
  | succ d ih =>
    intro i k r hi hk hl h
    obtain ⟨k, rfl⟩ : ∃ j, k = j + 1 := ⟨k - 1, by omega⟩
    rw [rh13_step, rtakK_eq (by omega), decide_eq_false (by omega), cond_false]
    obtain ⟨r', h1, h2, h3⟩ := takK_gen (K := fun r i => LP env34 N 0 F_lockgateref18_Handle snK 2 [] k (SR13 r m i)) h hl (by omega)
    rw [h1, h3]
    exact ih (i + 1) k r' (by omega) (by omega) hl h2
theorem nextK_eq {r : Rep} {m : Msg} {K : Option AV} (hc1 : r.view.chain.length ≤ LB) (hn : r.view.chain.Nodup) (hcl : r.view.chain.length ≤ 4) :
    restK r m k12 (fun i s => bif decide (0 ≤ s) then bif decide (i = IntKind.i64.wrap (s - 1)) then K else nilA r else nilA r) = bif nextG r m (-1) then K else nilA r := by
  have hix := idx_le r.view.chain r.self
  rw [restK_eq hc1, nextG_iff hn (.inr rfl), wrap64 (by omega : -9223372036854775808 ≤ idx r.view.chain r.self - 1 ∧ idx r.view.chain r.self - 1 ≤ 9223372036854775807)]
  have : idx r.view.chain r.self - 1 = idx r.view.chain r.self + -1 := by omega
  rw [this]
  cases decide (m.epoch = r.view.epoch) && (worksP r && decide (0 ≤ idx r.view.chain (who m))) <;> cases decide (0 ≤ idx r.view.chain r.self) <;> cases decide (idx r.view.chain (who m) = idx r.view.chain r.self + -1) <;> rfl
theorem rfwd_eq {N : Nat} {r : Rep} {m : Msg} (hc1 : r.view.chain.length ≤ LB) (hn : r.view.chain.Nodup) (hcl : r.view.chain.length ≤ 4) :
    rfwdN N r m = bif nextG r m (-1) then LP env34 N 0 F_lockgateref18_Handle snK 2 [] N (SR13 r m 0) else nilA r := nextK_eq hc1 hn hcl
theorem rrun {r : Rep} {m : Msg} (hl : m.entries.length ≤ 10000) (h : TakeOk r m.entries) : LP env34 (m.entries.length + 1) 0 F_lockgateref18_Handle snK 2 [] (m.entries.length + 1) (SR13 r m 0) = rendK (takeP r m.entries) m := by
  have run := rtake_run (N := m.entries.length + 1) (m := m) m.entries.length 0 (m.entries.length + 1) r (by omega) (by omega) hl (by rw [List.drop_zero]; exact h)
  rw [List.drop_zero, Int.natCast_zero] at run
  exact run
theorem rend_out {r : Rep} {m : Msg} (h1 : VNum r.tail.last) (h2 : VNum m.floor) (h3 : vlt r.tail.last m.floor = false → pTV (r.tail, m.floor) ∧ RepAg (liftR r m.floor)) (h4 : vlt r.tail.last m.floor = true → RepAg r) :
    rendK r m = some (oHd (bif vlt r.tail.last m.floor then r else liftR r m.floor, againP (bif vlt r.tail.last m.floor then r else liftR r m.floor))) := by
  unfold rendK
  have q1 : ∀ K : Ver × Ver → Option AV, gC dV2 V2 eV2 [eV r.tail.last, eV m.floor] K = K (r.tail.last, m.floor) := fun K => qV2 h1 h2
  rw [q1]
  simp only []
  cases hv : vlt r.tail.last m.floor with
  | true =>
    simp only [Bool.not_true, cond_false, cond_true]
    rw [qRep1 (P := RepAg) (h4 hv)]
    rfl
  | false =>
    simp only [Bool.not_false, cond_false, cond_true]
    have q2 : ∀ K : Tail × Ver → Option AV, gC dTV pTV eTV [.agg (encTail r.tail), eV m.floor] K = K (r.tail, m.floor) := fun K => qTV (h3 hv).1
    rw [q2]
    have q3 : ∀ K : Rep → Option AV, gC dRep1 RepAg eRep1 [.agg (encRep (liftR r m.floor))] K = K (liftR r m.floor) := fun K => qRep1 (P := RepAg) (h3 hv).2
    exact q3 _
theorem rh13_con {r : Rep} {m : Msg} (h : HandOk r m) (hk : m.kind = 13) : Contract PG F_lockgateref18_Handle [.agg (encRep r), .agg (encMsg m)] [] (oHd (handP r m)) [] := by
  obtain ⟨E, N, hN, hEN, hr, hm⟩ := h.ex
  have hc1 := (hr.ag hN).short.1
  have hch : m.chain.length ≤ LB := by have := hm.chain.1; unfold LB; omega
  have hP : handP r m = bif toMe r m then fwdP r m else (r, []) := by unfold handP handK; rw [hk]; rfl
  rw [hP]
  have k := rh13 (m.entries.length + 1) r m
  have e2 : (bif decide (r.view.epoch < m.epoch) then rfwdN (m.entries.length + 1) r m else rfwdN (m.entries.length + 1) r m) = rfwdN (m.entries.length + 1) r m := by
    generalize rfwdN (m.entries.length + 1) r m = X
    cases decide (r.view.epoch < m.epoch) <;> rfl
  rw [inKd_eq hk, refK_eq hch, e2, rfwd_eq hc1 hr.chain.2.1 hr.chain.1] at k
  cases ht : toMe r m with
  | false => rw [ht] at k; exact (con34 k).res out_nil
  | true =>
    rw [ht] at k
    simp only [cond_true] at k ⊢
    unfold fwdP
    cases hg : nextG r m (-1) with
    | false => rw [hg] at k; exact (con34 k).res out_nil
    | true =>
      rw [hg, cond_true] at k
      rw [cond_true]
      have hel : m.entries.length ≤ 10000 := by have := hm.elen; omega
      have htk := takeP_is hr hm.ent
      have hfw := fwdR_is hr hm
      have hout := rend_out (r := takeP r m.entries) (m := m) (htk.tail.la.num hN) (hm.floor.num hN)
        (fun hv => ⟨htk.tail.lift hm.floor hN, by have := hfw.ag hN; unfold fwdR at this; rw [hv] at this; exact this⟩)
        (fun hv => by have := hfw.ag hN; unfold fwdR at this; rw [hv] at this; exact this)
      exact con34 ((k.trans (rrun hel (hr.take hm.elen hm.ent hN))).trans hout)
end Go.Wk
end

section
/- The reference's Handle: who has installed; Handle, whole. -/
open Go Go.AM Go.Md
namespace Go.Wk
set_option maxRecDepth 100000
set_option maxHeartbeats 400000
def SR12 (r : Rep) (n : Nat) (f : Nat → List AV) (b : Bool) (i : Int) : St := { fr := [(2, .ptr 0 0 0), (4, .ptr 1 0 0), (11, .sl 1 2 0 n 0), (12, .bool b), (13, .int .i64 i)], hp := [.arr true 15 [encRep r], .arr true 15 [z15], .seq true 1 n f] }
noncomputable def rindK (N : Nat) (r : Rep) (i : Int) (rest : Option AV) : Option AV := bif decide (r.view.phase = 2) then bif decide (0 ≤ i) then
   bif Nat.ble ((0 + r.synced.length) * 1) 140737488355328 && Nat.ble (0 + r.synced.length) 140737488355328 then
   bif Nat.beq r.synced.length 0 then bif decide (0 ≤ i) && decide (i < ((0 : Nat) : Int)) then none else none else
   bif decide (0 ≤ i) && decide (i < (r.synced.length : Int)) then bif Nat.blt (0 + i.toNat) r.synced.length && true then LP env34 N 0 F_lockgateref18_Handle snK 0 [] N (SR12 r r.synced.length (fun i' => bif Nat.beq i' (0 + i.toNat) then [.bool true] else [.bool (r.synced.getD i' false)]) true 0) else none else none else none
   else rest else rest
theorem rh12 (N : Nat) (r : Rep) (m : Msg) : callT env34 (N + 1) F_lockgateref18_Handle [.agg (encRep r), .agg (encMsg (inKd m 12))] =
    refK r m (fun _ => restK r m (rindK N r) fun _ _ => nilA r) (fun _ => restK r m (rindK N r) fun _ _ => nilA r) := by kernel_rfl
def fB (l : List Bool) : Nat → List AV := fun i => [.bool (l.getD i false)]
theorem st12t (N j : Nat) (r : Rep) (l : List Bool) (i : Int) : LP env34 N 0 F_lockgateref18_Handle snK 0 [] (j + 1) (SR12 r l.length (fB l) true i) =
    bif decide (i < (l.length : Int)) then bif decide (0 ≤ i) && decide (i < (l.length : Int)) then bif Nat.blt (0 + i.toNat) l.length then LP env34 N 0 F_lockgateref18_Handle snK 0 [] j (SR12 r l.length (fB l) (l.getD (0 + i.toNat) false) (IntKind.i64.wrap (i + 1))) else none else none
    else bif (Nat.beq l.length 0 || Nat.ble l.length l.length) && true && true then some (.tup [.agg (repB { r with view := { r.view with phase := 3 }, got := r.tail.last } (encBools l)), .nils]) else none := by kernel_rfl
theorem st12f (N j : Nat) (r : Rep) (l : List Bool) (i : Int) : LP env34 N 0 F_lockgateref18_Handle snK 0 [] (j + 1) (SR12 r l.length (fB l) false i) =
    bif decide (i < (l.length : Int)) then LP env34 N 0 F_lockgateref18_Handle snK 0 [] j (SR12 r l.length (fB l) false (IntKind.i64.wrap (i + 1)))
    else bif (Nat.beq l.length 0 || Nat.ble l.length l.length) && true && true then some (.tup [.agg (repB r (encBools l)), .nils]) else none := by kernel_rfl
theorem ru (n : Nat) : ((Nat.beq n 0 || Nat.ble n n) && true && true) = true := by rw [orU]; rfl
theorem run12f {N : Nat} {r : Rep} {l : List Bool} (hl : l.length ≤ 10000) : ∀ d i j, i + d = l.length → d < j → LP env34 N 0 F_lockgateref18_Handle snK 0 [] j (SR12 r l.length (fB l) false (i : Nat)) = some (.tup [.agg (repB r (encBools l)), .nils]) := by
  intro d
  induction d with
  | zero =>
    intro i j hi hj
    obtain ⟨j, rfl⟩ : ∃ k, j = k + 1 := ⟨j - 1, by omega⟩
    rw [st12f, dec_nat, decide_eq_false (by omega), cond_false, ru, cond_true]
  | succ d ih =>
    intro i j hi hj
    obtain ⟨j, rfl⟩ : ∃ k, j = k + 1 := ⟨j - 1, by omega⟩
    rw [st12f, dec_nat, decide_eq_true (by omega), cond_true, wrapS (by omega)]
    exact ih (i + 1) j (by omega) (by omega)
def out12 (r : Rep) (l : List Bool) (b : Bool) : Option AV := some (.tup [.agg (bif b then repB { r with view := { r.view with phase := 3 }, got := r.tail.last } (encBools l) else repB r (encBools l)), .nils])
theorem run12t {N : Nat} {r : Rep} {l : List Bool} (hl : l.length ≤ 10000) : ∀ d i j, i + d = l.length → d < j → LP env34 N 0 F_lockgateref18_Handle snK 0 [] j (SR12 r l.length (fB l) true (i : Nat)) = out12 r l ((l.drop i).all id) := by
  intro d
  induction d with
  | zero =>
    intro i j hi hj
    obtain ⟨j, rfl⟩ : ∃ k, j = k + 1 := ⟨j - 1, by omega⟩
    rw [st12t, dec_nat, decide_eq_false (by omega), cond_false, ru, cond_true, List.drop_eq_nil_of_le (by omega)]
    rfl
  | succ d ih =>
    intro i j hi hj
    obtain ⟨j, rfl⟩ : ∃ k, j = k + 1 := ⟨j - 1, by omega⟩
    have hil : i < l.length := by omega
    rw [st12t, dec_nat, decide_eq_true hil, dec_nonneg, drop_cons (z := false) hil]
    simp only [cond_true, Bool.and_true, Int.toNat_natCast, Nat.zero_add]
    rw [blt_true hil, cond_true, wrapS (by omega), List.all_cons]
    cases l.getD i false with
    | true => exact ih (i + 1) j (by omega) (by omega)
    | false => exact run12f hl d (i + 1) j (by omega) (by omega)
theorem fB_set {l : List Bool} {k : Nat} (hk : k < l.length) : (fun i' => bif Nat.beq i' (0 + k) then [AV.bool true] else [AV.bool (l.getD i' false)]) = fB (l.set k true) := by
  funext i
  unfold fB
  rw [Nat.zero_add]
  by_cases hi : i < l.length
  · rw [set_at l k i hi]; cases Nat.beq i k <;> rfl
  · rw [AM.beq_false (by omega), cond_false]
    have e1 : l[i]? = none := List.getElem?_eq_none (by omega)
    have e2 : (l.set k true)[i]? = none := List.getElem?_eq_none (by rw [List.length_set]; omega)
    simp [List.getD, e1, e2]
theorem rind_eq {r : Rep} {i : Int} {rest : Option AV} (hl : r.synced.length ≤ 10000) (hp : r.view.phase = 2 → 0 ≤ i → i < r.synced.length) :
    rindK (r.synced.length + 1) r i rest = bif decide (r.view.phase = 2) && decide (0 ≤ i) then out12 r (r.synced.set i.toNat true) ((r.synced.set i.toNat true).all id) else rest := by
  unfold rindK
  by_cases h2 : r.view.phase = 2
  · rw [decide_eq_true h2, cond_true, Bool.true_and]
    by_cases hi : 0 ≤ i
    · have hlt := hp h2 hi
      have hk : i.toNat < r.synced.length := by omega
      rw [decide_eq_true hi, decide_eq_true hlt, cond_true, cond_true, roomV (n := 0 + r.synced.length) (b := 1) (by omega) (by omega), cond_true, AM.beq_false (by omega), cond_false, Bool.and_true, cond_true, blt_true (by omega), Bool.and_true, cond_true, fB_set hk]
      have run := run12t (N := r.synced.length + 1) (r := r) (l := r.synced.set i.toNat true) (by rw [List.length_set]; exact hl) r.synced.length 0 (r.synced.length + 1) (by rw [List.length_set]; omega) (by omega)
      rw [List.length_set, List.drop_zero, Int.natCast_zero] at run
      exact run
    · rw [decide_eq_false hi]; rfl
  · rw [decide_eq_false h2]; rfl
theorem restK12 {r : Rep} {m : Msg} {K : Int → Option AV → Option AV} (h : r.view.chain.length ≤ LB) (hK : ∀ rest, rest = nilA r → K (idx r.view.chain (who m)) rest = K (idx r.view.chain (who m)) (nilA r)) :
    restK r m K (fun _ _ => nilA r) = bif decide (m.epoch = r.view.epoch) && liveP r then K (idx r.view.chain (who m)) (nilA r) else nilA r := by
  unfold restK
  rw [qRep1 (P := pRep1) trivial, qLM h]
  cases decide (m.epoch = r.view.epoch) with
  | false => rfl
  | true =>
    cases liveP r with
    | false => rfl
    | true =>
      simp only [Bool.not_true, cond_false, Bool.and_true, cond_true]
      refine hK _ ?_
      rw [qLM h]
      cases decide (r.view.phase = 3) <;> cases decide (idx r.view.chain (who m) < 0) <;> rfl
theorem rh12_con {r : Rep} {m : Msg} (h : HandOk r m) (hk : m.kind = 12) : Contract PG F_lockgateref18_Handle [.agg (encRep r), .agg (encMsg m)] [] (oHd (handP r m)) [] := by
  obtain ⟨E, N, hN, hEN, hr, hm⟩ := h.ex
  have hc1 := (hr.ag hN).short.1
  have hch : m.chain.length ≤ LB := by have := hm.chain.1; unfold LB; omega
  have hP : handP r m = bif toMe r m then indP r m else (r, []) := by unfold handP handK; rw [hk]; rfl
  rw [hP]
  have hix := idx_le r.view.chain (who m)
  have hsl := hr.synl
  have hcl := hr.chain.1
  have hp : r.view.phase = 2 → 0 ≤ idx r.view.chain (who m) → idx r.view.chain (who m) < r.synced.length := by
    intro h2 hi
    have := (hr.sync h2).2
    omega
  have k := rh12 (r.synced.length + 1) r m
  have eK : ∀ K : Option AV, (bif decide (r.view.epoch < m.epoch) then K else K) = K := fun K => by cases decide (r.view.epoch < m.epoch) <;> rfl
  rw [inKd_eq hk, refK_eq hch, eK, restK12 hc1 (fun rest e => by rw [e]), rind_eq (by omega) hp] at k
  cases ht : toMe r m with
  | false => rw [ht] at k; exact (con34 k).res out_nil
  | true =>
    rw [ht] at k
    simp only [cond_true] at k ⊢
    have e : (bif decide (m.epoch = r.view.epoch) && liveP r then (bif decide (r.view.phase = 2) && decide (0 ≤ idx r.view.chain (who m)) then out12 r (indS r m) ((indS r m).all id) else nilA r) else nilA r) =
        bif syncsP r && (decide (m.epoch = r.view.epoch) && decide (0 ≤ idx r.view.chain (who m))) then out12 r (indS r m) ((indS r m).all id) else nilA r := by
      unfold syncsP
      cases decide (m.epoch = r.view.epoch) <;> cases liveP r <;> cases decide (r.view.phase = 2) <;> cases decide (0 ≤ idx r.view.chain (who m)) <;> rfl
    have k := k.trans e
    unfold indP
    cases hg : syncsP r && (decide (m.epoch = r.view.epoch) && decide (0 ≤ idx r.view.chain (who m))) with
    | false => rw [hg] at k; exact (con34 k).res out_nil
    | true =>
      rw [hg] at k
      simp only [cond_true] at k ⊢
      unfold out12 at k
      unfold indR
      cases hall : (indS r m).all id with
      | true => rw [hall] at k; exact (con34 k).res (.tup (.cons (.refl _) (.cons nilsL .nil)))
      | false => rw [hall] at k; exact (con34 k).res (.tup (.cons (.refl _) (.cons nilsL .nil)))

/-! ### the reference's Handle -/
theorem rhandle_con (p : Rep × Msg) (h : pRMs p) : Contract PG F_lockgateref18_Handle (eRMs p) [] (oRMs p) [] := by
  obtain ⟨h1, h2⟩ := h
  rcases h2 with k | k | k | k | k | k
  · exact rh8_con h1 k
  · exact rh10_con h1 k
  · exact rh11_con h1 k
  · exact rh12_con h1 k
  · exact rh13_con h1 k
  · exact rh14_con h1 k
noncomputable def kRHandle : Known := .spec F_lockgateref18_Handle dRMs pRMs eRMs oRMs
theorem kRHandle_ok : kRHandle.Ok PG := Known.spec_ok rhandle_con
end Go.Wk
end

section
/- Members against themselves. -/
open Go Go.AM Go.Md
namespace Go.Wk
set_option maxRecDepth 100000
set_option maxHeartbeats 4000000
noncomputable def env39a : Env := envO [kSame05]
theorem same15 (t : Tail) : callT env39a 5 F_lockgateref15_Same [AV.agg (encTail t), AV.agg (encTail t)] =
  bif fEq FloatKind.f64 t.floor.re t.floor.re && fEq FloatKind.f64 t.floor.im t.floor.im then 
    bif fEq FloatKind.f64 t.last.re t.last.re && fEq FloatKind.f64 t.last.im t.last.im then 
      gC (dL decEntry) (fun a => a.length ≤ LB ∧ ∀ (x : Entry), x ∈ a → VOk x.ver) (fun l => [encEntrys l, encEntrys l]) ([encEntrys t.log, encEntrys t.log]) fun y0 =>
      some (AV.bool true)
    else 
      some (AV.bool false)
  else 
    some (AV.bool false) := by kernel_rfl
def TailSame (t : Tail) : Prop := VOk t.floor ∧ VOk t.last ∧ t.log.length ≤ LB ∧ ∀ x ∈ t.log, VOk x.ver
theorem same15_con (t : Tail) (h : TailSame t) : Contract PG F_lockgateref15_Same [.agg (encTail t), .agg (encTail t)] [] (.bool true) [] := by
  obtain ⟨⟨h1, h2⟩, ⟨h3, h4⟩, h5, h6⟩ := h
  have k := same15 t
  have q : ∀ K : List Entry → Option AV, gC (dL decEntry) (fun a => a.length ≤ LB ∧ ∀ (x : Entry), x ∈ a → VOk x.ver) (fun l => [encEntrys l, encEntrys l]) [encEntrys t.log, encEntrys t.log] K = K t.log := fun K => gC_eq t.log (decEntrys _) ⟨h5, h6⟩ (.refl _)
  rw [h1, h2, h3, h4, q] at k
  exact con_of (md := fun _ => none) (ak kSame05_ok ank) k
def dTail1 (a : List AV) : Tail := decTail (argC a 0)
def eTail2 (t : Tail) : List AV := [.agg (encTail t), .agg (encTail t)]
noncomputable def kSame15 : Known := .spec F_lockgateref15_Same dTail1 TailSame eTail2 (fun _ => .bool true)
theorem kSame15_ok : kSame15.Ok PG := Known.spec_ok same15_con
noncomputable def env39 : Env := envO [kSame16, kSame14, kSame15]
theorem same18_in (N : Nat) (r : Rep) : callT env39 (N + 1) F_lockgateref18_Same [AV.agg (encRep r), AV.agg (encRep r)] =
  bif !decide (r.shard = r.shard) then 
    some (AV.bool false)
  else 
    bif !(decide (r.self.node = r.self.node) && (decide (r.self.boot = r.self.boot) && true)) then 
      some (AV.bool false)
    else 
      bif !decide (r.frozen = r.frozen) then 
        some (AV.bool false)
      else 
        bif !(fEq FloatKind.f64 r.got.re r.got.re && fEq FloatKind.f64 r.got.im r.got.im) then 
          some (AV.bool false)
        else 
          bif !decide ((↑r.synced.length : Int) = (↑r.synced.length : Int)) then 
            some (AV.bool false)
          else 
            LP (env39) (N) 0 (F_lockgateref18_Same) snK 0 [] (N) ({ fr := [(2, AV.ptr 0 0 0), (3, AV.ptr 1 0 0), (5, AV.int IntKind.i64 0)], hp := [BS.arr true 15 [encRep r], BS.arr true 15 [encRep r]] }) := by kernel_rfl
def SS18 (r : Rep) (i : Int) : St := { fr := [(2, .ptr 0 0 0), (3, .ptr 1 0 0), (5, .int .i64 i)], hp := [.arr true 15 [encRep r], .arr true 15 [encRep r]] }
theorem same18_step (N : Nat) (j : Nat) (r : Rep) (i : Int) : LP env39 N 0 F_lockgateref18_Same snK 0 [] (j + 1) (SS18 r i) =
  bif decide (i < (↑r.synced.length : Int)) then 
    bif decide (0 ≤ i) && decide (i < (↑r.synced.length : Int)) then 
      bif decide (0 ≤ i) && decide (i < (↑r.synced.length : Int)) then 
        bif !bif r.synced.getD i.toNat false then r.synced.getD i.toNat false else !r.synced.getD i.toNat false then 
          some (AV.bool false)
        else 
          LP (env39) (N) (0) (F_lockgateref18_Same) (snK) 0 ([]) (j) (SS18 r (IntKind.i64.wrap (i + 1)))
      else none
    else none
  else 
    bif decide (r.view.shard = r.view.shard) then 
      bif decide (r.view.epoch = r.view.epoch) then 
        bif decide (r.view.gen = r.view.gen) then 
          bif decide (r.view.phase = r.view.phase) then 
            gC (dL decMember) (shortL) (fun l => [encMembers l, encMembers l]) ([encMembers r.view.chain, encMembers r.view.chain]) fun y1 =>
            gC (dTail1) (TailSame) (eTail2) ([AV.agg (encTail r.tail), AV.agg (encTail r.tail)]) fun y2 =>
            gC (dL decSeen) (fun a => a.length ≤ LB ∧ ∀ (x : Seen), x ∈ a → VOk x.ver) (fun l => [encSeens l, encSeens l]) ([encSeens r.seen, encSeens r.seen]) fun y3 =>
            some (AV.bool true)
          else 
            some (AV.bool false)
        else 
          some (AV.bool false)
      else 
        some (AV.bool false)
    else 
      some (AV.bool false) := by kernel_rfl
def RepSame (r : Rep) : Prop := VOk r.got ∧ TailSame r.tail ∧ r.view.chain.length ≤ LB ∧ (r.seen.length ≤ LB ∧ ∀ x ∈ r.seen, VOk x.ver) ∧ r.synced.length ≤ 10000
theorem same18_go (N : Nat) (r : Rep) (h1 : fEq FloatKind.f64 r.got.re r.got.re = true) (h2 : fEq FloatKind.f64 r.got.im r.got.im = true) : callT env39 (N + 1) F_lockgateref18_Same [AV.agg (encRep r), AV.agg (encRep r)] = LP env39 N 0 F_lockgateref18_Same snK 0 [] N (SS18 r 0) := by
  refine (same18_in N r).trans ?_
  have d0 : ∀ x : Int, decide (x = x) = true := fun x => decide_eq_true rfl
  rw [d0, d0, d0, d0, d0, h1, h2]
  simp only [Bool.not_true, Bool.and_true, cond_false]
  rfl
theorem same18_con (r : Rep) (h : RepSame r) : Contract PG F_lockgateref18_Same [.agg (encRep r), .agg (encRep r)] [] (.bool true) [] := by
  obtain ⟨⟨h1, h2⟩, h3, h4, h5, h6⟩ := h
  have k := same18_go (r.synced.length + 1) r h1 h2
  have d0 : ∀ x : Int, decide (x = x) = true := fun x => decide_eq_true rfl
  have q1 : ∀ K : List Member → Option AV, gC (dL decMember) shortL (fun l => [encMembers l, encMembers l]) [encMembers r.view.chain, encMembers r.view.chain] K = K r.view.chain := fun K => gC_eq r.view.chain (decMembers _) h4 (.refl _)
  have q2 : ∀ K : Tail → Option AV, gC dTail1 TailSame eTail2 [.agg (encTail r.tail), .agg (encTail r.tail)] K = K r.tail := fun K => gC_eq r.tail (dec_encTail _) h3 (.refl _)
  have q3 : ∀ K : List Seen → Option AV, gC (dL decSeen) (fun a => a.length ≤ LB ∧ ∀ (x : Seen), x ∈ a → VOk x.ver) (fun l => [encSeens l, encSeens l]) [encSeens r.seen, encSeens r.seen] K = K r.seen := fun K => gC_eq r.seen (decSeens _) h5 (.refl _)
  have run : ∀ d i j, i + d = r.synced.length → d < j → LP env39 (r.synced.length + 1) 0 F_lockgateref18_Same snK 0 [] j (SS18 r (i : Nat)) = some (.bool true) := by
    intro d
    induction d with
    | zero =>
      intro i j hi hj
      obtain ⟨j, rfl⟩ : ∃ k, j = k + 1 := ⟨j - 1, by omega⟩
      rw [same18_step, dec_nat, decide_eq_false (by omega), cond_false]
      rw [d0, d0, d0, d0, cond_true, cond_true, cond_true, cond_true, q1, q2, q3]
    | succ d ih =>
      intro i j hi hj
      obtain ⟨j, rfl⟩ : ∃ k, j = k + 1 := ⟨j - 1, by omega⟩
      have hil : i < r.synced.length := by omega
      have hb : ∀ b : Bool, (!bif b then b else !b) = false := fun b => by cases b <;> rfl
      rw [same18_step, dec_nat, decide_eq_true hil, dec_nonneg, hb]
      rw [Bool.and_true, cond_true, cond_true, cond_true, cond_false, wrapS (by omega)]
      exact ih (i + 1) j (by omega) (by omega)
  have r0 := run r.synced.length 0 (r.synced.length + 1) (by omega) (by omega)
  rw [Int.natCast_zero] at r0
  exact con_of (md := fun _ => none) (ak kSame16_ok (ak kSame14_ok (ak kSame15_ok ank))) (k.trans r0)
def eRep2 (r : Rep) : List AV := [.agg (encRep r), .agg (encRep r)]
noncomputable def kSame18 : Known := .spec F_lockgateref18_Same dRep1 RepSame eRep2 (fun _ => .bool true)
theorem kSame18_ok : kSame18.Ok PG := Known.spec_ok same18_con
theorem RepIs.same {E : Int} {N : Nat} {r : Rep} (h : RepIs E N r) (hN : N ≤ 1000) : RepSame r := by
  refine ⟨(h.got.num hN).ok, ⟨(h.tail.fl.num hN).ok, (h.tail.la.num hN).ok, ?_, fun x hx => ((h.tail.ent x hx).1.num hN).ok⟩, ?_, ⟨?_, fun x hx => ?_⟩, ?_⟩
  · have := h.tail.len; have := ((h.tail.la).le hN).2; unfold LB; omega
  · have := h.chain.1; unfold LB; omega
  · have := h.seen.1; unfold LB; omega
  · obtain ⟨v, v1, v2⟩ := h.seen.2 x hx
    rw [v2]; exact (v1.num hN).ok
  · have := h.synl; omega
end Go.Wk
end

section
/- A play; the law's little parts: set, in, Has. -/
open Go Go.AM Go.Md
namespace Go.Wk
set_option maxRecDepth 100000
set_option maxHeartbeats 400000
/-! ### messages of a play can be held against themselves -/
theorem i64_sm {n : Int} (h : Sm n) : I64 n := by unfold Sm at h; unfold I64; omega
theorem EntIs.ok {N : Nat} {e : Entry} (h : EntIs N e) (hN : N ≤ 1000) : EntOk e := by
  obtain ⟨h1, h2⟩ := h
  have hl := (h1.le hN).2
  rw [h2]
  refine ⟨(h1.num hN).int, ?_, ?_, ?_, ?_, ?_, ?_, ?_⟩
  · show I64 2; unfold I64; omega
  · show 1 ≤ 2000; omega
  · show 1 ≤ 2000; omega
  · show I64 1; unfold I64; omega
  · show I64 (nu e.ver : Int); unfold I64; omega
  · show I64 0; unfold I64; omega
  · show 0 ≤ 2000; omega
theorem ChainIs.ok {l : List Member} (h : ChainIs l) : MemsOk l := by
  refine ⟨by have := h.1; omega, fun m hm => ?_⟩
  have := (h.2.2 m hm).sm
  exact ⟨i64_sm this.1, i64_sm this.2⟩
theorem SeenIs.ok {N : Nat} {l : List Seen} (h : SeenIs N l) (hN : N ≤ 1000) : SeensOk l := by
  refine ⟨by have := h.1; omega, fun s hs => ?_⟩
  obtain ⟨v, h1, h2⟩ := h.2 s hs
  have hl := (h1.le hN).2
  rw [h2]
  refine ⟨?_, ?_, (h1.num hN).int, ?_, ?_, ?_⟩
  · show I64 1; unfold I64; omega
  · show I64 (nu v : Int); unfold I64; omega
  · show I64 2; unfold I64; omega
  · show I64 0; unfold I64; omega
  · show 0 ≤ 2000; omega
theorem MsgIs.ok {E : Int} {N : Nat} {m : Msg} (h : MsgIs E N m) (hN : N ≤ 1000) (hE : E ≤ N) : MsgOk m := by
  have z : I64 0 := by unfold I64; omega
  refine ⟨?_, ?_, ?_, (h.ver.num hN).int, (h.floor.num hN).int, ?_, ⟨?_, fun e he => (h.ent e he).ok hN⟩, h.chain.ok, ?_, ⟨(h.img.fl.num hN).int, (h.img.la.num hN).int, ?_, ⟨?_, fun e he => (h.img.ent e he).ok hN⟩, h.iseen.ok hN⟩⟩
  · intro n hn
    unfold msgN at hn
    simp only [List.mem_cons, List.not_mem_nil, or_false] at hn
    rcases hn with rfl | rfl | rfl | rfl | rfl | rfl | rfl | rfl | rfl | rfl | rfl | rfl
    · exact i64_sm h.kind
    · exact i64_sm h.src
    · exact i64_sm h.dst
    · exact i64_sm h.boot
    · exact i64_sm h.sboot
    · rw [h.shard]; exact z
    · have := h.ep0; have := h.ep; unfold I64; omega
    · rw [h.gen]; exact z
    · rw [h.sess]; exact z
    · rw [h.num]; exact z
    · exact i64_sm h.a
    · rw [h.code]; exact z
  · rw [h.key]; exact Nat.zero_le _
  · rw [h.val]; exact Nat.zero_le _
  · rw [h.op]; exact ⟨z, Nat.zero_le _, Nat.zero_le _, Nat.zero_le _⟩
  · have := h.elen; omega
  · rw [h.views]; exact ⟨Nat.zero_le _, fun v hv => by cases hv⟩
  · rw [h.igen]; exact z
  · have h1 := h.img.len
    have h2 := ((h.img.la).le hN).2
    show m.image.log.length ≤ 1000
    have h1 : m.image.log.length ≤ nu m.image.last := h1
    have h2 : nu m.image.last ≤ N := h2
    omega
theorem msgs_ok {E : Int} {N : Nat} {l : List Msg} (hl : l.length ≤ 1000) (h : ∀ m ∈ l, MsgIs E N m) (hN : N ≤ 1000) (hE : E ≤ N) : MsgsOk l := ⟨by unfold LB; omega, fun m hm => (h m hm).ok hN hE⟩

/-! ### plays -/
def encPlay (p : Play) : List AV := [encReps p.reps, encMsgs p.way, .int .i64 p.epoch, encMembers p.valid, eV p.safe]
def decPlay (cs : List AV) : Play := ⟨getL decRep cs 0, getL decMsg cs 1, getI cs 2, getL decMember cs 3, ⟨(getC cs 4).1, (getC cs 4).2⟩⟩
theorem dec_encPlay (p : Play) : decPlay (encPlay p) = p := by
  show (⟨decL decRep (encReps p.reps), decL decMsg (encMsgs p.way), p.epoch, decL decMember (encMembers p.valid), p.safe⟩ : Play) = p
  rw [decReps, decMsgs, decMembers]

/-! ### set -/
def setRs (l : List Rep) (k : Nat) (r : Rep) : AV := .tr 15 l.length fun i => bif Nat.beq i (0 + k) then encRep r else encRep (l.getD i default)
theorem setRs_sub (l : List Rep) (k : Nat) (r : Rep) : SubV (setRs l k r) (encReps (l.set k r)) := by
  unfold setRs encReps encL
  rw [List.length_set]
  refine SubV.trs fun i hi => ?_
  rw [Nat.zero_add]
  by_cases e : i = k
  · subst e
    rw [AM.beq_true rfl, cond_true]
    have : (l.set i r).getD i default = r := by simp [List.getD, hi]
    rw [this]; exact .refl _
  · rw [AM.beq_false e, cond_false]
    have : (l.set k r).getD i default = l.getD i default := by
      unfold List.getD
      rw [List.getElem?_set_ne (fun x => e x.symm)]
    rw [this]; exact .refl _
theorem set_eq (p : Play) (j : Int) (r : Rep) : callT env0 5 F_lockgatelaw18_set [.agg (encPlay p), .int .i64 j, .agg (encRep r)] =
    bif Nat.ble ((0 + p.reps.length) * 208) 140737488355328 && Nat.ble (0 + p.reps.length) 140737488355328 then bif Nat.beq p.reps.length 0 then bif decide (0 ≤ j) && decide (j < ((0 : Nat) : Int)) then none else none else
    bif decide (0 ≤ j) && decide (j < (p.reps.length : Int)) then bif Nat.blt (0 + j.toNat) p.reps.length && true then bif (Nat.beq p.reps.length 0 || Nat.ble p.reps.length p.reps.length) && true then
      some (.agg [setRs p.reps j.toNat r, encMsgs p.way, .int .i64 p.epoch, encMembers p.valid, eV p.safe]) else none else none else none else none := by kernel_rfl
def getN (a : List AV) (i : Nat) : Int := getI a i
def dPJR (a : List AV) : Play × Int × Rep := (decPlay (argC a 0), getN a 1, decRep (argC a 2))
def pPJR (x : Play × Int × Rep) : Prop := 0 ≤ x.2.1 ∧ x.2.1 < x.1.reps.length ∧ x.1.reps.length ≤ 10000
def ePJR (x : Play × Int × Rep) : List AV := [.agg (encPlay x.1), .int .i64 x.2.1, .agg (encRep x.2.2)]
def oPJR (x : Play × Int × Rep) : AV := .agg (encPlay (putR x.1 x.2.1.toNat x.2.2))
theorem set_con (x : Play × Int × Rep) (h : pPJR x) : Contract PG F_lockgatelaw18_set (ePJR x) [] (oPJR x) [] := by
  obtain ⟨p, j, r⟩ := x
  obtain ⟨h1, h2, h3⟩ := h
  have h1 : 0 ≤ j := h1
  have h2 : j < p.reps.length := h2
  have h3 : p.reps.length ≤ 10000 := h3
  have k := set_eq p j r
  rw [roomV (n := 0 + p.reps.length) (b := 208) (by omega) (by omega), cond_true, AM.beq_false (by omega), cond_false, decide_eq_true h1, decide_eq_true h2, Bool.and_true, cond_true, blt_true (by omega), Bool.and_true, cond_true] at k
  have e : (false || Nat.ble p.reps.length p.reps.length) = true := by rw [ble_true (Nat.le_refl _)]; rfl
  rw [e, Bool.and_true, cond_true] at k
  exact (con0 k).res (.agg (.cons (setRs_sub _ _ _) (.refl _)))
noncomputable def kSet : Known := .spec F_lockgatelaw18_set dPJR pPJR ePJR oPJR
theorem kSet_ok : kSet.Ok PG := Known.spec_ok set_con
theorem qSet {R : Type} {p : Play} {j : Nat} {r : Rep} {K : Play × Int × Rep → Option R} (h1 : j < p.reps.length) (h2 : p.reps.length ≤ 10000) : gC dPJR pPJR ePJR [.agg (encPlay p), .int .i64 (j : Int), .agg (encRep r)] K = K (p, (j : Int), r) :=
  gC_eq (p, (j : Int), r) (Prod.ext (dec_encPlay p) (Prod.ext rfl (dec_encRep r))) ⟨by show (0 : Int) ≤ (j : Int); omega, by show (j : Int) < p.reps.length; omega, h2⟩ (.refl _)

/-! ### in -/
def SIn (l : List Member) (x : Member) (i : Int) : St := { fr := [(0, encMembers l), (3, .ptr 0 0 0), (5, .int .i64 i)], hp := [.arr true 2 [encMember x]] }
theorem in_in (N : Nat) (l : List Member) (x : Member) : callT env0 (N + 1) F_lockgatelaw18_in [encMembers l, .agg (encMember x)] = LP env0 N 0 F_lockgatelaw18_in snK 0 [] N (SIn l x 0) := by kernel_rfl
theorem in_step (N j : Nat) (l : List Member) (x : Member) (i : Int) : LP env0 N 0 F_lockgatelaw18_in snK 0 [] (j + 1) (SIn l x i) =
    bif decide (i < (l.length : Int)) then rg i l.length <| bif decide ((l.getD i.toNat default).node = x.node) && (decide ((l.getD i.toNat default).boot = x.boot) && true) then some (.bool true) else LP env0 N 0 F_lockgatelaw18_in snK 0 [] j (SIn l x (IntKind.i64.wrap (i + 1)))
    else some (.bool false) := by kernel_rfl
theorem mem_dec (a b : Member) : (decide (a.node = b.node) && (decide (a.boot = b.boot) && true)) = decide (a = b) := by
  obtain ⟨a1, a2⟩ := a
  obtain ⟨b1, b2⟩ := b
  rw [Bool.and_true]
  by_cases h1 : a1 = b1
  · by_cases h2 : a2 = b2
    · subst h1; subst h2; simp
    · simp [h2]
  · simp [h1]
theorem in_con (x : LM) (h : shortL x.1) : Contract PG F_lockgatelaw18_in (encLM x) [] (.bool (decide (x.2 ∈ x.1))) [] := by
  obtain ⟨l, x⟩ := x
  have h : l.length ≤ LB := h
  unfold LB at h
  have run : ∀ d i j, i + d = l.length → d < j → LP env0 (l.length + 1) 0 F_lockgatelaw18_in snK 0 [] j (SIn l x (i : Nat)) = some (.bool (decide (x ∈ l.drop i))) := by
    intro d
    induction d with
    | zero =>
      intro i j hi hj
      obtain ⟨j, rfl⟩ : ∃ k, j = k + 1 := ⟨j - 1, by omega⟩
      rw [in_step, dec_nat, decide_eq_false (by omega), cond_false, List.drop_eq_nil_of_le (by omega)]
      simp
    | succ d ih =>
      intro i j hi hj
      obtain ⟨j, rfl⟩ : ∃ k, j = k + 1 := ⟨j - 1, by omega⟩
      have hil : i < l.length := by omega
      rw [in_step, dec_nat, decide_eq_true hil, cond_true, rg_eq hil, Int.toNat_natCast, mem_dec, drop_cons (z := default) hil, wrapS (by omega)]
      by_cases e : l.getD i default = x
      · rw [decide_eq_true e, cond_true, e]
        simp
      · rw [decide_eq_false e, cond_false, ih (i + 1) j (by omega) (by omega)]
        have e' : ¬ x = l.getD i default := fun h => e h.symm
        simp only [List.mem_cons, e', false_or]
  have r0 := run l.length 0 (l.length + 1) (by omega) (by omega)
  rw [Int.natCast_zero, List.drop_zero] at r0
  exact con0 ((in_in (l.length + 1) l x).trans r0)
noncomputable def kIn : Known := .spec F_lockgatelaw18_in decLM preLM encLM (fun x => .bool (decide (x.2 ∈ x.1)))
theorem kIn_ok : kIn.Ok PG := Known.spec_ok in_con

/-! ### Has -/
noncomputable def env40 : Env := envO [kRAhead]
theorem has_eq (r : Rep) (v : Ver) : callT env40 3 F_lockgateref18_Has [.agg (encRep r), eV v] =
    bif !decide (r.view.phase = 0) then gC dV2 V2 eV2 [eV r.tail.last, eV v] fun y => some (.bool !vlt y.1 y.2) else some (.bool false) := by kernel_rfl
def hasP (r : Rep) (v : Ver) : Bool := !decide (r.view.phase = 0) && !vlt r.tail.last v
def dRVr (a : List AV) : Rep × Ver := (decRep (argC a 0), ⟨(getC a 1).1, (getC a 1).2⟩)
def pRVr (x : Rep × Ver) : Prop := VNum x.1.tail.last ∧ VNum x.2
def eRVr (x : Rep × Ver) : List AV := [.agg (encRep x.1), eV x.2]
theorem has_con (x : Rep × Ver) (h : pRVr x) : Contract PG F_lockgateref18_Has (eRVr x) [] (.bool (hasP x.1 x.2)) [] := by
  obtain ⟨r, v⟩ := x
  have k := has_eq r v
  have q : ∀ K : Ver × Ver → Option AV, gC dV2 V2 eV2 [eV r.tail.last, eV v] K = K (r.tail.last, v) := fun K => qV2 h.1 h.2
  rw [q, bif_some] at k
  have e : (bif !decide (r.view.phase = 0) then AV.bool !vlt r.tail.last v else .bool false) = .bool (hasP r v) := by unfold hasP; cases decide (r.view.phase = 0) <;> rfl
  have k := k.trans (congrArg some e)
  exact con_of (md := fun _ => none) (ak kRAhead_ok ank) k
noncomputable def kHas : Known := .spec F_lockgateref18_Has dRVr pRVr eRVr (fun x => .bool (hasP x.1 x.2))
theorem kHas_ok : kHas.Ok PG := Known.spec_ok has_con
end Go.Wk
end

section
/- A message is given. -/
open Go Go.AM Go.Md
namespace Go.Wk
set_option maxRecDepth 100000
set_option maxHeartbeats 400000
noncomputable def kns41 : List Known := [kHandle, kRHandle, kSame18, kSameAll, kSet]
theorem kns41_ok : ∀ k ∈ kns41, k.Ok PG := ak kHandle_ok (ak kRHandle_ok (ak kSame18_ok (ak kSameAll_ok (ak kSet_ok ank))))
noncomputable def env41 : Env := envO kns41
theorem con41 {n f : Nat} {xs : List AV} {r : AV} (e : callT env41 n f xs = some r) : Contract PG f xs [] r [] := con_of (md := fun _ => none) kns41_ok e

/-! ### lists of messages, one behind the other -/
def mF (l : List Msg) : Nat → List AV := fun i => encMsg (l.getD i default)
/-- what comes of append(append([]Msg{}, w...), o...): E where there is nothing, S where there is a block -/
def laid {R : Type} (w o : List Msg) (E : Option R) (S : Nat → (Nat → List AV) → Option R) : Option R :=
  bif Nat.ble ((0 + w.length) * 392) 140737488355328 && Nat.ble (0 + w.length) 140737488355328 then
    bif Nat.beq w.length 0 then
      bif Nat.ble ((0 + o.length) * 392) 140737488355328 && Nat.ble (0 + o.length) 140737488355328 then
        bif Nat.beq o.length 0 then E else S o.length (mF o)
      else none
    else
      bif Nat.beq w.length 0 || Nat.ble w.length w.length then
        bif Nat.ble ((w.length + o.length) * 392) 140737488355328 && Nat.ble (w.length + o.length) 140737488355328 then
          bif Nat.beq o.length 0 then S w.length (mF w) else S (w.length + o.length) (appF w.length (mF w) o.length (mF o))
        else none
      else none
  else none
theorem laid_eq {R : Type} {w o : List Msg} {E : Option R} {S : Nat → (Nat → List AV) → Option R} (hw : w.length ≤ 100000) (ho : o.length ≤ 100000) :
    laid w o E S = match w ++ o with
      | [] => E
      | l => S l.length (mF l) := by
  unfold laid
  rw [roomV (n := 0 + w.length) (b := 392) (by omega) (by omega), cond_true]
  cases w with
  | nil =>
    rw [show Nat.beq ([] : List Msg).length 0 = true from rfl, cond_true, roomV (n := 0 + o.length) (b := 392) (by omega) (by omega), cond_true]
    cases o with
    | nil => rfl
    | cons b o => rw [AM.beq_false (by simp), cond_false]; rfl
  | cons a w =>
    rw [AM.beq_false (by simp), cond_false, ble_true (Nat.le_refl _), Bool.or_true, cond_true, roomV (b := 392) (by omega) (by omega), cond_true]
    cases o with
    | nil =>
      rw [show Nat.beq ([] : List Msg).length 0 = true from rfl, cond_true, List.append_nil]
    | cons b o =>
      rw [AM.beq_false (by simp), cond_false]
      have e : appF (a :: w).length (mF (a :: w)) (b :: o).length (mF (b :: o)) = mF ((a :: w) ++ (b :: o)) := appF_enc encMsg default (a :: w) (b :: o)
      rw [e, ← List.length_append]
      rfl
theorem msgs_nil : SubV (.trl 31 []) (encMsgs []) := SubV.trl_of [] rfl

/-! ### give -/
def zPlay : List AV := [.nils, .nils, .int .i64 0, .nils, .cplx .f64 0 0]
def SGa (p : Play) (m : Msg) (j : Int) : St := { fr := [(2, .ptr 0 0 0), (3, .ptr 1 0 0), (4, .ptr 2 0 0), (6, .int .i64 j)], hp := [.arr true 5 [encPlay p], .arr true 31 [encMsg m], .arr true 5 [zPlay]] }
def SGn (p : Play) (n : Nat) (f : Nat → List AV) (m : Msg) (j : Int) : St := { fr := [(2, .ptr 0 0 0), (3, .ptr 2 0 0), (4, .ptr 3 0 0), (6, .int .i64 j)], hp := [.arr true 5 [[encReps p.reps, .sl 31 1 0 n 0, .int .i64 p.epoch, encMembers p.valid, eV p.safe]], .seq true 31 n f, .arr true 31 [encMsg m], .arr true 5 [zPlay]] }
def SGe (p : Play) (m : Msg) (j : Int) : St := { fr := [(2, .ptr 0 0 0), (3, .ptr 2 0 0), (4, .ptr 3 0 0), (6, .int .i64 j)], hp := [.arr true 5 [[encReps p.reps, .sl 31 1 0 0 0, .int .i64 p.epoch, encMembers p.valid, eV p.safe]], .arr true 31 [], .arr true 31 [encMsg m], .arr true 5 [zPlay]] }
theorem give_in (N : Nat) (p : Play) (m : Msg) : callT env41 (N + 1) F_lockgatelaw18_give [.agg (encPlay p), .agg (encMsg m)] = LP env41 N 0 F_lockgatelaw18_give snK 0 [] N (SGa p m 0) := by kernel_rfl
/-- a member that takes the message: W its way as it is handed to 'set' -/
noncomputable def hitK (p : Play) (m : Msg) (j : Int) (W : AV) (g : Option AV → Option AV) (E : Play → Option AV) (S : Play → Nat → (Nat → List AV) → Option AV) : Option AV :=
  rg j p.reps.length <| gC dRMs pRMs eRMs [.agg (encRep (p.reps.getD j.toNat default)), .agg (encMsg m)] fun y0 => rg j p.reps.length <|
  gC dRMs pRMs eRMs [.agg (encRep (p.reps.getD j.toNat default)), .agg (encMsg m)] fun y1 =>
  gC dRep1 RepSame eRep2 [.agg (encRep (handP y0.1 y0.2).1), .agg (encRep (handP y1.1 y1.2).1)] fun _ =>
  gC (dL decMsg) MsgsOk (fun l => [encMsgs l, encMsgs l]) [encMsgs (handP y0.1 y0.2).2, encMsgs (handP y1.1 y1.2).2] fun _ => g <|
  gC dPJR pPJR ePJR [.agg [encReps p.reps, W, .int .i64 p.epoch, encMembers p.valid, eV p.safe], .int .i64 j, .agg (encRep (handP y0.1 y0.2).1)] fun y4 =>
  laid y4.1.way (handP y0.1 y0.2).2 (E (putR y4.1 y4.2.1.toNat y4.2.2)) (S (putR y4.1 y4.2.1.toNat y4.2.2))
def g0 (k : Option AV) : Option AV := k
def gW (n : Nat) (k : Option AV) : Option AV := bif (Nat.beq n 0 || Nat.ble n n) && true && true then k else none
noncomputable def LG (N k : Nat) (s : St) : Option AV := LP env41 N 0 F_lockgatelaw18_give snK 0 [] k s
theorem give_a (N k : Nat) (p : Play) (m : Msg) (j : Int) : LG N (k + 1) (SGa p m j) =
    bif decide (j < (p.reps.length : Int)) then rg j p.reps.length <| bif !decide ((p.reps.getD j.toNat default).self.node = m.dst) then LG N k (SGa p m (IntKind.i64.wrap (j + 1))) else
      hitK p m j (encMsgs p.way) g0 (fun q => LG N k (SGe q m (IntKind.i64.wrap (j + 1)))) (fun q n f => LG N k (SGn q n f m (IntKind.i64.wrap (j + 1))))
    else some (.tup [.agg (encPlay p), .bool true]) := by kernel_rfl
theorem give_b (N k : Nat) (p : Play) (m : Msg) (j : Int) : LG N (k + 1) (SGn p p.way.length (mF p.way) m j) =
    bif decide (j < (p.reps.length : Int)) then rg j p.reps.length <| bif !decide ((p.reps.getD j.toNat default).self.node = m.dst) then LG N k (SGn p p.way.length (mF p.way) m (IntKind.i64.wrap (j + 1))) else
      hitK p m j (encMsgs p.way) (gW p.way.length) (fun q => LG N k (SGe q m (IntKind.i64.wrap (j + 1)))) (fun q n f => LG N k (SGn q n f m (IntKind.i64.wrap (j + 1))))
    else gW p.way.length (some (.tup [.agg (encPlay p), .bool true])) := by kernel_rfl
theorem give_e (N k : Nat) (p : Play) (m : Msg) (j : Int) : LG N (k + 1) (SGe p m j) =
    bif decide (j < (p.reps.length : Int)) then rg j p.reps.length <| bif !decide ((p.reps.getD j.toNat default).self.node = m.dst) then LG N k (SGe p m (IntKind.i64.wrap (j + 1))) else
      hitK p m j (.trl 31 []) g0 (fun q => LG N k (SGe q m (IntKind.i64.wrap (j + 1)))) (fun q n f => LG N k (SGn q n f m (IntKind.i64.wrap (j + 1))))
    else some (.tup [.agg [encReps p.reps, .trl 31 [], .int .i64 p.epoch, encMembers p.valid, eV p.safe], .bool true]) := by kernel_rfl
def SGx (p : Play) (m : Msg) (j : Int) : St := match p.way with
  | [] => SGe p m j
  | l => SGn p l.length (mF l) m j
def oPlayT (p : Play) : AV := .tup [.agg (encPlay p), .bool true]
theorem play_sub {p : Play} {W : AV} (h : SubV W (encMsgs p.way)) : SubC [encReps p.reps, W, .int .i64 p.epoch, encMembers p.valid, eV p.safe] (encPlay p) := .cons (.refl _) (.cons h (.refl _))
theorem gW_eq {n : Nat} {k : Option AV} : gW n k = k := by unfold gW; rw [ru, cond_true]
theorem rest_run {N : Nat} {q : Play} {m : Msg} (hl : q.reps.length ≤ 10000) : ∀ d i k, i + d = q.reps.length → d < k → (∀ i', i ≤ i' → i' < q.reps.length → (repAt q i').self.node ≠ m.dst) →
    ∃ v, LG N k (SGx q m (i : Nat)) = some v ∧ SubV v (oPlayT q) := by
  intro d
  induction d with
  | zero =>
    intro i k hi hk hm
    obtain ⟨k, rfl⟩ : ∃ j, k = j + 1 := ⟨k - 1, by omega⟩
    have hend : decide ((i : Int) < (q.reps.length : Int)) = false := decide_eq_false (by omega)
    unfold SGx
    cases hw : q.way with
    | nil =>
      simp only []
      rw [give_e, hend, cond_false]
      exact ⟨_, rfl, .tup (.cons (.agg (play_sub (by rw [hw]; exact msgs_nil))) (.refl _))⟩
    | cons a l =>
      simp only []
      rw [← hw, give_b, hend, cond_false, gW_eq]
      exact ⟨_, rfl, .refl _⟩
  | succ d ih =>
    intro i k hi hk hm
    obtain ⟨k, rfl⟩ : ∃ j, k = j + 1 := ⟨k - 1, by omega⟩
    have hil : i < q.reps.length := by omega
    have hgo : decide ((i : Int) < (q.reps.length : Int)) = true := decide_eq_true (by omega)
    have hne : decide ((q.reps.getD i default).self.node = m.dst) = false := decide_eq_false (hm i (Nat.le_refl _) hil)
    obtain ⟨v, h1, h2⟩ := ih (i + 1) k (by omega) (by omega) (fun i' a b => hm i' (by omega) b)
    refine ⟨v, ?_, h2⟩
    unfold SGx at h1 ⊢
    cases hw : q.way with
    | nil =>
      rw [hw] at h1
      simp only [] at h1 ⊢
      rw [give_e, hgo, cond_true, rg_eq hil, Int.toNat_natCast, hne, Bool.not_false, cond_true, wrapS (by omega)]
      exact h1
    | cons a l =>
      rw [hw] at h1
      simp only [] at h1 ⊢
      rw [← hw] at h1 ⊢
      rw [give_b, hgo, cond_true, rg_eq hil, Int.toNat_natCast, hne, Bool.not_false, cond_true, wrapS (by omega)]
      exact h1
theorem qRMs' {r : Rep} {m : Msg} {K : Rep × Msg → Option AV} (h : HandOk r m) (h' : Kinds m) : gC dRMs pRMs eRMs [.agg (encRep r), .agg (encMsg m)] K = K (r, m) := qRMs h h'
theorem hit_eq {N : Nat} {p : Play} {m : Msg} {j : Nat} {g : Option AV → Option AV} {E : Play → Option AV} {S : Play → Nat → (Nat → List AV) → Option AV} (hg : ∀ k, g k = k) (hp : PlayIs N p) (hm : MsgIs p.epoch N m) (hk : Kinds m) (hN : N ≤ 1000) (hw : p.way.length ≤ 10000) (hj : j < p.reps.length) :
    hitK p m j (encMsgs p.way) g E S = match p.way ++ (handP (repAt p j) m).2 with
      | [] => E (putR p j (handP (repAt p j) m).1)
      | l => S (putR p j (handP (repAt p j) m).1) l.length (mF l) := by
  have hr := hp.rep j hj
  have hok : HandOk (repAt p j) m := ⟨_, _, hN, hp.epN, hr, hm⟩
  have ho := handP_is hr hm hN hp.epN
  have hlen := hp.hi
  unfold hitK
  rw [rg_eq hj, Int.toNat_natCast]
  have q1 : ∀ K : Rep × Msg → Option AV, gC dRMs pRMs eRMs [.agg (encRep (p.reps.getD j default)), .agg (encMsg m)] K = K (repAt p j, m) := fun K => qRMs hok hk
  rw [q1, rg_eq hj, q1]
  simp only []
  have q2 : ∀ K : Rep → Option AV, gC dRep1 RepSame eRep2 [.agg (encRep (handP (repAt p j) m).1), .agg (encRep (handP (repAt p j) m).1)] K = K (handP (repAt p j) m).1 := fun K => gC_eq _ (dec_encRep _) (ho.rep.same hN) (.refl _)
  have q3 : ∀ K : List Msg → Option AV, gC (dL decMsg) MsgsOk (fun l => [encMsgs l, encMsgs l]) [encMsgs (handP (repAt p j) m).2, encMsgs (handP (repAt p j) m).2] K = K (handP (repAt p j) m).2 := fun K =>
    gC_eq _ (decMsgs _) (msgs_ok (by have := ho.len; omega) ho.msgs hN hp.epN) (.refl _)
  rw [q2, q3, hg]
  have q4 : ∀ K : Play × Int × Rep → Option AV, gC dPJR pPJR ePJR [.agg [encReps p.reps, encMsgs p.way, .int .i64 p.epoch, encMembers p.valid, eV p.safe], .int .i64 (j : Int), .agg (encRep (handP (repAt p j) m).1)] K = K (p, (j : Int), (handP (repAt p j) m).1) := fun K => qSet hj (by omega)
  rw [q4]
  simp only [Int.toNat_natCast]
  rw [laid_eq (by omega) (by have := ho.len; omega)]
def pGive (x : Play × Msg) : Prop := (∃ N, N ≤ 1000 ∧ PlayIs N x.1 ∧ MsgIs x.1.epoch N x.2) ∧ Kinds x.2 ∧ x.1.way.length ≤ 10000
theorem give_run {M N : Nat} {p : Play} {m : Msg} (hp : PlayIs N p) (hm : MsgIs p.epoch N m) (hk : Kinds m) (hN : N ≤ 1000) (hw : p.way.length ≤ 10000) : ∀ d i k, i + d = p.reps.length → d < k →
    ∃ v, LG M k (SGa p m (i : Nat)) = some v ∧ SubV v (oPlayT (giveF m d i p)) := by
  intro d
  induction d with
  | zero =>
    intro i k hi hk
    obtain ⟨k, rfl⟩ : ∃ j, k = j + 1 := ⟨k - 1, by omega⟩
    rw [give_a, decide_eq_false (by omega), cond_false]
    exact ⟨_, rfl, .refl _⟩
  | succ d ih =>
    intro i k hi hk'
    obtain ⟨k, rfl⟩ : ∃ j, k = j + 1 := ⟨k - 1, by omega⟩
    have hil : i < p.reps.length := by omega
    have hlen := hp.hi
    rw [give_a, decide_eq_true (by omega), cond_true, rg_eq hil, Int.toNat_natCast]
    have hgf : giveF m (d + 1) i p = giveF m d (i + 1) (giveAt p m i) := rfl
    rw [hgf]
    unfold giveAt
    by_cases hd : (repAt p i).self.node = m.dst
    · have hd' : decide ((p.reps.getD i default).self.node = m.dst) = true := decide_eq_true hd
      rw [hd', decide_eq_true hd, Bool.not_true, cond_false, cond_true, hit_eq (g := g0) (fun _ => rfl) hp hm hk hN hw hil, wrapS (by omega)]
      have hr := handP_is (hp.rep i hil) hm hN hp.epN
      have hs := hp.self.put hil hr.self
      have hne : ∀ i', i + 1 ≤ i' → i' < p.reps.length → (repAt (putR p i (handP (repAt p i) m).1) i').self.node ≠ m.dst := by
        intro i' a b e
        have h1 := hs i' (by rw [putR_len]; exact b)
        have h2 := hp.self i hil
        rw [h1] at e
        rw [h2] at hd
        simp only [mem0] at e hd
        omega
      have hx : (match p.way ++ (handP (repAt p i) m).2 with
          | [] => LG M k (SGe (putR p i (handP (repAt p i) m).1) m ((i + 1 : Nat) : Int))
          | l => LG M k (SGn (putR p i (handP (repAt p i) m).1) l.length (mF l) m ((i + 1 : Nat) : Int))) = LG M k (SGx (layW (putR p i (handP (repAt p i) m).1) (handP (repAt p i) m).2) m ((i + 1 : Nat) : Int)) := by
        unfold SGx layW
        show _ = LG M k (match p.way ++ (handP (repAt p i) m).2 with
          | [] => _
          | l => _)
        cases p.way ++ (handP (repAt p i) m).2 <;> rfl
      rw [hx, giveF_none d (i + 1) (layW (putR p i (handP (repAt p i) m).1) (handP (repAt p i) m).2) (fun i' a b => hne i' a (by omega))]
      exact rest_run (q := layW (putR p i (handP (repAt p i) m).1) (handP (repAt p i) m).2) (by show (putR p i _).reps.length ≤ _; rw [putR_len]; omega) d (i + 1) k (by show _ = (putR p i _).reps.length; rw [putR_len]; omega) (by omega) (fun i' a b => hne i' a (by have b : i' < (putR p i (handP (repAt p i) m).1).reps.length := b; rw [putR_len] at b; exact b))
    · have hd' : decide ((p.reps.getD i default).self.node = m.dst) = false := decide_eq_false hd
      rw [hd', decide_eq_false hd, Bool.not_false, cond_true, cond_false, wrapS (by omega)]
      exact ih (i + 1) k (by omega) (by omega)
def dPM (a : List AV) : Play × Msg := (decPlay (argC a 0), decMsg (argC a 1))
def ePM (x : Play × Msg) : List AV := [.agg (encPlay x.1), .agg (encMsg x.2)]
def oPM (x : Play × Msg) : AV := oPlayT (giveP x.1 x.2)
theorem give_con (x : Play × Msg) (h : pGive x) : Contract PG F_lockgatelaw18_give (ePM x) [] (oPM x) [] := by
  obtain ⟨p, m⟩ := x
  obtain ⟨⟨N, hN, hp, hm⟩, hk, hw⟩ := h
  obtain ⟨v, h1, h2⟩ := give_run (M := p.reps.length + 1) hp hm hk hN hw p.reps.length 0 (p.reps.length + 1) (Nat.zero_add _) (Nat.lt_succ_self _)
  rw [Int.natCast_zero] at h1
  exact (con41 ((give_in (p.reps.length + 1) p m).trans h1)).res h2
noncomputable def kGive : Known := .spec F_lockgatelaw18_give dPM pGive ePM oPM
theorem kGive_ok : kGive.Ok PG := Known.spec_ok give_con
theorem qGive {R : Type} {p : Play} {m : Msg} {K : Play × Msg → Option R} (h : pGive (p, m)) : gC dPM pGive ePM [.agg (encPlay p), .agg (encMsg m)] K = K (p, m) := gC_eq (p, m) (Prod.ext (dec_encPlay p) (dec_encMsg m)) h (.refl _)
end Go.Wk
end

section
/- What has been committed is noted. -/
open Go Go.AM Go.Md
namespace Go.Wk
set_option maxRecDepth 100000
set_option maxHeartbeats 400000
noncomputable def kns42 : List Known := [kHead, kCommit, kLater]
theorem kns42_ok : ∀ k ∈ kns42, k.Ok PG := ak kHead_ok (ak kCommit_ok (ak kLater_ok ank))
noncomputable def env42 : Env := envO kns42
def SNt (p : Play) (j : Int) : St := { fr := [(1, .ptr 0 0 0), (2, .ptr 1 0 0), (3, .int .i64 j)], hp := [.arr true 5 [encPlay p], .arr true 5 [zPlay]] }
noncomputable def LN (N k : Nat) (s : St) : Option AV := LP env42 N 0 F_lockgatelaw18_note snK 0 [] k s
theorem note_in (N : Nat) (p : Play) : callT env42 (N + 1) F_lockgatelaw18_note [.agg (encPlay p)] = LN N N (SNt p 0) := by kernel_rfl
noncomputable def notK (p : Play) (r : Rep) (va : List Member) (S : Play → Option AV) : Option AV := gC dRep1 pRep1 eRep1 [.agg (encRep r)] fun y1 => gC dV2 V2 eV2 [eV p.safe, eV (commitP y1)] fun y2 => S { p with valid := va, safe := vmax y2.1 y2.2 }
theorem note_step (N k : Nat) (p : Play) (j : Int) : LN N (k + 1) (SNt p j) =
    bif decide (j < (p.reps.length : Int)) then rg j p.reps.length <| bif decide ((p.reps.getD j.toNat default).view.epoch = p.epoch) then
      gC dRep1 pRep1 eRep1 [.agg (encRep (p.reps.getD j.toNat default))] fun y0 => bif headP y0 then notK p (p.reps.getD j.toNat default) (p.reps.getD j.toNat default).view.chain (fun q => LN N k (SNt q (IntKind.i64.wrap (j + 1))))
        else notK p (p.reps.getD j.toNat default) p.valid (fun q => LN N k (SNt q (IntKind.i64.wrap (j + 1))))
      else notK p (p.reps.getD j.toNat default) p.valid (fun q => LN N k (SNt q (IntKind.i64.wrap (j + 1))))
    else some (.agg (encPlay p)) := by kernel_rfl
theorem notK_eq {N : Nat} {p : Play} {r : Rep} {va : List Member} {S : Play → Option AV} (hp : VB N p.safe) (hr : RepIs p.epoch N r) (hN : N ≤ 1000) : notK p r va S = S { p with valid := va, safe := vmax p.safe (commitP r) } := by
  unfold notK
  have q1 : ∀ K : Rep → Option AV, gC dRep1 pRep1 eRep1 [.agg (encRep r)] K = K r := fun K => qRep1 (P := pRep1) trivial
  have q2 : ∀ K : Ver × Ver → Option AV, gC dV2 V2 eV2 [eV p.safe, eV (commitP r)] K = K (p.safe, commitP r) := fun K => qV2 (hp.num hN) ((commitP_is hr).1.num hN)
  rw [q1, q2]
theorem note_run {M N : Nat} (hN : N ≤ 1000) : ∀ d i k p, PlayIs N p → i + d = p.reps.length → d < k → LN M k (SNt p (i : Nat)) = some (.agg (encPlay (noteF d i p))) := by
  intro d
  induction d with
  | zero =>
    intro i k p hp hi hk
    obtain ⟨k, rfl⟩ : ∃ j, k = j + 1 := ⟨k - 1, by omega⟩
    rw [note_step, decide_eq_false (by omega), cond_false]; rfl
  | succ d ih =>
    intro i k p hp hi hk
    obtain ⟨k, rfl⟩ : ∃ j, k = j + 1 := ⟨k - 1, by omega⟩
    have hil : i < p.reps.length := by omega
    have hlen := hp.hi
    have hr : RepIs p.epoch N (p.reps.getD i default) := hp.rep i hil
    have hn := note_is 1 i hp (by omega)
    have e1 : noteF 1 i p = noteAt p i := rfl
    rw [e1] at hn
    have q1 : ∀ K : Rep → Option AV, gC dRep1 pRep1 eRep1 [.agg (encRep (p.reps.getD i default))] K = K (p.reps.getD i default) := fun K => qRep1 (P := pRep1) trivial
    rw [note_step, decide_eq_true (by omega), cond_true, rg_eq hil, Int.toNat_natCast, q1, notK_eq hp.safe hr hN, notK_eq hp.safe hr hN, wrapS (by omega)]
    have e : noteF (d + 1) i p = noteF d (i + 1) (noteAt p i) := rfl
    rw [e, ← ih (i + 1) k (noteAt p i) hn.1 (by rw [hn.2.2.1]; omega) (by omega)]
    unfold noteAt
    show (bif decide ((repAt p i).view.epoch = p.epoch) then (bif headP (repAt p i) then _ else _) else _) = _
    cases decide ((repAt p i).view.epoch = p.epoch) with
    | false => rfl
    | true =>
      cases headP (repAt p i) with
      | true => rfl
      | false => rfl
def dP1 (a : List AV) : Play := decPlay (argC a 0)
def pP1 (p : Play) : Prop := ∃ N, N ≤ 1000 ∧ PlayIs N p
def eP1 (p : Play) : List AV := [.agg (encPlay p)]
theorem note_con (p : Play) (h : pP1 p) : Contract PG F_lockgatelaw18_note (eP1 p) [] (.agg (encPlay (noteP p))) [] := by
  obtain ⟨N, hN, hp⟩ := h
  have r0 := note_run (M := p.reps.length + 1) hN p.reps.length 0 (p.reps.length + 1) p hp (Nat.zero_add _) (Nat.lt_succ_self _)
  rw [Int.natCast_zero] at r0
  exact con_of (md := fun _ => none) kns42_ok ((note_in (p.reps.length + 1) p).trans r0)
noncomputable def kNote : Known := .spec F_lockgatelaw18_note dP1 pP1 eP1 (fun p => .agg (encPlay (noteP p)))
theorem kNote_ok : kNote.Ok PG := Known.spec_ok note_con
theorem qNote {R : Type} {p : Play} {K : Play → Option R} (h : pP1 p) : gC dP1 pP1 eP1 [.agg (encPlay p)] K = K p := gC_eq p (dec_encPlay p) h (.refl _)
end Go.Wk
end

section
/- A new epoch: the first loop. -/
open Go Go.AM Go.Md
namespace Go.Wk
set_option maxRecDepth 100000
set_option maxHeartbeats 400000
noncomputable def kns43 : List Known := [kIn, kGive, kAhead]
theorem kns43_ok : ∀ k ∈ kns43, k.Ok PG := ak kIn_ok (ak kGive_ok (ak kAhead_ok ank))
def frz43 (f id : Nat) : List Nat := bif Nat.beq f F_lockgatelaw18_turn && Nat.beq id 26 then [12] else []
noncomputable def env43 : Env := { envL [(F_lockgatelaw18_turn, 0, [1, 2, 4, 6, 7, 8, 1002]), (F_lockgatelaw18_turn, 2, [1, 2, 4, 6, 7, 11, 12, 13, 1002, 1004])] (fun _ => none) kns43 with frz := frz43 }
theorem con43 {n f : Nat} {args : List AV} {r : AV} (e : callT env43 n f args = some r) : Contract PG f args [] r [] := callT_ok ⟨tt_ok rfl, orc_ok kns43_ok⟩ (codeOf_ok rfl) mixed e

/-! ### what is up -/
def upE (u j : Int) : Int := IntKind.u8.wrap ((BitVec.ofInt IntKind.u8.bits (u.fdiv (2 ^ min (j.tmod 8).toNat IntKind.u8.bits)) &&& BitVec.ofInt IntKind.u8.bits 1).toNat : Int)
def upB (u : Int) (j : Nat) : Bool := decide (upE u j = 1)
theorem upE_or (u j : Int) : upE u j = 0 ∨ upE u j = 1 := by
  unfold upE
  rw [BitVec.toNat_and]
  have e : (BitVec.ofInt IntKind.u8.bits 1).toNat = 1 := by decide
  rw [e, Nat.and_one_is_mod]
  rcases Nat.mod_two_eq_zero_or_one (BitVec.ofInt IntKind.u8.bits (u.fdiv (2 ^ min (j.tmod 8).toNat IntKind.u8.bits))).toNat with h | h
  · rw [h]; exact .inl (by decide)
  · rw [h]; exact .inr (by decide)
theorem up0 (u : Int) (j : Nat) : decide (upE u j = 0) = !upB u j := by
  unfold upB
  rcases upE_or u j with h | h <;> rw [h] <;> decide
theorem tmod_nn (j : Nat) : decide ((j : Int).tmod 8 < 0) = false := by
  refine decide_eq_false ?_
  have := Int.tmod_nonneg (8 : Int) (by omega : (0 : Int) ≤ j)
  omega

/-! ### the first loop -/
def plW (p : Play) (n : Nat) (f : Nat → List AV) : List AV := [encReps p.reps, .tr 31 n f, .int .i64 p.epoch, encMembers p.valid, eV p.safe]
def ST1 (p : Play) (n : Nat) (f : Nat → List AV) (u : Int) (b : Int) (ke : AV) (rest : Heap) (j : Int) : St := { fr := [(1, .int .u8 u), (2, .ptr 0 0 0), (4, .ptr 1 0 0), (6, .int .i64 b), (7, ke), (8, .int .i64 j), (1002, .undef)], hp := .arr true 5 [plW p n f] :: .arr true 5 [zPlay] :: rest }
def ST2 (p : Play) (n : Nat) (f : Nat → List AV) (u : Int) (b : Int) (ke l : AV) (rest : Heap) (j : Int) : St := { fr := [(1, .int .u8 u), (2, .ptr 0 0 0), (4, .ptr 1 0 0), (6, .int .i64 b), (7, ke), (11, .ptr 3 0 0), (12, l), (13, .int .i64 j), (1002, .undef), (1004, .undef)], hp := .arr true 5 [plW p n f] :: .arr true 5 [zPlay] :: rest }
def ST2e (p : Play) (n : Nat) (f : Nat → List AV) (u : Int) (b : Int) (h : Member) (j : Int) : St := { fr := [(1, .int .u8 u), (2, .ptr 0 0 0), (4, .ptr 1 0 0), (6, .int .i64 b), (7, .nils), (11, .ptr 2 0 0), (12, .sl 2 3 0 1 1), (13, .int .i64 j), (1002, .undef), (1004, .undef)], hp := [.arr true 5 [plW p n f], .arr true 5 [zPlay], seqB (.arr true 2 [encMember h]), .arr true 2 [encMember h]] }
noncomputable def LT1 (N k : Nat) (s : St) : Option AV := LP env43 N 0 F_lockgatelaw18_turn snK 0 [] k s
noncomputable def LT2 (N k : Nat) (s : St) : Option AV := LP env43 N 0 F_lockgatelaw18_turn snK 2 [] k s
def frzC (h : Member) (e : Int) : List AV := [.int .i64 8, .int .i64 1, .int .i64 h.node, .int .i64 h.boot, .int .i64 0, .int .i64 0, .int .i64 e, .int .i64 0, .int .i64 0, .int .i64 0, .int .i64 0, .int .i64 0, .bool false, .bool false, .str [], .str [], .cplx .f64 0 0, .cplx .f64 0 0, .int .i64 0, .str [], .str [], .str [], .bool false, .nils, .nils, .nils, .cplx .f64 0 0, .cplx .f64 0 0, .int .i64 0, .nils, .nils]
def slK {R : Type} (i n : Int) (k : Option R) : Option R := bif decide (0 ≤ i) && decide (i ≤ n) then k else none
noncomputable def betK (q : Play) (j b : Int) (A B : Option AV) : Option AV :=
  bif decide (b < 0) then A else rg j q.reps.length <| rg b q.reps.length <| bif decide ((q.reps.getD b.toNat default).view.epoch < (q.reps.getD j.toNat default).view.epoch) then A else
  rg j q.reps.length <| rg b q.reps.length <| bif decide ((q.reps.getD j.toNat default).view.epoch = (q.reps.getD b.toNat default).view.epoch) then
    rg b q.reps.length <| rg j q.reps.length <| gC dV2 V2 eV2 [eV (q.reps.getD b.toNat default).tail.last, eV (q.reps.getD j.toNat default).tail.last] fun y => bif vlt y.1 y.2 then A else B
  else B
def cutN (q : Play) : Nat := (IntKind.i64.wrap ((q.way.length : Int) - 1)).toNat
def cutF (q : Play) : Nat → List AV := fun i => bif Nat.blt i (cutN q) then encMsg (q.way.getD (0 + i) default) else encMsg (q.way.getD q.way.length default)
noncomputable def stT (p : Play) (n : Nat) (f : Nat → List AV) (u b j : Int) (C : Option AV) (rm : Option AV → Option AV) (D : Play → Int → Option AV) (E : Option AV) : Option AV :=
  bif decide (j < (p.reps.length : Int)) then bif decide (j.tmod 8 < 0) then none else bif decide (upE u j = 0) then C else rg j p.reps.length <|
    gC decLM preLM encLM [encMembers p.valid, .agg (encMember (p.reps.getD j.toNat default).self)] fun y0 => bif !decide (y0.2 ∈ y0.1) then C else rg j p.reps.length <| rg j p.reps.length <|
    gC dPM pGive ePM [.agg (plW p n f), .agg (frzC (p.reps.getD j.toNat default).self p.epoch)] fun y1 =>
    slK (IntKind.i64.wrap (((giveP y1.1 y1.2).way.length : Int) - 1)) (giveP y1.1 y1.2).way.length <| rg j (giveP y1.1 y1.2).reps.length <| rm <|
    betK (giveP y1.1 y1.2) j b (D (giveP y1.1 y1.2) j) (D (giveP y1.1 y1.2) b)
  else E
def endT (p : Play) (n : Nat) (f : Nat → List AV) (b : Int) (X : Option AV) : Option AV := bif decide (b < 0) then some (.tup [.agg (plW p n f), .bool true]) else rg b p.reps.length X
def rmT (m : Nat) (k : Option AV) : Option AV := bif Nat.beq m 0 || Nat.ble m m then bif Nat.ble ((m + 1) * 16) 140737488355328 && Nat.ble (m + 1) 140737488355328 then k else none else none
def slf (q : Play) (j : Int) : Member := (q.reps.getD j.toNat default).self
theorem turn_in (N : Nat) (p : Play) (u : Int) : callT env43 (N + 1) F_lockgatelaw18_turn [.agg (encPlay p), .int .u8 u] = LT1 N N (ST1 { p with epoch := IntKind.i64.wrap (p.epoch + 1) } p.way.length (mF p.way) u (-1) .nils [] 0) := by kernel_rfl
theorem turn_0 (N k : Nat) (p : Play) (n : Nat) (f : Nat → List AV) (u b j : Int) : LT1 N (k + 1) (ST1 p n f u b .nils [] j) =
    stT p n f u b j (LT1 N k (ST1 p n f u b .nils [] (IntKind.i64.wrap (j + 1)))) g0
      (fun q b' => LT1 N k (ST1 q (cutN q) (cutF q) u b' (.sl 2 2 0 1 1) [.seq true 2 1 fun i => [encMember (slf q j)].getD i (encMember (slf q j))] (IntKind.i64.wrap (j + 1))))
      (endT p n f b (LT2 N N (ST2e p n f u b (slf p b) 0))) := by kernel_rfl
theorem turn_1 (N k : Nat) (p : Play) (n : Nat) (f : Nat → List AV) (u b j : Int) (g : Nat → List AV) : LT1 N (k + 1) (ST1 p n f u b (.sl 2 2 0 1 1) [.seq true 2 1 g] j) =
    stT p n f u b j (LT1 N k (ST1 p n f u b (.sl 2 2 0 1 1) [.seq true 2 1 g] (IntKind.i64.wrap (j + 1)))) g0
      (fun q b' => LT1 N k (ST1 q (cutN q) (cutF q) u b' (.sl 2 2 0 2 0) [.seq true 2 2 fun i => bif Nat.blt i 1 then g i else bif Nat.blt i 2 then [encMember (slf q j)].getD (i - 1) [] else g 1] (IntKind.i64.wrap (j + 1))))
      (endT p n f b (LT2 N N (ST2 p n f u b (.sl 2 2 0 1 1) (.sl 2 4 0 1 1) [.seq true 2 1 g, .arr true 2 [encMember (slf p b)], .seq true 2 1 fun i => [encMember (slf p b)].getD i (encMember (slf p b))] 0))) := by kernel_rfl
theorem turn_m (N k : Nat) (p : Play) (n : Nat) (f : Nat → List AV) (u b j : Int) (m : Nat) (g : Nat → List AV) : LT1 N (k + 1) (ST1 p n f u b (.sl 2 2 0 m 0) [.seq true 2 m g] j) =
    stT p n f u b j (LT1 N k (ST1 p n f u b (.sl 2 2 0 m 0) [.seq true 2 m g] (IntKind.i64.wrap (j + 1)))) (rmT m)
      (fun q b' => LT1 N k (ST1 q (cutN q) (cutF q) u b' (.sl 2 2 0 (m + 1) 0) [.seq true 2 (m + 1) fun i => bif Nat.blt i m then g i else bif Nat.blt i (m + 1) then [encMember (slf q j)].getD (i - m) [] else g m] (IntKind.i64.wrap (j + 1))))
      (endT p n f b (LT2 N N (ST2 p n f u b (.sl 2 2 0 m 0) (.sl 2 4 0 1 1) [.seq true 2 m g, .arr true 2 [encMember (slf p b)], .seq true 2 1 fun i => [encMember (slf p b)].getD i (encMember (slf p b))] 0))) := by kernel_rfl
end Go.Wk
end

section
/- A new epoch, whole. -/
open Go Go.AM Go.Md
namespace Go.Wk
set_option maxRecDepth 100000
set_option maxHeartbeats 400000
/-! ### the second loop -/
def actC (h : Member) (e : Int) (L : AV) : List AV := [.int .i64 10, .int .i64 0, .int .i64 h.node, .int .i64 h.boot, .int .i64 0, .int .i64 0, .int .i64 e, .int .i64 0, .int .i64 0, .int .i64 0, .int .i64 0, .int .i64 0, .bool false, .bool false, .str [], .str [], .cplx .f64 0 0, .cplx .f64 0 0, .int .i64 0, .str [], .str [], .str [], .bool false, .nils, L, .nils, .cplx .f64 0 0, .cplx .f64 0 0, .int .i64 0, .nils, .nils]
def finK (p : Play) (n : Nat) (f : Nat → List AV) (h : Member) (L : AV) (m : Nat) (g : Nat → List AV) : Option AV :=
  bif Nat.ble ((0 + n) * 392) 140737488355328 && Nat.ble (0 + n) 140737488355328 then
    bif Nat.beq n 0 then
      bif (Nat.beq m 0 || Nat.ble m m) && true && true then some (.tup [.agg [encReps p.reps, .trl 31 [actC h p.epoch L], .int .i64 p.epoch, .tr 2 m g, eV p.safe], .bool true]) else none
    else bif Nat.beq n 0 || Nat.ble n n then bif Nat.ble ((n + 1) * 392) 140737488355328 && Nat.ble (n + 1) 140737488355328 then
      bif Nat.ble (n + 1) (n + 1) && ((Nat.beq m 0 || Nat.ble m m) && true) && true then
        some (.tup [.agg [encReps p.reps, .tr 31 (n + 1) (fun i => bif Nat.blt i n then f i else bif Nat.blt i (n + 1) then [actC h p.epoch L].getD (i - n) [] else f n), .int .i64 p.epoch, .tr 2 m g, eV p.safe], .bool true])
      else none else none else none
  else none
def st2 (p : Play) (u b j : Int) (C : Option AV) (rm : Option AV → Option AV) (D E : Option AV) : Option AV :=
  bif decide (j < (p.reps.length : Int)) then bif decide (j.tmod 8 < 0) then none else bif decide (upE u j = 1) then bif !decide (j = b) then rg j p.reps.length <| rm D else C else C
  else E
def gN2 (n : Nat) (k : Option AV) : Option AV := bif Nat.beq n 0 || Nat.ble n n then k else none
theorem turn2_1 (N k : Nat) (p : Play) (n : Nat) (f : Nat → List AV) (u b j : Int) (m c : Nat) (g : Nat → List AV) (h : Member) (g2 : Nat → List AV) :
    LT2 N (k + 1) (ST2 p n f u b (.sl 2 2 0 m c) (.sl 2 4 0 1 1) [.seq true 2 m g, .arr true 2 [encMember h], .seq true 2 1 g2] j) =
    st2 p u b j (LT2 N k (ST2 p n f u b (.sl 2 2 0 m c) (.sl 2 4 0 1 1) [.seq true 2 m g, .arr true 2 [encMember h], .seq true 2 1 g2] (IntKind.i64.wrap (j + 1)))) g0
      (LT2 N k (ST2 p n f u b (.sl 2 2 0 m c) (.sl 2 4 0 2 0) [.seq true 2 m g, .arr true 2 [encMember h], .seq true 2 2 fun i => bif Nat.blt i 1 then g2 i else bif Nat.blt i 2 then [encMember (slf p j)].getD (i - 1) [] else g2 1] (IntKind.i64.wrap (j + 1))))
      (finK p n f h (.tr 2 1 g2) m g) := by kernel_rfl
theorem turn2_m (N k : Nat) (p : Play) (n : Nat) (f : Nat → List AV) (u b j : Int) (m c : Nat) (g : Nat → List AV) (h : Member) (n2 : Nat) (g2 : Nat → List AV) :
    LT2 N (k + 1) (ST2 p n f u b (.sl 2 2 0 m c) (.sl 2 4 0 n2 0) [.seq true 2 m g, .arr true 2 [encMember h], .seq true 2 n2 g2] j) =
    st2 p u b j (LT2 N k (ST2 p n f u b (.sl 2 2 0 m c) (.sl 2 4 0 n2 0) [.seq true 2 m g, .arr true 2 [encMember h], .seq true 2 n2 g2] (IntKind.i64.wrap (j + 1)))) (rmT n2)
      (LT2 N k (ST2 p n f u b (.sl 2 2 0 m c) (.sl 2 4 0 (n2 + 1) 0) [.seq true 2 m g, .arr true 2 [encMember h], .seq true 2 (n2 + 1) fun i => bif Nat.blt i n2 then g2 i else bif Nat.blt i (n2 + 1) then [encMember (slf p j)].getD (i - n2) [] else g2 n2] (IntKind.i64.wrap (j + 1))))
      (gN2 n2 (finK p n f h (.tr 2 n2 g2) m g)) := by kernel_rfl
end Go.Wk
end

section
/- A new epoch: what it comes to. -/
open Go Go.AM Go.Md
namespace Go.Wk
set_option maxRecDepth 100000
set_option maxHeartbeats 400000
theorem rmT_eq {n : Nat} (h : n ≤ 1000000) : rmT n = g0 := by
  funext k
  unfold rmT g0
  rw [orU, roomU (b := 16) (by omega) h, cond_true, cond_true]
theorem gN2_eq {n : Nat} {k : Option AV} : gN2 n k = k := by unfold gN2; rw [orU, cond_true]
def mC (l : List Member) : Nat → List AV := canF encMember default l
def STg (p : Play) (n : Nat) (f : Nat → List AV) (u b : Int) (l : List Member) (j : Int) : St := ST1 p n f u b (gSl 2 2 l) (gBl 2 encMember default l) j
def ST2g (p : Play) (n : Nat) (f : Nat → List AV) (u b : Int) (m c : Nat) (g : Nat → List AV) (h : Member) (l : List Member) (j : Int) : St := ST2 p n f u b (.sl 2 2 0 m c) (gSl 2 4 l) (.seq true 2 m g :: .arr true 2 [encMember h] :: gBl 2 encMember default l) j
theorem ST2g_app {p : Play} {n : Nat} {f : Nat → List AV} {u b : Int} {m c : Nat} {g : Nat → List AV} {h : Member} {l : List Member} {x : Member} {j : Int} (hl : l ≠ []) :
    ST2 p n f u b (.sl 2 2 0 m c) (.sl 2 4 0 (l.length + 1) 0) [.seq true 2 m g, .arr true 2 [encMember h], .seq true 2 (l.length + 1) fun i => bif Nat.blt i l.length then mC l i else bif Nat.blt i (l.length + 1) then [encMember x].getD (i - l.length) [] else mC l l.length] j = ST2g p n f u b m c g h (l ++ [x]) j := by
  unfold ST2g
  rw [gSl_app hl, gBl_app hl]
  unfold mC
  rw [canF_app hl]
theorem turn2_step {N k : Nat} {p : Play} {n : Nat} {f : Nat → List AV} {u b j : Int} {m c : Nat} {g : Nat → List AV} {h : Member} {l : List Member} (hl : l ≠ []) (hl2 : l.length ≤ 1000) :
    LT2 N (k + 1) (ST2g p n f u b m c g h l j) = st2 p u b j (LT2 N k (ST2g p n f u b m c g h l (IntKind.i64.wrap (j + 1)))) g0 (LT2 N k (ST2g p n f u b m c g h (l ++ [slf p j]) (IntKind.i64.wrap (j + 1)))) (finK p n f h (gTr 2 encMember default l) m g) := by
  match l, hl, hl2 with
  | [a], hl, _ =>
    have e := turn2_1 N k p n f u b j m c g h (mC [a])
    have e2 := ST2g_app (p := p) (n := n) (f := f) (u := u) (b := b) (m := m) (c := c) (g := g) (h := h) (x := slf p j) (j := IntKind.i64.wrap (j + 1)) hl
    rw [← e2]
    exact e
  | a :: d :: l, hl, hl2 =>
    have e := turn2_m N k p n f u b j m c g h (a :: d :: l).length (mC (a :: d :: l))
    have e2 := ST2g_app (p := p) (n := n) (f := f) (u := u) (b := b) (m := m) (c := c) (g := g) (h := h) (x := slf p j) (j := IntKind.i64.wrap (j + 1)) hl
    rw [rmT_eq (by omega), gN2_eq] at e
    rw [← e2]
    exact e
theorem turn2_run {N : Nat} {p : Play} {n : Nat} {f : Nat → List AV} {u : Int} {b : Nat} {m c : Nat} {g : Nat → List AV} {h : Member} (hp : p.reps.length ≤ 100) : ∀ d j k l, j + d = p.reps.length → d < k → l ≠ [] → l.length ≤ j + 1 →
    LT2 N k (ST2g p n f u b m c g h l (j : Nat)) = finK p n f h (gTr 2 encMember default (l ++ restF (upB u) b p d j)) m g := by
  intro d
  induction d with
  | zero =>
    intro j k l hj hk hl hl2
    obtain ⟨k, rfl⟩ : ∃ i, k = i + 1 := ⟨k - 1, by omega⟩
    rw [turn2_step hl (by omega)]
    unfold st2
    rw [decide_eq_false (by omega), cond_false]
    show _ = finK p n f h (gTr 2 encMember default (l ++ [])) m g
    rw [List.append_nil]
  | succ d ih =>
    intro j k l hj hk hl hl2
    obtain ⟨k, rfl⟩ : ∃ i, k = i + 1 := ⟨k - 1, by omega⟩
    have hjl : j < p.reps.length := by omega
    rw [turn2_step hl (by omega)]
    unfold st2
    rw [decide_eq_true (by omega), cond_true, tmod_nn, cond_false, wrapS (by omega), dec_int, rg_eq hjl]
    have e1 : decide (upE u (j : Int) = 1) = upB u j := rfl
    have e2 : restF (upB u) b p (d + 1) j = bif upB u j && !decide (j = b) then (repAt p j).self :: restF (upB u) b p d (j + 1) else restF (upB u) b p d (j + 1) := rfl
    have e3 : slf p (j : Int) = (repAt p j).self := by unfold slf; rw [Int.toNat_natCast]; rfl
    rw [e1, e2, e3]
    cases upB u j with
    | false => simp only [cond_false, Bool.false_and]; exact ih (j + 1) k l (by omega) (by omega) hl (by omega)
    | true =>
      cases decide (j = b) with
      | true => simp only [cond_true, cond_false, Bool.not_true, Bool.and_false]; exact ih (j + 1) k l (by omega) (by omega) hl (by omega)
      | false =>
        simp only [cond_true, Bool.not_false, Bool.and_true]
        have := ih (j + 1) k (l ++ [(repAt p j).self]) (by omega) (by omega) (by simp) (by simp; omega)
        rw [List.append_assoc] at this
        exact this
/-- the cells of a play's way, as they stand -/
def WayF (p : Play) (n : Nat) (f : Nat → List AV) : Prop := n = p.way.length ∧ ∀ i, i < n → f i = mF p.way i
theorem WayF.sub {p : Play} {n : Nat} {f : Nat → List AV} (h : WayF p n f) : SubV (.tr 31 n f) (encMsgs p.way) := by
  obtain ⟨rfl, h⟩ := h
  exact SubV.trs fun i hi => by rw [h i hi]; exact .refl _
theorem WayF.dec {p : Play} {n : Nat} {f : Nat → List AV} (h : WayF p n f) : decPlay (plW p n f) = p := by
  obtain ⟨rfl, h⟩ := h
  show (⟨decL decRep (encReps p.reps), decL decMsg (.tr 31 p.way.length f), p.epoch, decL decMember (encMembers p.valid), p.safe⟩ : Play) = p
  have e : decL decMsg (.tr 31 p.way.length f) = p.way := by
    show (List.range p.way.length).map (fun i => decMsg (f i)) = p.way
    refine List.ext_getElem (by simp) fun i h1 h2 => ?_
    simp only [List.getElem_map, List.getElem_range]
    rw [h i h2]
    unfold mF
    rw [dec_encMsg]
    simp [List.getD, List.getElem?_eq_getElem h2]
  rw [e, decReps, decMembers]
theorem WayF.plSub {p : Play} {n : Nat} {f : Nat → List AV} (h : WayF p n f) : SubC (plW p n f) (encPlay p) := play_sub h.sub
theorem actC_sub {h : Member} {e : Int} {L : AV} {l : List Member} (hL : SubV L (encMembers l)) : SubC (actC h e L) (encMsg (actMsg h e false l)) :=
  subC_all (by repeat' (first | exact trivial | exact hL | exact nilsL | exact SubV.refl _ | refine ⟨?_, ?_⟩))
theorem mC_at {l : List Member} {i : Nat} (h : i < l.length) : mC l i = encMember (l.getD i default) := canF_at h
theorem keep_sub (l : List Member) : SubV (.tr 2 l.length (mC l)) (encMembers l) := SubV.trs fun i hi => by rw [mC_at hi]; exact .refl _
theorem fin_out {p : Play} {n : Nat} {f : Nat → List AV} {h : Member} {L : AV} {l ke : List Member} (hw : WayF p n f) (hn : n ≤ 100000) (hL : SubV L (encMembers l)) :
    ∃ v, finK p n f h L ke.length (mC ke) = some v ∧ SubV v (oPlayT { p with valid := ke, way := p.way ++ [actMsg h p.epoch false l] }) := by
  unfold finK
  rw [roomV (n := 0 + n) (b := 392) (by omega) (by omega), cond_true]
  have hm : (Nat.beq ke.length 0 || Nat.ble ke.length ke.length) = true := orU _
  obtain ⟨hn1, hf⟩ := hw
  cases n with
  | zero =>
    rw [show Nat.beq 0 0 = true from rfl, cond_true, hm]
    have hnil : p.way = [] := List.eq_nil_of_length_eq_zero hn1.symm
    refine ⟨_, rfl, .tup (.cons (.agg ?_) (.refl _))⟩
    refine .cons (.refl _) (.cons ?_ (.cons (.refl _) (.cons (keep_sub ke) (.refl _))))
    show SubV _ (encMsgs (p.way ++ [actMsg h p.epoch false l]))
    rw [hnil, List.nil_append]
    exact SubV.trans (trl_map (X := Unit) (f := fun _ => _) (g := fun _ => encMsg (actMsg h p.epoch false l)) (fun _ => actC_sub hL) [()]) (SubV.trl_of [actMsg h p.epoch false l] rfl)
  | succ n =>
    rw [AM.beq_false (by omega), cond_false, ble_true (Nat.le_refl (n + 1)), Bool.or_true, cond_true, roomV (n := n + 1 + 1) (b := 392) (by omega) (by omega), cond_true, ble_true (Nat.le_refl (n + 1 + 1)), hm]
    refine ⟨_, rfl, .tup (.cons (.agg ?_) (.refl _))⟩
    refine .cons (.refl _) (.cons ?_ (.cons (.refl _) (.cons (keep_sub ke) (.refl _))))
    show SubV _ (encMsgs (p.way ++ [actMsg h p.epoch false l]))
    have hlen : (p.way ++ [actMsg h p.epoch false l]).length = n + 1 + 1 := by rw [List.length_append, ← hn1]; rfl
    unfold encMsgs encL
    rw [hlen]
    refine SubV.trs fun i hi => ?_
    by_cases h1 : i < n + 1
    · rw [blt_true h1, cond_true, hf i h1]
      have : (p.way ++ [actMsg h p.epoch false l]).getD i default = p.way.getD i default := by simp [List.getD, List.getElem?_append_left (by omega : i < p.way.length)]
      rw [this]; exact .refl _
    · have hi2 : i = n + 1 := by omega
      subst hi2
      rw [blt_false (Nat.le_refl _), cond_false, blt_true (by omega), cond_true, Nat.sub_self]
      have : (p.way ++ [actMsg h p.epoch false l]).getD (n + 1) default = actMsg h p.epoch false l := by rw [hn1]; simp [List.getD]
      rw [this]; exact actC_sub hL
end Go.Wk
end

section
/- A new epoch: the contract. -/
open Go Go.AM Go.Md
namespace Go.Wk
set_option maxRecDepth 100000
set_option maxHeartbeats 400000
theorem STg_app {p : Play} {n : Nat} {f : Nat → List AV} {u b : Int} {l : List Member} {x : Member} {j : Int} (hl : l ≠ []) :
    ST1 p n f u b (.sl 2 2 0 (l.length + 1) 0) [.seq true 2 (l.length + 1) fun i => bif Nat.blt i l.length then mC l i else bif Nat.blt i (l.length + 1) then [encMember x].getD (i - l.length) [] else mC l l.length] j = STg p n f u b (l ++ [x]) j := by
  unfold STg
  rw [gSl_app hl, gBl_app hl]
  unfold mC
  rw [canF_app hl]
def c2 : List Member → Nat
  | [_] => 1
  | _ => 0
noncomputable def X2 (N : Nat) (p : Play) (n : Nat) (f : Nat → List AV) (u b : Int) (l : List Member) : Option AV := match l with
  | [] => LT2 N N (ST2e p n f u b (slf p b) 0)
  | l => LT2 N N (ST2g p n f u b l.length (c2 l) (mC l) (slf p b) [slf p b] 0)
theorem turn_step {N k : Nat} {p : Play} {n : Nat} {f : Nat → List AV} {u b j : Int} {l : List Member} (hl2 : l.length ≤ 1000) :
    LT1 N (k + 1) (STg p n f u b l j) = stT p n f u b j (LT1 N k (STg p n f u b l (IntKind.i64.wrap (j + 1)))) g0 (fun q b' => LT1 N k (STg q (cutN q) (cutF q) u b' (l ++ [slf q j]) (IntKind.i64.wrap (j + 1)))) (endT p n f b (X2 N p n f u b l)) := by
  have one : ∀ (x : Member) (q : Play), STg q n f u b [x] j = ST1 q n f u b (.sl 2 2 0 1 1) [.seq true 2 1 (mC [x])] j := fun x q => rfl
  have o2 : ∀ x : Member, (fun i => [encMember x].getD i (encMember x)) = mC [x] := fun x => canF_oneS x
  match l, hl2 with
  | [], _ =>
    have e := turn_0 N k p n f u b j
    have e1 : (fun (q : Play) (b' : Int) => LT1 N k (ST1 q (cutN q) (cutF q) u b' (.sl 2 2 0 1 1) [.seq true 2 1 fun i => [encMember (slf q j)].getD i (encMember (slf q j))] (IntKind.i64.wrap (j + 1)))) = fun q b' => LT1 N k (STg q (cutN q) (cutF q) u b' ([] ++ [slf q j]) (IntKind.i64.wrap (j + 1))) := by
      funext q b'
      rw [o2]; rfl
    rw [e1] at e
    exact e
  | [a], hl =>
    have e := turn_1 N k p n f u b j (mC [a])
    have e1 : (fun (q : Play) (b' : Int) => LT1 N k (ST1 q (cutN q) (cutF q) u b' (.sl 2 2 0 2 0) [.seq true 2 2 fun i => bif Nat.blt i 1 then mC [a] i else bif Nat.blt i 2 then [encMember (slf q j)].getD (i - 1) [] else mC [a] 1] (IntKind.i64.wrap (j + 1)))) = fun q b' => LT1 N k (STg q (cutN q) (cutF q) u b' ([a] ++ [slf q j]) (IntKind.i64.wrap (j + 1))) := by
      funext q b'
      rw [← STg_app (l := [a]) (by simp)]; rfl
    rw [e1, o2] at e
    exact e
  | a :: d :: l, hl =>
    have e := turn_m N k p n f u b j (a :: d :: l).length (mC (a :: d :: l))
    have e1 : (fun (q : Play) (b' : Int) => LT1 N k (ST1 q (cutN q) (cutF q) u b' (.sl 2 2 0 ((a :: d :: l).length + 1) 0) [.seq true 2 ((a :: d :: l).length + 1) fun i => bif Nat.blt i (a :: d :: l).length then mC (a :: d :: l) i else bif Nat.blt i ((a :: d :: l).length + 1) then [encMember (slf q j)].getD (i - (a :: d :: l).length) [] else mC (a :: d :: l) (a :: d :: l).length] (IntKind.i64.wrap (j + 1)))) = fun q b' => LT1 N k (STg q (cutN q) (cutF q) u b' ((a :: d :: l) ++ [slf q j]) (IntKind.i64.wrap (j + 1))) := by
      funext q b'
      rw [← STg_app (l := a :: d :: l) (by simp)]
    rw [e1, o2, rmT_eq (by omega)] at e
    exact e
theorem frz_give {N : Nat} {p : Play} (h : PlayIs N p) (hv : ∀ i, i < p.reps.length → (repAt p i).view.epoch < p.epoch) {j : Nat} (hj : j < p.reps.length) : ∃ x, giveP p (frzMsg (repAt p j).self p.epoch) = layW (putR p j (frzR p j)) [x] := by
  have hd : (frzMsg (repAt p j).self p.epoch).dst = 2 + j := by
    show (repAt p j).self.node = 2 + j
    rw [h.self j hj]; rfl
  have hr := h.rep j hj
  have hh : handP (repAt p j) (frzMsg (repAt p j).self p.epoch) = (frzR p j, [frozeM (repAt p j) (frzMsg (repAt p j).self p.epoch)]) := by
    have h1 : toMe (repAt p j) (frzMsg (repAt p j).self p.epoch) = true := by
      unfold toMe frzMsg; simp [hr.shard]
    have h2 : aboveP (repAt p j) (frzMsg (repAt p j).self p.epoch) = true := above_iff.2 ⟨hv j hj, hr.fr⟩
    unfold handP; rw [h1, cond_true]
    unfold handK
    rw [show decide ((frzMsg (repAt p j).self p.epoch).kind = 8) = true from rfl, cond_true]
    unfold freezeP; rw [h2]; rfl
  exact ⟨_, by rw [giveP_at h.self hj hd, hh]⟩
theorem cut_way {p : Play} {x : Msg} (hl : p.way.length ≤ 100000) : cutN (layW p [x]) = p.way.length ∧ WayF p (cutN (layW p [x])) (cutF (layW p [x])) := by
  have hlen : (layW p [x]).way.length = p.way.length + 1 := by simp [layW]
  have hc : cutN (layW p [x]) = p.way.length := by
    unfold cutN
    rw [hlen, wrap64 (by omega)]; omega
  refine ⟨hc, hc, fun i hi => ?_⟩
  unfold cutF
  rw [blt_true hi, cond_true, Nat.zero_add]
  rw [hc] at hi
  unfold mF
  have : (layW p [x]).way.getD i default = p.way.getD i default := by simp [layW, List.getD, List.getElem?_append_left hi]
  rw [this]
theorem frzC_sub (h : Member) (e : Int) : SubC (frzC h e) (encMsg (frzMsg h e)) :=
  subC_all (by repeat' (first | exact trivial | exact nilsL | exact SubV.refl _ | refine ⟨?_, ?_⟩))
theorem betK_none {q : Play} {j : Int} {A B : Option AV} : betK q j (-1) A B = A := rfl
theorem betK_some {N : Nat} {q : Play} {j b : Nat} {A B : Option AV} (hq : PlayIs N q) (hN : N ≤ 1000) (hj : j < q.reps.length) (hb : b < q.reps.length) : betK q (j : Int) (b : Int) A B = bif newer (repAt q b) (repAt q j) then A else B := by
  unfold betK newer
  have e : decide ((b : Int) < 0) = false := decide_eq_false (by omega)
  rw [e, cond_false, rg_eq hj, rg_eq hb, rg_eq hj, rg_eq hb, rg_eq hb, rg_eq hj, Int.toNat_natCast, Int.toNat_natCast]
  have q2 : ∀ K : Ver × Ver → Option AV, gC dV2 V2 eV2 [eV (q.reps.getD b default).tail.last, eV (q.reps.getD j default).tail.last] K = K ((repAt q b).tail.last, (repAt q j).tail.last) := fun K => qV2 ((hq.rep b hb).tail.la.num hN) ((hq.rep j hj).tail.la.num hN)
  rw [q2]
  show (bif decide ((repAt q b).view.epoch < (repAt q j).view.epoch) then A else bif decide ((repAt q j).view.epoch = (repAt q b).view.epoch) then (bif vlt (repAt q b).tail.last (repAt q j).tail.last then A else B) else B) = _
  cases decide ((repAt q b).view.epoch < (repAt q j).view.epoch) <;> cases decide ((repAt q j).view.epoch = (repAt q b).view.epoch) <;> cases vlt (repAt q b).tail.last (repAt q j).tail.last <;> rfl
def bI : Option Nat → Int
  | none => -1
  | some b => b
theorem turn1_run {M N : Nat} {u : Int} (hN : N ≤ 1000) : ∀ d j k (t : TS) n f, TSIs N t → WayF t.p n f → t.p.way.length ≤ 9000 → (t.best = none ↔ t.keep = []) → t.keep.length ≤ j → j + d = t.p.reps.length → d < k → t.p.reps.length < M →
    ∃ v, LT1 M k (STg t.p n f u (bI t.best) t.keep (j : Nat)) = some v ∧ SubV v (oPlayT (turnE (upB u) (turnF (upB u) d j t))) := by
  intro d
  induction d with
  | zero =>
    intro j k t n f ht hw hwl hbk hkl hj hk hM
    obtain ⟨k, rfl⟩ : ∃ i, k = i + 1 := ⟨k - 1, by omega⟩
    have hlen := ht.p.hi
    rw [turn_step (by omega)]
    unfold stT endT
    rw [decide_eq_false (by omega), cond_false]
    show ∃ v, _ ∧ SubV v (oPlayT (turnE (upB u) t))
    obtain ⟨p, best, keep⟩ := t
    cases best with
    | none => exact ⟨_, rfl, .tup (.cons (.agg hw.plSub) (.refl _))⟩
    | some b =>
      have hb : b < p.reps.length := ht.best b rfl
      have hb0 : decide (bI (some b) < 0) = false := decide_eq_false (by show ¬ (b : Int) < 0; omega)
      have hrg : ∀ X : Option AV, rg (bI (some b)) (p.reps.length : Int) X = X := fun X => rg_eq hb
      simp only [] at *
      rw [hb0, cond_false, hrg]
      have hne : keep ≠ [] := fun e => by have := hbk.2 e; cases this
      have hX : X2 M p n f u (bI (some b)) keep = LT2 M M (ST2g p n f u (b : Int) keep.length (c2 keep) (mC keep) (repAt p b).self [(repAt p b).self] ((0 : Nat) : Int)) := by
        have hs : slf p (bI (some b)) = (repAt p b).self := by show (p.reps.getD ((b : Int)).toNat default).self = _; rw [Int.toNat_natCast]; rfl
        unfold X2
        rw [hs]
        cases keep with
        | nil => exact absurd rfl hne
        | cons a l => rfl
      rw [hX, turn2_run (by omega) p.reps.length 0 M [(repAt p b).self] (by omega) (by omega) (by simp) (by simp)]
      obtain ⟨v, v1, v2⟩ := fin_out (p := p) (h := (repAt p b).self) (L := gTr 2 encMember default ([(repAt p b).self] ++ restF (upB u) b p p.reps.length 0)) (l := (repAt p b).self :: restF (upB u) b p p.reps.length 0) (ke := keep) hw (by rw [hw.1]; omega) (gTr_sub _)
      exact ⟨v, v1, v2⟩
  | succ d ih =>
    intro j k t n f ht hw hwl hbk hkl hj hk hM
    obtain ⟨k, rfl⟩ : ∃ i, k = i + 1 := ⟨k - 1, by omega⟩
    have hlen := ht.p.hi
    have hjl : j < t.p.reps.length := by omega
    have hta := turnAt_is (up := upB u) ht hjl
    rw [turn_step (by omega)]
    have et : turnF (upB u) (d + 1) j t = turnF (upB u) d (j + 1) (turnAt (upB u) t j) := rfl
    rw [et]
    unfold stT
    rw [decide_eq_true (by omega), cond_true, tmod_nn, cond_false, up0, wrapS (by omega), Int.toNat_natCast]
    unfold turnAt at hta ⊢
    cases hu : upB u j with
    | false =>
      rw [hu] at hta
      simp only [Bool.not_false, cond_true, Bool.false_and, cond_false] at hta ⊢
      exact ih (j + 1) k t n f ht hw hwl hbk (by omega) (by omega) (by omega) hM
    | true =>
      rw [hu] at hta
      simp only [Bool.not_true, cond_false, Bool.true_and] at hta ⊢
      have hval : t.p.valid.length ≤ LB := by have := ht.p.vlen; unfold LB; omega
      rw [rg_eq hjl, qLM hval]
      have es : (t.p.reps.getD j default).self = (repAt t.p j).self := rfl
      rw [es]
      simp only []
      cases hm : decide ((repAt t.p j).self ∈ t.p.valid) with
      | false =>
        rw [hm] at hta
        simp only [Bool.not_false, cond_true, cond_false] at hta ⊢
        exact ih (j + 1) k t n f ht hw hwl hbk (by omega) (by omega) (by omega) hM
      | true =>
        rw [hm] at hta
        simp only [Bool.not_true, cond_false, cond_true] at hta ⊢
        rw [rg_eq hjl, rg_eq hjl]
        have hr := ht.p.rep j hjl
        have h0 : 0 ≤ t.p.epoch := by have := ht.p.ep; omega
        have hgive : pGive (t.p, frzMsg (repAt t.p j).self t.p.epoch) := ⟨⟨N, hN, ht.p, frzMsg_is hr.self h0⟩, .inl rfl, by show t.p.way.length ≤ 10000; omega⟩
        have qg : ∀ K : Play × Msg → Option AV, gC dPM pGive ePM [.agg (plW t.p n f), .agg (frzC (repAt t.p j).self t.p.epoch)] K = K (t.p, frzMsg (repAt t.p j).self t.p.epoch) := fun K =>
          gC_eq (t.p, frzMsg (repAt t.p j).self t.p.epoch) (Prod.ext hw.dec rfl) hgive (.cons (.agg hw.plSub) (.cons (.agg (frzC_sub _ _)) .nil))
        rw [qg]
        simp only []
        obtain ⟨x, hx⟩ := frz_give ht.p ht.view hjl
        have hfa := frzAt_eq ht.p ht.view hjl
        rw [hfa] at hta ⊢
        try simp only [] at hta ⊢
        rw [hx]
        generalize hq : putR t.p j (frzR t.p j) = q at hta ⊢
        have hqw : q.way = t.p.way := by rw [← hq]; rfl
        have hql : q.reps.length = t.p.reps.length := by rw [← hq]; exact putR_len _ _ _
        have hqb : ∀ i, repAt (layW q [x]) i = repAt q i := fun i => rfl
        obtain ⟨hc1, hc2⟩ := cut_way (p := q) (x := x) (by rw [hqw]; omega)
        have hlw : (layW q [x]).way.length = t.p.way.length + 1 := by simp [layW, hqw]
        have hsl : ∀ X : Option AV, slK (IntKind.i64.wrap (((layW q [x]).way.length : Int) - 1)) ((layW q [x]).way.length : Int) X = X := by
          intro X
          unfold slK
          rw [hlw, wrap64 (by omega), decide_eq_true (by omega), decide_eq_true (by omega)]; rfl
        rw [hsl]
        have hjq : j < (layW q [x]).reps.length := by show j < q.reps.length; omega
        rw [rg_eq hjq]
        have hself : slf (layW q [x]) (j : Int) = (repAt q j).self := by unfold slf; rw [Int.toNat_natCast]; rfl
        have hnext : ∀ b' : Option Nat, b' ≠ none → (TSIs N ⟨q, b', t.keep ++ [(repAt q j).self]⟩) → ∃ v, LT1 M k (STg (layW q [x]) (cutN (layW q [x])) (cutF (layW q [x])) u (bI b') (t.keep ++ [slf (layW q [x]) (j : Int)]) ((j + 1 : Nat) : Int)) = some v ∧
            SubV v (oPlayT (turnE (upB u) (turnF (upB u) d (j + 1) ⟨q, b', t.keep ++ [(repAt q j).self]⟩))) := by
          intro b' hb' hts
          rw [hself]
          exact ih (j + 1) k ⟨q, b', t.keep ++ [(repAt q j).self]⟩ (cutN (layW q [x])) (cutF (layW q [x])) hts hc2 (by show q.way.length ≤ _; rw [hqw]; omega) ⟨fun e => absurd e hb', fun e => by simp at e⟩ (by simp; omega) (by show _ = q.reps.length; omega) (by omega) (by show q.reps.length < M; omega)
        show ∃ v, betK (layW q [x]) (j : Int) (bI t.best) _ _ = some v ∧ _
        cases hbe : t.best with
        | none =>
          rw [hbe] at hta
          have hb : bI (none : Option Nat) = -1 := rfl
          rw [hb, betK_none]
          exact hnext (some j) (by simp) hta.1
        | some b0 =>
          rw [hbe] at hta
          have hb0 : b0 < t.p.reps.length := ht.best b0 hbe
          have hb : bI (some b0) = (b0 : Int) := rfl
          have hpq : PlayIs N q := hta.1.p
          have hbs : ∀ A B : Option AV, betK (layW q [x]) (j : Int) (b0 : Int) A B = bif newer (repAt q b0) (repAt q j) then A else B := fun A B => (betK_some (q := q) (j := j) (b := b0) hpq hN (by omega) (by omega))
          rw [hb, hbs]
          simp only [] at hta ⊢
          cases hnw : newer (repAt q b0) (repAt q j) with
          | true =>
            rw [hnw] at hta
            exact hnext (some j) (by simp) hta.1
          | false =>
            rw [hnw] at hta
            exact hnext (some b0) (by simp) hta.1
def dPU (a : List AV) : Play × Int := (decPlay (argC a 0), getI a 1)
def pPU (x : Play × Int) : Prop := ∃ N, N ≤ 998 ∧ PlayIs N x.1 ∧ x.1.way.length ≤ 9000
def ePU (x : Play × Int) : List AV := [.agg (encPlay x.1), .int .u8 x.2]
def oPU (x : Play × Int) : AV := oPlayT (turnP (upB x.2) x.1)
theorem turn_con (x : Play × Int) (h : pPU x) : Contract PG F_lockgatelaw18_turn (ePU x) [] (oPU x) [] := by
  obtain ⟨p, u⟩ := x
  obtain ⟨N, hN, hp, hw⟩ := h
  have hN : N ≤ 998 := hN
  have hp : PlayIs N p := hp
  have hw : p.way.length ≤ 9000 := hw
  have k := turn_in (p.reps.length + 1) p u
  have he := hp.epN
  have h1 := hp.ep
  rw [wrap64 (by omega : -9223372036854775808 ≤ p.epoch + 1 ∧ p.epoch + 1 ≤ 9223372036854775807)] at k
  obtain ⟨v, v1, v2⟩ := turn1_run (M := p.reps.length + 1) (u := u) (N := N + 1) (by omega) p.reps.length 0 (p.reps.length + 1) ⟨{ p with epoch := p.epoch + 1 }, none, []⟩ p.way.length (mF p.way) (turn0_is hp) ⟨rfl, fun _ _ => rfl⟩ hw (by simp) (Nat.zero_le _) (Nat.zero_add _) (Nat.lt_succ_self _) (Nat.lt_succ_self _)
  rw [Int.natCast_zero] at v1
  exact (con43 (k.trans v1)).res v2
noncomputable def kTurn : Known := .spec F_lockgatelaw18_turn dPU pPU ePU oPU
theorem kTurn_ok : kTurn.Ok PG := Known.spec_ok turn_con
end Go.Wk
end

section
/- A step of a play: its equations. -/
open Go Go.AM Go.Md
namespace Go.Wk
set_option maxRecDepth 100000
set_option maxHeartbeats 400000
noncomputable def kns47 : List Known := [kGive, kTurn, kAgain, kRAgain, kSameAll, kHead, kCommit, kCLift, kSet, kNext, kREntry, kPush2, kRPush2, kSame18]
theorem kns47_ok : ∀ k ∈ kns47, k.Ok PG := ak kGive_ok (ak kTurn_ok (ak kAgain_ok (ak kRAgain_ok (ak kSameAll_ok (ak kHead_ok (ak kCommit_ok (ak kCLift_ok (ak kSet_ok (ak kNext_ok (ak kREntry_ok (ak kPush2_ok (ak kRPush2_ok (ak kSame18_ok ank)))))))))))))
noncomputable def env47 : Env := envO kns47
theorem con47 {n f : Nat} {xs : List AV} {r : AV} (e : callT env47 n f xs = some r) : Contract PG f xs [] r [] := con_of (md := fun _ => none) kns47_ok e
def SDo (p : Play) (K : Int) (j : Int) : St := { fr := [(2, .ptr 0 0 0), (4, .ptr 1 0 0), (8, .int .u8 K), (12, .int .i64 j)], hp := [.arr true 5 [encPlay p], .arr true 5 [zPlay]] }
noncomputable def LD (N k : Nat) (s : St) : Option AV := LP env47 N 0 F_lockgatelaw18_do snK 0 [] k s
/-- a head lifts its floor -/
noncomputable def d6K (p : Play) (r : Rep) (j : Int) : Option AV := gC dRep1 pRep1 eRep1 [.agg (encRep r)] fun y1 => gC dRV pRV eRV [.agg (encRep r), eV (commitP y1)] fun y2 => gC dPJR pPJR ePJR [.agg (encPlay p), .int .i64 j, .agg (encRep (liftR y2.1 y2.2))] fun y3 =>
  some (.tup [.agg (encPlay (putR y3.1 y3.2.1.toNat y3.2.2)), .bool true])
/-- a head pushes an entry -/
noncomputable def d3K (p : Play) (r : Rep) (j : Int) : Option AV := gC dVI pVI eVI [eV r.tail.last, .int .i64 r.view.epoch] fun y4 => gC dV1 VNum eV1 [eV (vr y4.2 (nu y4.1 + 1))] fun y5 => gC dRE pRE2 eRE [.agg (encRep r), .agg (encEntry (entP y5))] fun y6 =>
  gC dV1 VNum eV1 [eV (vr y4.2 (nu y4.1 + 1))] fun y7 => gC dRE pRE2 eRE [.agg (encRep r), .agg (encEntry (entP y7))] fun y8 =>
  gC dPJR pPJR ePJR [.agg (encPlay p), .int .i64 j, .agg (encRep (headPush y6).1)] fun y9 =>
  bif (bif (headPush y6).2 then (headPush y8).2 else !(headPush y8).2) then gC dRep1 RepSame eRep2 [.agg (encRep (headPush y6).1), .agg (encRep (headPush y8).1)] fun _ => some (.tup [.agg (encPlay (putR y9.1 y9.2.1.toNat y9.2.2)), .bool true])
  else some (.tup [.agg (encPlay (putR y9.1 y9.2.1.toNat y9.2.2)), .bool false])
theorem do_step (N k : Nat) (p : Play) (K j : Int) : LD N (k + 1) (SDo p K j) =
    bif decide (j < (p.reps.length : Int)) then rg j p.reps.length <| bif !decide ((p.reps.getD j.toNat default).view.epoch = p.epoch) then LD N k (SDo p K (IntKind.i64.wrap (j + 1))) else
      gC dRep1 pRep1 eRep1 [.agg (encRep (p.reps.getD j.toNat default))] fun y0 => bif !headP y0 then LD N k (SDo p K (IntKind.i64.wrap (j + 1))) else
      bif decide (K = 6) then d6K p (p.reps.getD j.toNat default) j else d3K p (p.reps.getD j.toNat default) j
    else some (oPlayT p) := by kernel_rfl
def nz {R : Type} (n : Int) (k : Option R) : Option R := bif decide (n = 0) then none else k
def tmI (i n : Int) : Int := (IntKind.i64.wrap i).tmod n
def room {R : Type} (n b : Nat) (k : Option R) : Option R := bif Nat.ble (n * b) 140737488355328 && Nat.ble n 140737488355328 then k else none
/-- a part of the way -/
def subF (w : List Msg) (o n : Nat) : Nat → List AV := fun i => bif Nat.blt i n then encMsg (w.getD (o + i) default) else encMsg (w.getD w.length default)
/-- what is left when a message is taken out -/
def takW (w : List Msg) (t : Int) (E : Option AV) (S : Nat → (Nat → List AV) → Option AV) : Option AV :=
  nz w.length <| slK t w.length <| room (0 + t.toNat) 392 <| bif Nat.beq t.toNat 0 then
    nz w.length <| slK (IntKind.i64.wrap (t + 1)) w.length <| room (0 + (w.length - (IntKind.i64.wrap (t + 1)).toNat)) 392 <| bif Nat.beq (w.length - (IntKind.i64.wrap (t + 1)).toNat) 0 then E else S (w.length - (IntKind.i64.wrap (t + 1)).toNat) (subF w (IntKind.i64.wrap (t + 1)).toNat (w.length - (IntKind.i64.wrap (t + 1)).toNat))
  else nz w.length <| slK (IntKind.i64.wrap (t + 1)) w.length <| bif Nat.beq t.toNat 0 || Nat.ble t.toNat t.toNat then room (t.toNat + (w.length - (IntKind.i64.wrap (t + 1)).toNat)) 392 <|
    bif Nat.beq (w.length - (IntKind.i64.wrap (t + 1)).toNat) 0 then S t.toNat (subF w 0 t.toNat) else S (t.toNat + (w.length - (IntKind.i64.wrap (t + 1)).toNat)) (appF t.toNat (subF w 0 t.toNat) (w.length - (IntKind.i64.wrap (t + 1)).toNat) (subF w (IntKind.i64.wrap (t + 1)).toNat (w.length - (IntKind.i64.wrap (t + 1)).toNat)))
    else none
def plV (p : Play) (W : AV) : AV := .agg [encReps p.reps, W, .int .i64 p.epoch, encMembers p.valid, eV p.safe]
def dupK (p : Play) (x : Msg) : Option AV := room (0 + p.way.length) 392 <| bif Nat.beq p.way.length 0 then some (.tup [plV p (.trl 31 [encMsg x]), .bool true]) else
  bif Nat.beq p.way.length 0 || Nat.ble p.way.length p.way.length then room (p.way.length + 1) 392 <| bif Nat.ble (p.way.length + 1) (p.way.length + 1) && true && true then
    some (.tup [plV p (.tr 31 (p.way.length + 1) (fun i => bif Nat.blt i p.way.length then encMsg (p.way.getD i default) else bif Nat.blt i (p.way.length + 1) then [encMsg x].getD (i - p.way.length) [] else encMsg (p.way.getD p.way.length default))), .bool true]) else none else none
noncomputable def d4K (p : Play) (t : Int) : Option AV := rg t p.reps.length <| gC dRep1 RepAg eRep1 [.agg (encRep (p.reps.getD t.toNat default))] fun y0 =>
  laid p.way (againP y0) (rg t p.reps.length <| gC dRep1 RepAg eRep1 [.agg (encRep (p.reps.getD t.toNat default))] fun y1 => gC (dL decMsg) MsgsOk (fun l => [encMsgs l, encMsgs l]) [encMsgs (againP y0), encMsgs (againP y1)] fun _ => some (.tup [plV p (.trl 31 []), .bool true]))
    (fun n f => rg t p.reps.length <| gC dRep1 RepAg eRep1 [.agg (encRep (p.reps.getD t.toNat default))] fun y1 => gC (dL decMsg) MsgsOk (fun l => [encMsgs l, encMsgs l]) [encMsgs (againP y0), encMsgs (againP y1)] fun _ => gW n <| some (.tup [plV p (.tr 31 n f), .bool true]))
noncomputable def d0K (p : Play) (x : Msg) (W : AV) : Option AV := gC dPM pGive ePM [plV p W, .agg (encMsg x)] fun y => some (oPlayT (giveP y.1 y.2))
noncomputable def d5K (p : Play) (i : Int) : Option AV := gC dPU pPU ePU [.agg (encPlay p), .int .u8 i] fun y => some (oPlayT (turnP (upB y.2) y.1))
noncomputable def doK (N : Nat) (p : Play) (K i : Int) : Option AV :=
  bif decide (K ≤ 2) then
    bif decide ((p.way.length : Int) = 0) then some (oPlayT p) else nz p.way.length <| rg (tmI i p.way.length) p.way.length <|
    bif decide (K = 2) then dupK p (p.way.getD (tmI i p.way.length).toNat default) else
    takW p.way (tmI i p.way.length)
      (bif decide (K = 1) then some (.tup [plV p (.trl 31 []), .bool true]) else d0K p (p.way.getD (tmI i p.way.length).toNat default) (.trl 31 []))
      (fun n f => bif decide (K = 1) then gW n <| some (.tup [plV p (.tr 31 n f), .bool true]) else gW n <| d0K p (p.way.getD (tmI i p.way.length).toNat default) (.tr 31 n f))
  else nz p.reps.length <| bif decide (K = 4) then d4K p (tmI i p.reps.length) else bif decide (K = 5) then d5K p i else LD N N (SDo p K 0)
theorem do_eq (N : Nat) (p : Play) (kd i : Int) : callT env47 (N + 1) F_lockgatelaw18_do [.agg (encPlay p), .agg [.int .u8 kd, .int .u8 i]] = doK N p (kd.tmod 7) i := by kernel_rfl
end Go.Wk
end

section
/- A step of a play, its contract. -/
open Go Go.AM Go.Md
namespace Go.Wk
set_option maxRecDepth 100000
set_option maxHeartbeats 400000
/-! ### the head of the newest epoch -/
theorem d6K_eq {N : Nat} {p : Play} (hp : PlayIs N p) (hN : N ≤ 990) {j : Nat} (hj : j < p.reps.length) : d6K p (repAt p j) (j : Int) = some (oPlayT (putR p j (liftR (repAt p j) (commitP (repAt p j))))) := by
  have hr := hp.rep j hj
  have hlen := hp.hi
  unfold d6K
  have q1 : ∀ K : Rep → Option AV, gC dRep1 pRep1 eRep1 [.agg (encRep (repAt p j))] K = K (repAt p j) := fun K => qRep1 (P := pRep1) trivial
  have q2 : ∀ K : Rep × Ver → Option AV, gC dRV pRV eRV [.agg (encRep (repAt p j)), eV (commitP (repAt p j))] K = K (repAt p j, commitP (repAt p j)) := fun K =>
    qRV (hr.ag (by omega)).short (hr.tail.lift (commitP_is hr).1 (by omega))
  have q3 : ∀ K : Play × Int × Rep → Option AV, gC dPJR pPJR ePJR [.agg (encPlay p), .int .i64 (j : Int), .agg (encRep (liftR (repAt p j) (commitP (repAt p j))))] K = K (p, (j : Int), liftR (repAt p j) (commitP (repAt p j))) := fun K => qSet hj (by omega)
  rw [q1, q2]
  simp only []
  rw [q3]
  rfl
theorem d3K_eq {N : Nat} {p : Play} (hp : PlayIs N p) (hN : N ≤ 990) {j : Nat} (hj : j < p.reps.length) (hh : headP (repAt p j) = true) : d3K p (repAt p j) (j : Int) = some (oPlayT (putR p j (pushP (repAt p j) (entP (nextV (repAt p j)))).1)) := by
  have hr := hp.rep j hj
  have hlen := hp.hi
  have hep := hr.ep0
  have hv := (nextV_is hr hp.epN (by omega)).1
  have hvn : VNum (nextV (repAt p j)) := hv.num (by omega)
  have hok : pRE2 (repAt p j, entP (nextV (repAt p j))) := ⟨(hr.ag (by omega)).short, ⟨by have := hr.tail.len; have := (hr.tail.la.le (by omega)).2; show (repAt p j).tail.log.length ≤ 10000; omega, hr.tail.la.num (by omega), hvn, hr.seen.one, rfl⟩⟩
  unfold d3K
  have q1 : ∀ K : Ver × Nat → Option AV, gC dVI pVI eVI [eV (repAt p j).tail.last, .int .i64 (repAt p j).view.epoch] K = K ((repAt p j).tail.last, (repAt p j).view.epoch.toNat) := fun K =>
    gC_eq ((repAt p j).tail.last, (repAt p j).view.epoch.toNat) rfl (hr.tail.la.num (by omega)) (by show SubC _ [eV _, .int .i64 ((repAt p j).view.epoch.toNat : Int)]; rw [Int.toNat_of_nonneg hep]; exact .refl _)
  have q2 : ∀ K : Ver → Option AV, gC dV1 VNum eV1 [eV (vr (repAt p j).view.epoch.toNat (nu (repAt p j).tail.last + 1))] K = K (nextV (repAt p j)) := fun K => qV1 (a := nextV (repAt p j)) hvn
  have q3 : ∀ K : RE → Option AV, gC dRE pRE2 eRE [.agg (encRep (repAt p j)), .agg (encEntry (entP (nextV (repAt p j))))] K = K (repAt p j, entP (nextV (repAt p j))) := fun K => qRE hok
  have ehp : headPush (repAt p j, entP (nextV (repAt p j))) = pushP (repAt p j) (entP (nextV (repAt p j))) := by unfold headPush; simp only [hh, cond_true]
  have q4 : ∀ K : Play × Int × Rep → Option AV, gC dPJR pPJR ePJR [.agg (encPlay p), .int .i64 (j : Int), .agg (encRep (pushP (repAt p j) (entP (nextV (repAt p j)))).1)] K = K (p, (j : Int), (pushP (repAt p j) (entP (nextV (repAt p j)))).1) := fun K => qSet hj (by omega)
  have hpi := pushP_is hr hp.epN (by omega)
  have q5 : ∀ K : Rep → Option AV, gC dRep1 RepSame eRep2 [.agg (encRep (pushP (repAt p j) (entP (nextV (repAt p j)))).1), .agg (encRep (pushP (repAt p j) (entP (nextV (repAt p j)))).1)] K = K (pushP (repAt p j) (entP (nextV (repAt p j)))).1 := fun K =>
    gC_eq _ (dec_encRep _) (hpi.1.same (by omega)) (.refl _)
  rw [q1]
  simp only []
  rw [q2, q3]
  simp only [ehp]
  rw [q2, q3]
  simp only [ehp]
  rw [q4, q5]
  cases (pushP (repAt p j) (entP (nextV (repAt p j)))).2 <;> rfl
theorem leadF_s (f : Rep → Rep) (p : Play) (d j : Nat) : leadF f p (d + 1) j = bif lead p j then putR p j (f (repAt p j)) else leadF f p d (j + 1) := rfl
theorem do_run6 {M N : Nat} {p : Play} (hp : PlayIs N p) (hN : N ≤ 990) : ∀ d i k, i + d = p.reps.length → d < k → LD M k (SDo p 6 (i : Nat)) = some (oPlayT (leadF (fun r => liftR r (commitP r)) p d i)) := by
  intro d
  induction d with
  | zero =>
    intro i k hi hk
    obtain ⟨k, rfl⟩ : ∃ j, k = j + 1 := ⟨k - 1, by omega⟩
    rw [do_step, decide_eq_false (by omega), cond_false]; rfl
  | succ d ih =>
    intro i k hi hk
    obtain ⟨k, rfl⟩ : ∃ j, k = j + 1 := ⟨k - 1, by omega⟩
    have hil : i < p.reps.length := by omega
    have hlen := hp.hi
    have q1 : ∀ K : Rep → Option AV, gC dRep1 pRep1 eRep1 [.agg (encRep (repAt p i))] K = K (repAt p i) := fun K => qRep1 (P := pRep1) trivial
    rw [do_step, decide_eq_true (by omega), cond_true, rg_eq hil, Int.toNat_natCast]
    have e0 : p.reps.getD i default = repAt p i := rfl
    have e6 : decide ((6 : Int) = 6) = true := rfl
    rw [e0, q1, wrapS (by omega), e6, cond_true, ih (i + 1) k (by omega) (by omega), d6K_eq hp hN hil, leadF_s]
    unfold lead
    cases decide ((repAt p i).view.epoch = p.epoch) with
    | false => rfl
    | true => cases headP (repAt p i) <;> rfl
theorem do_run3 {M N : Nat} {p : Play} (hp : PlayIs N p) (hN : N ≤ 990) : ∀ d i k, i + d = p.reps.length → d < k → LD M k (SDo p 3 (i : Nat)) = some (oPlayT (leadF (fun r => (pushP r (entP (nextV r))).1) p d i)) := by
  intro d
  induction d with
  | zero =>
    intro i k hi hk
    obtain ⟨k, rfl⟩ : ∃ j, k = j + 1 := ⟨k - 1, by omega⟩
    rw [do_step, decide_eq_false (by omega), cond_false]; rfl
  | succ d ih =>
    intro i k hi hk
    obtain ⟨k, rfl⟩ : ∃ j, k = j + 1 := ⟨k - 1, by omega⟩
    have hil : i < p.reps.length := by omega
    have hlen := hp.hi
    have q1 : ∀ K : Rep → Option AV, gC dRep1 pRep1 eRep1 [.agg (encRep (repAt p i))] K = K (repAt p i) := fun K => qRep1 (P := pRep1) trivial
    rw [do_step, decide_eq_true (by omega), cond_true, rg_eq hil, Int.toNat_natCast]
    have e0 : p.reps.getD i default = repAt p i := rfl
    have e6 : decide ((3 : Int) = 6) = false := rfl
    rw [e0, q1, wrapS (by omega), e6, cond_false, ih (i + 1) k (by omega) (by omega), leadF_s]
    unfold lead
    cases decide ((repAt p i).view.epoch = p.epoch) with
    | false => rfl
    | true =>
      cases hh : headP (repAt p i) with
      | false => rfl
      | true =>
        rw [d3K_eq hp hN hil hh]; rfl

/-! ### what is left of the way -/
theorem room_eq {R : Type} {n : Nat} {k : Option R} (h : n ≤ 1000000) : room n 392 k = k := by
  unfold room; rw [roomV (by omega) h, cond_true]
theorem nz_eq {R : Type} {n : Nat} {k : Option R} (h : n ≠ 0) : nz (n : Int) k = k := by
  unfold nz; rw [decide_eq_false (by omega), cond_false]
theorem slK_eq {R : Type} {i n : Nat} {k : Option R} (h : i ≤ n) : slK (i : Int) (n : Int) k = k := by
  unfold slK; rw [decide_eq_true (by omega), decide_eq_true (by omega)]; rfl
theorem tmI_eq {i n : Nat} (h : i ≤ 255) : tmI (i : Int) (n : Int) = ((i % n : Nat) : Int) := by
  unfold tmI; rw [wrap64 (by omega)]; rfl
theorem getD_erase {w : List Msg} {t i : Nat} (hi : i < w.length - 1) : (w.eraseIdx t).getD i default = if i < t then w.getD i default else w.getD (i + 1) default := by
  unfold List.getD
  rw [List.getElem?_eraseIdx]
  split <;> rfl
theorem takW_eq {w : List Msg} {t : Nat} {E : Option AV} {S : Nat → (Nat → List AV) → Option AV} (ht : t < w.length) (hw : w.length ≤ 100000) :
    (w.eraseIdx t = [] ∧ takW w (t : Int) E S = E) ∨ ∃ f, takW w (t : Int) E S = S (w.eraseIdx t).length f ∧ ∀ i, i < (w.eraseIdx t).length → f i = mF (w.eraseIdx t) i := by
  have hel : (w.eraseIdx t).length = w.length - 1 := by rw [List.length_eraseIdx]; simp [ht]
  have hl0 : w.length ≠ 0 := by omega
  unfold takW
  rw [nz_eq hl0, slK_eq (by omega), room_eq (by rw [Int.toNat_natCast]; omega), Int.toNat_natCast, wrapS (by omega), nz_eq hl0, slK_eq (by omega), Int.toNat_natCast]
  have hS : ∀ i, i < w.length - 1 → mF (w.eraseIdx t) i = encMsg (if i < t then w.getD i default else w.getD (i + 1) default) := fun i hi => by unfold mF; rw [getD_erase hi]
  by_cases h0 : t = 0
  · subst h0
    rw [AM.beq_true rfl, cond_true, room_eq (by omega)]
    by_cases h1 : w.length = 1
    · left
      refine ⟨List.eq_nil_of_length_eq_zero (by omega), ?_⟩
      rw [AM.beq_true (by omega), cond_true]
    · right
      rw [AM.beq_false (by omega), cond_false]
      refine ⟨_, by rw [hel], fun i hi => ?_⟩
      rw [hS i (by omega)]
      unfold subF
      rw [blt_true (by omega), cond_true, if_neg (by omega), Nat.add_comm (0 + 1) i]
  · right
    rw [AM.beq_false h0, cond_false, nz_eq hl0, slK_eq (by omega), ble_true (Nat.le_refl _), Bool.or_true, cond_true, room_eq (by omega)]
    by_cases h1 : t + 1 = w.length
    · rw [AM.beq_true (by omega), cond_true]
      refine ⟨subF w 0 t, by rw [hel, show w.length - 1 = t by omega], fun i hi => ?_⟩
      rw [hS i (by omega)]
      unfold subF
      rw [blt_true (by omega), cond_true, if_pos (by omega), Nat.zero_add]
    · rw [AM.beq_false (by omega), cond_false]
      refine ⟨appF t (subF w 0 t) (w.length - (t + 1)) (subF w (t + 1) (w.length - (t + 1))), by rw [hel, show t + (w.length - (t + 1)) = w.length - 1 by omega], fun i hi => ?_⟩
      rw [hS i (by omega)]
      unfold appF subF
      by_cases hit : i < t
      · rw [blt_true hit, cond_true, cond_true, if_pos hit, Nat.zero_add]
      · have : Nat.blt i t = false := by rw [Bool.eq_false_iff, Ne, Nat.blt_eq]; exact hit
        rw [this, cond_false, if_neg hit, blt_true (by omega), cond_true, blt_true (by omega), cond_true]
        congr 2
        omega

/-! ### a step -/
def wayP (p : Play) (l : List Msg) : Play := { p with way := l }
theorem plV_eq (p : Play) (l : List Msg) (n : Nat) (f : Nat → List AV) : plV p (.tr 31 n f) = .agg (plW (wayP p l) n f) := rfl
theorem nilW (p : Play) : SubV (plV p (.trl 31 [])) (.agg (encPlay (wayP p []))) := .agg (play_sub (p := wayP p []) msgs_nil)
theorem gW_id {n : Nat} {k : Option AV} : gW n k = k := gW_eq
theorem d0K_nil {N : Nat} {p : Play} {x : Msg} (hp : PlayIs N (wayP p [])) (hx : MsgIs p.epoch N x) (hk : KindW x) (hN : N ≤ 990) : d0K p x (.trl 31 []) = some (oPlayT (giveP (wayP p []) x)) := by
  have hg : pGive (wayP p [], x) := ⟨⟨N, by omega, hp, hx⟩, .inr hk, Nat.zero_le _⟩
  unfold d0K
  have q : ∀ K : Play × Msg → Option AV, gC dPM pGive ePM [plV p (.trl 31 []), .agg (encMsg x)] K = K (wayP p [], x) := fun K =>
    gC_eq (wayP p [], x) (Prod.ext (by
      show (⟨decL decRep (encReps p.reps), decL decMsg (.trl 31 []), p.epoch, decL decMember (encMembers p.valid), p.safe⟩ : Play) = wayP p []
      rw [decReps, decMembers]; rfl) (dec_encMsg x)) hg (.cons (nilW p) (.refl _))
  rw [q]
theorem d0K_eq {N : Nat} {p : Play} {l : List Msg} {f : Nat → List AV} {x : Msg} (hf : ∀ i, i < l.length → f i = mF l i) (hl : l.length ≤ 10000) (hp : PlayIs N (wayP p l)) (hx : MsgIs p.epoch N x) (hk : KindW x) (hN : N ≤ 990) :
    d0K p x (.tr 31 l.length f) = some (oPlayT (giveP (wayP p l) x)) := by
  have hg : pGive (wayP p l, x) := ⟨⟨N, by omega, hp, hx⟩, .inr hk, hl⟩
  have hw : WayF (wayP p l) l.length f := ⟨rfl, hf⟩
  unfold d0K
  rw [plV_eq p l]
  have q : ∀ K : Play × Msg → Option AV, gC dPM pGive ePM [.agg (plW (wayP p l) l.length f), .agg (encMsg x)] K = K (wayP p l, x) := fun K =>
    gC_eq (wayP p l, x) (Prod.ext hw.dec (dec_encMsg x)) hg (.cons (.agg hw.plSub) (.refl _))
  rw [q]
theorem out_eq {v : AV} {p : Play} {X : Option AV} (h : X = some v) (e : SubV v (oPlayT p)) : ∃ v, X = some v ∧ SubV v (oPlayT p) := ⟨v, h, e⟩
theorem tT {a b : AV} (h : SubV a b) : SubV (.tup [a, .bool true]) (.tup [b, .bool true]) := .tup (.cons h (.refl _))
theorem dup_eq {p : Play} {x : Msg} (hw : p.way.length ≤ 9000) : ∃ v, dupK p x = some v ∧ SubV v (oPlayT (layW p [x])) := by
  unfold dupK
  rw [room_eq (by omega)]
  by_cases h0 : p.way.length = 0
  · have hn : p.way = [] := List.eq_nil_of_length_eq_zero h0
    rw [AM.beq_true h0, cond_true]
    refine ⟨_, rfl, tT (.agg (play_sub (p := layW p [x]) ?_))⟩
    show SubV _ (encMsgs (p.way ++ [x]))
    rw [hn]
    exact SubV.trl_encL (e := encMsg) (z := default) [x]
  · rw [AM.beq_false h0, cond_false, ble_true (Nat.le_refl _), Bool.or_true, cond_true, room_eq (by omega), ble_true (Nat.le_refl _), Bool.and_true, Bool.and_true, cond_true]
    refine ⟨_, rfl, tT (.agg (play_sub (p := layW p [x]) ?_))⟩
    have hw : WayF (layW p [x]) (p.way.length + 1) (fun i => bif Nat.blt i p.way.length then encMsg (p.way.getD i default) else bif Nat.blt i (p.way.length + 1) then [encMsg x].getD (i - p.way.length) [] else encMsg (p.way.getD p.way.length default)) := by
      refine ⟨by simp [layW], fun i hi => ?_⟩
      have := congrFun (appF_lit encMsg default p.way [x]) i
      exact this
    exact hw.sub
theorem do_con' {N k i : Nat} {p : Play} (hp : PlayIs N p) (hN : N ≤ 990) (hw : p.way.length ≤ 5000) (hk : WayK p) (k1 : k ≤ 255) (hi : i ≤ 255) : ∃ v, callT env47 (p.reps.length + 2) F_lockgatelaw18_do [.agg (encPlay p), .agg [.int .u8 (k : Int), .int .u8 (i : Int)]] = some v ∧ SubV v (oPlayT (doP (upB (i : Int)) (k % 7) i p)) := by
  have hlen := hp.hi
  have hlo := hp.lo
  have ek : (k : Int).tmod 7 = ((k % 7 : Nat) : Int) := rfl
  rw [do_eq, ek]
  have hk7 : k % 7 < 7 := Nat.mod_lt _ (by omega)
  generalize k % 7 = c at hk7
  unfold doK doP
  have c2 : decide ((c : Int) ≤ 2) = decide (c ≤ 2) := decide_eq_decide.2 (by omega)
  have cc : ∀ n : Nat, decide ((c : Int) = (n : Int)) = decide (c = n) := fun n => decide_eq_decide.2 (by omega)
  have cc1 := cc 1
  have cc2 := cc 2
  have cc4 := cc 4
  have cc5 := cc 5
  rw [c2]
  cases h2 : decide (c ≤ 2) with
  | true =>
    rw [cond_true, cond_true]
    by_cases hw0 : p.way.length = 0
    · rw [decide_eq_true (by omega : (p.way.length : Int) = 0), decide_eq_true hw0]
      exact ⟨_, rfl, .refl _⟩
    · have hlt : i % p.way.length < p.way.length := Nat.mod_lt _ (by omega)
      have hm := mem_getD hlt (z := (default : Msg))
      rw [decide_eq_false (by omega : ¬ (p.way.length : Int) = 0), decide_eq_false hw0, cond_false, cond_false, nz_eq hw0, tmI_eq hi, rg_eq hlt, Int.toNat_natCast]
      have e2 : decide ((c : Int) = 2) = decide (c = 2) := cc2
      rw [e2]
      cases decide (c = 2) with
      | true => exact dup_eq (by omega)
      | false =>
        rw [cond_false, cond_false]
        have e1 : decide ((c : Int) = 1) = decide (c = 1) := cc1
        have hsub : ∀ m ∈ p.way.eraseIdx (i % p.way.length), m ∈ p.way := fun m hm => List.mem_of_mem_eraseIdx hm
        have hpe : PlayIs N (wayP p (p.way.eraseIdx (i % p.way.length))) := hp.less hsub
        rw [e1]
        generalize p.way.getD (i % p.way.length) default = x at hm
        have hx := hp.way x hm
        rcases takW_eq (w := p.way) (t := i % p.way.length) (E := bif decide (c = 1) then some (.tup [plV p (.trl 31 []), .bool true]) else d0K p x (.trl 31 []))
          (S := fun n f => bif decide (c = 1) then gW n <| some (.tup [plV p (.tr 31 n f), .bool true]) else gW n <| d0K p x (.tr 31 n f)) hlt (by omega) with ⟨h1, h2⟩ | ⟨f, h1, h2⟩
        · rw [h2]
          have hnl : wayP p (p.way.eraseIdx (i % p.way.length)) = wayP p [] := by rw [h1]
          have hnl' : ({ p with way := p.way.eraseIdx (i % p.way.length) } : Play) = wayP p [] := hnl
          rw [hnl']
          rw [hnl] at hpe
          cases decide (c = 1) with
          | true => exact ⟨_, rfl, tT (nilW p)⟩
          | false => exact ⟨_, d0K_nil hpe hx (hk x hm) hN, .refl _⟩
        · rw [h1]
          have hel : (p.way.eraseIdx (i % p.way.length)).length ≤ p.way.length := by rw [List.length_eraseIdx]; split <;> omega
          simp only [gW_id]
          cases decide (c = 1) with
          | true =>
            have hwf : WayF (wayP p (p.way.eraseIdx (i % p.way.length))) (p.way.eraseIdx (i % p.way.length)).length f := ⟨rfl, h2⟩
            exact ⟨_, rfl, tT (.agg hwf.plSub)⟩
          | false => exact ⟨_, d0K_eq h2 (by omega) hpe hx (hk x hm) hN, .refl _⟩
  | false =>
    have h3 := of_decide_eq_false h2
    have hir : i % p.reps.length < p.reps.length := Nat.mod_lt _ (by omega)
    have e4 : decide ((c : Int) = 4) = decide (c = 4) := cc4
    have e5 : decide ((c : Int) = 5) = decide (c = 5) := cc5
    rw [cond_false, cond_false, nz_eq (by omega), tmI_eq hi, e4, e5]
    by_cases h4 : c = 4
    · rw [decide_eq_true h4, cond_true, cond_true]
      unfold d4K
      have hr := hp.rep _ hir
      have q1 : ∀ K : Rep → Option AV, gC dRep1 RepAg eRep1 [.agg (encRep (repAt p (i % p.reps.length)))] K = K (repAt p (i % p.reps.length)) := fun K => qRep1 (hr.ag (by omega))
      have q2 : ∀ K : List Msg → Option AV, gC (dL decMsg) MsgsOk (fun l => [encMsgs l, encMsgs l]) [encMsgs (againP (repAt p (i % p.reps.length))), encMsgs (againP (repAt p (i % p.reps.length)))] K = K (againP (repAt p (i % p.reps.length))) := fun K =>
        gC_eq _ (decMsgs _) (msgs_ok (by have := againP_len hr; omega) (againP_is hr (by omega)) (by omega) hp.epN) (.refl _)
      have e0 : p.reps.getD (i % p.reps.length) default = repAt p (i % p.reps.length) := rfl
      rw [rg_eq hir, Int.toNat_natCast, e0, q1, rg_eq hir, q1, q2, laid_eq (by omega) (by have := againP_len hr; omega)]
      have eW : ∀ l : List Msg, l = p.way ++ againP (repAt p (i % p.reps.length)) → layW p (againP (repAt p (i % p.reps.length))) = wayP p l := fun l h => by rw [h]; rfl
      cases hl : p.way ++ againP (repAt p (i % p.reps.length)) with
      | nil =>
        rw [eW [] hl.symm]
        exact ⟨_, rfl, tT (nilW p)⟩
      | cons a l =>
        rw [eW (a :: l) hl.symm]
        simp only []
        rw [rg_eq hir, q1, q2, gW_id]
        have hwf : WayF (wayP p (a :: l)) (a :: l).length (mF (a :: l)) := ⟨rfl, fun _ _ => rfl⟩
        exact ⟨_, rfl, tT (.agg hwf.plSub)⟩
    · rw [decide_eq_false h4, cond_false, cond_false]
      by_cases h5 : c = 5
      · rw [decide_eq_true h5, cond_true, cond_true]
        unfold d5K
        have q : ∀ K : Play × Int → Option AV, gC dPU pPU ePU [.agg (encPlay p), .int .u8 (i : Int)] K = K (p, (i : Int)) := fun K =>
          gC_eq (p, (i : Int)) (Prod.ext (dec_encPlay p) rfl) ⟨N, by omega, hp, by show p.way.length ≤ 9000; omega⟩ (.refl _)
        rw [q]
        exact ⟨_, rfl, .refl _⟩
      · rw [decide_eq_false h5, cond_false, cond_false]
        by_cases h6 : c = 6
        · subst h6
          have r := do_run6 (M := p.reps.length + 1) hp hN p.reps.length 0 (p.reps.length + 1) (by omega) (by omega)
          rw [Int.natCast_zero] at r
          exact ⟨_, r, .refl _⟩
        · have h7 : c = 3 := by omega
          subst h7
          have r := do_run3 (M := p.reps.length + 1) hp hN p.reps.length 0 (p.reps.length + 1) (by omega) (by omega)
          rw [Int.natCast_zero] at r
          exact ⟨_, r, .refl _⟩
structure PS where
  p : Play
  k : Nat
  i : Nat
def dPS (a : List AV) : PS := ⟨decPlay (argC a 0), (getI (argC a 1) 0).toNat, (getI (argC a 1) 1).toNat⟩
def pPS (x : PS) : Prop := (∃ N, N ≤ 990 ∧ PlayIs N x.p) ∧ x.p.way.length ≤ 5000 ∧ WayK x.p ∧ x.k ≤ 255 ∧ x.i ≤ 255
def ePS (x : PS) : List AV := [.agg (encPlay x.p), .agg [.int .u8 (x.k : Int), .int .u8 (x.i : Int)]]
def stepP (p : Play) (k i : Nat) : Play := doP (upB (i : Int)) (k % 7) i p
def oPS (x : PS) : AV := oPlayT (stepP x.p x.k x.i)
theorem do_con (x : PS) (h : pPS x) : Contract PG F_lockgatelaw18_do (ePS x) [] (oPS x) [] := by
  obtain ⟨⟨N, hN, hp⟩, hw, hk, h1, h2⟩ := h
  obtain ⟨v, e1, e2⟩ := do_con' hp hN hw hk h1 h2
  exact (con47 e1).res e2
noncomputable def kDo : Known := .spec F_lockgatelaw18_do dPS pPS ePS oPS
theorem kDo_ok : kDo.Ok PG := Known.spec_ok do_con
end Go.Wk
end

section
/- A play's begin; what the document fixes (awake). -/
open Go Go.AM Go.Md
namespace Go.Wk
set_option maxRecDepth 100000
set_option maxHeartbeats 4000000
/-! ### awake -/
theorem awake_eq : callT env0 60 F_lockgatelaw18_awake [] = some (.bool true) := by kernel_rfl
theorem awake_con : Contract PG F_lockgatelaw18_awake [] [] (.bool true) [] := con0 awake_eq
noncomputable def kAwake : Known := .one F_lockgatelaw18_awake [] (.bool true)
theorem kAwake_ok : kAwake.Ok PG := Known.one_ok awake_con

/-! ### Begin -/
def zRepC (i : Nat) : List AV := [.int .i64 0, .int .i64 (2 + i), .int .i64 1, .int .i64 0, .int .i64 0, .int .i64 0, .int .i64 0, .nils, .int .i64 0, .cplx .f64 0 0, .cplx .f64 0 0, .nils, .nils, .cplx .f64 0 0, .nils]
def begA (n : Nat) : AV := .agg [.trl 15 ((List.range n).map zRepC), .trl 31 [[.int .i64 10, .int .i64 0, .int .i64 2, .int .i64 1, .int .i64 0, .int .i64 0, .int .i64 1, .int .i64 0, .int .i64 0, .int .i64 0, .int .i64 0, .int .i64 0, .bool false, .bool true, .str [], .str [], .cplx .f64 0 0, .cplx .f64 0 0, .int .i64 0, .str [], .str [], .str [], .bool false, .nils,
  .trl 2 ((List.range n).map fun (i : Nat) => [.int .i64 (2 + i), .int .i64 1]), .nils, .cplx .f64 0 0, .cplx .f64 0 0, .int .i64 0, .nils, .nils]], .int .i64 1, .trl 2 [[.int .i64 2, .int .i64 1]], .cplx .f64 0 0]
theorem beg1 : callT env0 60 F_lockgateref18_Begin [.int .i64 1] = some (begA 1) := by kernel_rfl
theorem beg2 : callT env0 60 F_lockgateref18_Begin [.int .i64 2] = some (begA 2) := by kernel_rfl
theorem beg3 : callT env0 60 F_lockgateref18_Begin [.int .i64 3] = some (begA 3) := by kernel_rfl
theorem beg4 : callT env0 60 F_lockgateref18_Begin [.int .i64 4] = some (begA 4) := by kernel_rfl
def dBg (a : List AV) : Nat := (getI a 0).toNat
def pBg (n : Nat) : Prop := 1 ≤ n ∧ n ≤ 4
def eBg (n : Nat) : List AV := [.int .i64 n]
theorem begin_con (n : Nat) (h : pBg n) : Contract PG F_lockgateref18_Begin (eBg n) [] (.agg (encPlay (beginP n))) [] := by
  obtain ⟨h1, h4⟩ := h
  match n, h1, h4 with
  | 1, _, _ => exact (con0 beg1).res (subB_ok 9 _ _ (by kernel_rfl))
  | 2, _, _ => exact (con0 beg2).res (subB_ok 9 _ _ (by kernel_rfl))
  | 3, _, _ => exact (con0 beg3).res (subB_ok 9 _ _ (by kernel_rfl))
  | 4, _, _ => exact (con0 beg4).res (subB_ok 9 _ _ (by kernel_rfl))
noncomputable def kBegin : Known := .spec F_lockgateref18_Begin dBg pBg eBg (fun n => .agg (encPlay (beginP n)))
theorem kBegin_ok : kBegin.Ok PG := Known.spec_ok begin_con
theorem qBegin {R : Type} {n : Nat} {K : Nat → Option R} (h : pBg n) : gC dBg pBg eBg [.int .i64 (n : Int)] K = K n := gC_eq n rfl h (.refl _)
end Go.Wk
end

section
/- ChainPlays: the law's equations. -/
open Go Go.AM Go.Md
namespace Go.Wk
set_option maxRecDepth 100000
set_option maxHeartbeats 4000000
noncomputable def kns50 : List Known := [kAwake, kBegin, kDo, kNote]
theorem kns50_ok : ∀ k ∈ kns50, k.Ok PG := ak kAwake_ok (ak kBegin_ok (ak kDo_ok (ak kNote_ok ank)))
noncomputable def env50 : Env := envO kns50
def stC (s : Int × Int) : List AV := [.int .u8 s.1, .int .u8 s.2]
def stepsV (n : Nat) (f : Nat → Int × Int) : AV := .tr 2 n fun i => stC (f i)
theorem plays_in (N : Nat) (k : Int) (n : Nat) (f : Nat → Int × Int) : callT env50 (N + 1) F_lockgatelaw18_ChainPlays [AV.int IntKind.u8 k, stepsV n f] =
  gC (fun x => ()) (fun x => True) (fun x => []) ([]) fun y0 =>
  bif decide (80 < (↑n : Int)) then 
    gC (fun x => ()) (fun x => True) (fun x => []) ([]) fun y1 =>
    some (AV.bool true)
  else 
    gC (dBg) (pBg) (eBg) ([AV.int IntKind.i64 (IntKind.i64.wrap (1 + IntKind.i64.wrap (k.tmod 4)))]) fun y2 =>
    LP (env50) (N) 0 (F_lockgatelaw18_ChainPlays) snK 0 [] (N) ({ fr := [(1, AV.tr 2 n fun i => [AV.int IntKind.u8 (f i).fst, AV.int IntKind.u8 (f i).snd]), (5, AV.ptr 0 0 0), (6, AV.int IntKind.i64 0)], hp := [BS.arr true 5 [[encReps (List.map (fun i => rep0 (mem0 i)) (List.range y2)), encMsgs [actMsg { node := 2, boot := 1 } 1 true (List.map mem0 (List.range y2))], AV.int IntKind.i64 1, encMembers (List.take 1 (List.map mem0 (List.range y2))), AV.cplx FloatKind.f64 0 0]]] }) := by kernel_rfl
def SPl (n : Nat) (f : Nat → Int × Int) (p : Play) (i : Int) : St := { fr := [(1, stepsV n f), (5, .ptr 0 0 0), (6, .int .i64 i)], hp := [.arr true 5 [encPlay p]] }
theorem plays_step (N : Nat) (j : Nat) (n : Nat) (f : Nat → Int × Int) (p : Play) (i : Int) : LP env50 N 0 F_lockgatelaw18_ChainPlays snK 0 [] (j + 1) (SPl n f p i) =
  bif decide (i < (↑n : Int)) then 
    bif decide (0 ≤ i) && decide (i < (↑n : Int)) then 
      gC (dPS) (pPS) (ePS) ([AV.agg (encPlay p), AV.agg [AV.int IntKind.u8 (f i.toNat).fst, AV.int IntKind.u8 (f i.toNat).snd]]) fun y3 =>
      gC (dP1) (pP1) (eP1) ([AV.agg (encPlay (stepP y3.p y3.k y3.i))]) fun y4 =>
      bif decide (200 < (↑(noteP y4).way.length : Int)) then 
        some (AV.bool true)
      else 
        LP (env50) (N) (0) (F_lockgatelaw18_ChainPlays) (snK) 0 ([]) (j) ({ fr := [(1, AV.tr 2 n fun i => [AV.int IntKind.u8 (f i).fst, AV.int IntKind.u8 (f i).snd]), (5, AV.ptr 0 0 0), (6, AV.int IntKind.i64 (IntKind.i64.wrap (i + 1)))], hp := [BS.arr true 5 [encPlay (noteP y4)]] })
    else none
  else 
    some (AV.bool true) := by kernel_rfl
theorem commits_in (N : Nat) (k : Int) (n : Nat) (f : Nat → Int × Int) : callT env50 (N + 1) F_lockgatelaw18_ChainCommits [AV.int IntKind.u8 k, stepsV n f] =
  gC (fun x => ()) (fun x => True) (fun x => []) ([]) fun y5 =>
  bif decide (80 < (↑n : Int)) then 
    gC (fun x => ()) (fun x => True) (fun x => []) ([]) fun y6 =>
    some (AV.bool true)
  else 
    gC (dBg) (pBg) (eBg) ([AV.int IntKind.i64 (IntKind.i64.wrap (1 + IntKind.i64.wrap (k.tmod 4)))]) fun y7 =>
    LP (env50) (N) 0 (F_lockgatelaw18_ChainCommits) snK 0 [] (N) ({ fr := [(1, AV.tr 2 n fun i => [AV.int IntKind.u8 (f i).fst, AV.int IntKind.u8 (f i).snd]), (5, AV.ptr 0 0 0), (6, AV.int IntKind.i64 0)], hp := [BS.arr true 5 [[encReps (List.map (fun i => rep0 (mem0 i)) (List.range y7)), encMsgs [actMsg { node := 2, boot := 1 } 1 true (List.map mem0 (List.range y7))], AV.int IntKind.i64 1, encMembers (List.take 1 (List.map mem0 (List.range y7))), AV.cplx FloatKind.f64 0 0]]] }) := by kernel_rfl
theorem agree_in (N : Nat) (k : Int) (n : Nat) (f : Nat → Int × Int) : callT env50 (N + 1) F_lockgatelaw18_ChainAgree [AV.int IntKind.u8 k, stepsV n f] =
  gC (fun x => ()) (fun x => True) (fun x => []) ([]) fun y8 =>
  bif decide (80 < (↑n : Int)) then 
    gC (fun x => ()) (fun x => True) (fun x => []) ([]) fun y9 =>
    some (AV.bool true)
  else 
    gC (dBg) (pBg) (eBg) ([AV.int IntKind.i64 (IntKind.i64.wrap (1 + IntKind.i64.wrap (k.tmod 4)))]) fun y10 =>
    LP (env50) (N) 0 (F_lockgatelaw18_ChainAgree) snK 0 [] (N) ({ fr := [(1, AV.tr 2 n fun i => [AV.int IntKind.u8 (f i).fst, AV.int IntKind.u8 (f i).snd]), (5, AV.ptr 0 0 0), (6, AV.int IntKind.i64 0)], hp := [BS.arr true 5 [[encReps (List.map (fun i => rep0 (mem0 i)) (List.range y10)), encMsgs [actMsg { node := 2, boot := 1 } 1 true (List.map mem0 (List.range y10))], AV.int IntKind.i64 1, encMembers (List.take 1 (List.map mem0 (List.range y10))), AV.cplx FloatKind.f64 0 0]]] }) := by kernel_rfl
end Go.Wk
end

section
/- ChainPlays: the law. -/
open Go Go.AM Go.Md
namespace Go.Wk
set_option maxRecDepth 100000
set_option maxHeartbeats 400000
/-! ### a play, step by step -/
/-- a step's two bytes -/
def StOk (s : Int × Int) : Prop := (0 ≤ s.1 ∧ s.1 ≤ 255) ∧ 0 ≤ s.2 ∧ s.2 ≤ 255
/-- what holds at the loop's head, where i steps are done -/
structure RunP (i : Nat) (p : Play) : Prop where
  is : PlayIs (i + 1) p
  kind : WayK p
  way : p.way.length ≤ 200
/-- the play behind a step -/
def nextP (p : Play) (s : Int × Int) : Play := noteP (stepP p s.1.toNat s.2.toNat)
theorem RunP.ps {i : Nat} {p : Play} {s : Int × Int} (h : RunP i p) (hi : i ≤ 80) (hs : StOk s) : pPS ⟨p, s.1.toNat, s.2.toNat⟩ := by
  obtain ⟨⟨h1, h2⟩, h3, h4⟩ := hs
  exact ⟨⟨i + 1, by omega, h.is⟩, by have := h.way; show p.way.length ≤ 5000; omega, h.kind, by show s.1.toNat ≤ 255; omega, by show s.2.toNat ≤ 255; omega⟩
theorem RunP.p1 {i : Nat} {p : Play} {s : Int × Int} (h : RunP i p) (hi : i ≤ 80) : pP1 (stepP p s.1.toNat s.2.toNat) := ⟨i + 2, by omega, (do_is h.is (by omega)).1⟩
theorem RunP.next {i : Nat} {p : Play} {s : Int × Int} (h : RunP i p) (hi : i ≤ 80) : PlayIs (i + 2) (nextP p s) ∧ WayK (nextP p s) := by
  have h1 := do_is (up := upB (s.2.toNat : Int)) (k := s.1.toNat % 7) (i := s.2.toNat) h.is (by omega)
  have h2 := noteP_is h1.1
  exact ⟨h2.1, (WayK.do h.kind h.is).note h1.1⟩
theorem RunP.go {i : Nat} {p : Play} {s : Int × Int} (h : RunP i p) (hi : i ≤ 80) (hw : (nextP p s).way.length ≤ 200) : RunP (i + 1) (nextP p s) := ⟨(h.next hi).1, (h.next hi).2, hw⟩
theorem RunP.begin {n : Nat} (h : pBg n) : RunP 0 (beginP n) := ⟨begin_is h.1 h.2, begin_kind n, by show 1 ≤ 200; omega⟩
theorem qDo {R : Type} {p : Play} {s : Int × Int} {K : PS → Option R} (hs : StOk s) (h : pPS ⟨p, s.1.toNat, s.2.toNat⟩) : gC dPS pPS ePS [.agg (encPlay p), .agg (stC s)] K = K ⟨p, s.1.toNat, s.2.toNat⟩ := by
  obtain ⟨a, b⟩ := s
  obtain ⟨⟨h1, h2⟩, h3, h4⟩ := hs
  refine gC_eq (⟨p, a.toNat, b.toNat⟩ : PS) ?_ h ?_
  · show (⟨decPlay (encPlay p), a.toNat, b.toNat⟩ : PS) = _
    rw [dec_encPlay]
  · show SubC _ [.agg (encPlay p), .agg [.int .u8 (a.toNat : Int), .int .u8 (b.toNat : Int)]]
    rw [Int.toNat_of_nonneg h1, Int.toNat_of_nonneg h3]
    exact .refl _
/-- how many members there are -/
def nOf (k : Int) : Nat := 1 + (k.tmod 4).toNat
theorem nOf_ok {k : Int} (h : 0 ≤ k ∧ k ≤ 255) : pBg (nOf k) ∧ IntKind.i64.wrap (1 + IntKind.i64.wrap (k.tmod 4)) = (nOf k : Int) := by
  have h1 : k.tmod 4 = k % 4 := Int.tmod_eq_emod_of_nonneg h.1
  unfold nOf pBg
  have h2 : IntKind.i64.wrap (k % 4) = k % 4 := wrap64 (by omega)
  rw [h1, h2, wrap64 (by omega)]
  omega

/-! ### ChainPlays -/
noncomputable def LPl (N k : Nat) (s : St) : Option AV := LP env50 N 0 F_lockgatelaw18_ChainPlays snK 0 [] k s
theorem plays_step' (N j : Nat) (n : Nat) (f : Nat → Int × Int) (p : Play) (i : Int) : LPl N (j + 1) (SPl n f p i) =
  bif decide (i < (n : Int)) then rg i n <| gC dPS pPS ePS [.agg (encPlay p), .agg (stC (f i.toNat))] fun y3 => gC dP1 pP1 eP1 [.agg (encPlay (stepP y3.p y3.k y3.i))] fun y4 =>
      bif decide (200 < ((noteP y4).way.length : Int)) then some (.bool true) else LPl N j (SPl n f (noteP y4) (IntKind.i64.wrap (i + 1)))
  else some (.bool true) := plays_step N j n f p i
theorem plays_run {N n : Nat} {f : Nat → Int × Int} (hf : ∀ i, i < n → StOk (f i)) (hn : n ≤ 80) : ∀ d i j p, i + d = n → d < j → RunP i p → LPl N j (SPl n f p (i : Nat)) = some (.bool true) := by
  intro d
  induction d with
  | zero =>
    intro i j p hi hj _
    obtain ⟨j, rfl⟩ : ∃ k, j = k + 1 := ⟨j - 1, by omega⟩
    rw [plays_step', decide_eq_false (by omega), cond_false]
  | succ d ih =>
    intro i j p hi hj hp
    obtain ⟨j, rfl⟩ : ∃ k, j = k + 1 := ⟨j - 1, by omega⟩
    have hil : i < n := by omega
    rw [plays_step', decide_eq_true (by omega), cond_true, rg_eq hil, Int.toNat_natCast, qDo (hf i hil) (hp.ps (by omega) (hf i hil)), wrapS (by omega)]
    simp only []
    have q1 : ∀ K : Play → Option AV, gC dP1 pP1 eP1 [.agg (encPlay (stepP p (f i).1.toNat (f i).2.toNat))] K = K (stepP p (f i).1.toNat (f i).2.toNat) := fun K => qNote (hp.p1 (by omega))
    rw [q1]
    have e : noteP (stepP p (f i).1.toNat (f i).2.toNat) = nextP p (f i) := rfl
    rw [e]
    by_cases hw : (nextP p (f i)).way.length ≤ 200
    · rw [decide_eq_false (by omega), cond_false]
      exact ih (i + 1) j _ (by omega) (by omega) (hp.go (by omega) hw)
    · rw [decide_eq_true (by omega), cond_true]
theorem plays_law {k : Int} {n : Nat} {f : Nat → Int × Int} (hk : 0 ≤ k ∧ k ≤ 255) (hf : ∀ i, i < n → StOk (f i)) : callT env50 (n + 2) F_lockgatelaw18_ChainPlays [.int .u8 k, stepsV n f] = some (.bool true) := by
  have e := plays_in (n + 1) k n f
  have q0 : ∀ K : Unit → Option AV, gC (fun _ => ()) (fun _ => True) (fun _ => []) [] K = K () := fun K => gC_one (.refl _)
  rw [q0, q0] at e
  rw [e]
  by_cases h : (80 : Int) < n
  · rw [decide_eq_true h, cond_true]
  · obtain ⟨h1, h2⟩ := nOf_ok hk
    rw [decide_eq_false h, cond_false, h2, qBegin h1]
    have r := plays_run (N := n + 1) hf (by omega) n 0 (n + 1) (beginP (nOf k)) (by omega) (by omega) (.begin h1)
    rw [Int.natCast_zero] at r
    exact r
/-- the types of a struct's fields -/
def sFs : Option TypeDesc → Option (List TypeId)
  | some (.struct fs) => some (fs.toList.map (·.type))
  | _ => none
theorem sFs_some {d : Option TypeDesc} {l : List TypeId} (h : sFs d = some l) : ∃ fs, d = some (.struct fs) ∧ fs.toList.map (·.type) = l := by
  unfold sFs at h
  split at h
  · exact ⟨_, rfl, Option.some.inj h⟩
  · cases h
theorem two_fs {l : List Field} {s t : TypeId} (h : l.map (·.type) = [s, t]) : ∃ x y, l = [x, y] ∧ x.type = s ∧ y.type = t := by
  cases l with
  | nil => cases h
  | cons x l =>
    cases l with
    | nil => cases h
    | cons y l =>
      cases l with
      | nil => simp only [List.map_cons, List.map_nil, List.cons.injEq, and_true] at h; exact ⟨x, y, rfl, h.1, h.2⟩
      | cons z l => simp at h
/-- bytes, and steps -/
theorem steps_shape {avs : List AV} (h : Args PG 9 [5, 22] avs) : ∃ (k : Int) (n : Nat) (f : Nat → Int × Int), (0 ≤ k ∧ k ≤ 255) ∧ (∀ i, i < n → StOk (f i)) ∧ SubC avs [.int .u8 k, stepsV n f] := by
  obtain ⟨av, r, hs, rfl, av2, r2, hs2, rfl, rfl⟩ := h
  have u5 : PG.underlying 5 = some (.int .u8) := by kernel_rfl
  have u22 : PG.underlying 22 = some (.slice 35) := by kernel_rfl
  obtain ⟨a1, a2⟩ := Shape.num u5 hs
  obtain ⟨c, n, f, rfl, b1, b2, b3⟩ := Shape.list u22 hs2
  have e1 : argOf PG 5 av = .int .u8 (getI av 0) := by unfold argOf; rw [u5, a1]; rfl
  have e2 : argOf PG 22 [c] = c := by unfold argOf; rw [u22]; rfl
  rw [e1, e2]
  have hb : IntKind.u8.min = 0 ∧ IntKind.u8.max = 255 := by decide
  rw [hb.1, hb.2] at a2
  have hst : ∀ i, i < n → f i = stC (getI (f i) 0, getI (f i) 1) ∧ StOk (getI (f i) 0, getI (f i) 1) := by
    intro i hi
    have h3 := b3 i hi
    unfold Shape at h3
    have hu : sFs (PG.underlying 35) = some [5, 5] := by kernel_rfl
    obtain ⟨fs, u35, hfs⟩ := sFs_some hu
    rw [u35] at h3
    simp only [] at h3
    obtain ⟨x, y, hl, hx, hy⟩ := two_fs hfs
    rw [hl] at h3
    obtain ⟨a, b, hab, h4, c, d, hcd, h5, h6⟩ := h3
    have h6 : d = [] := h6
    rw [hx] at h4
    rw [hy] at h5
    obtain ⟨c1, c2⟩ := Shape.num u5 h4
    obtain ⟨d1, d2⟩ := Shape.num u5 h5
    rw [hb.1, hb.2] at c2 d2
    rw [h6, List.append_nil] at hcd
    rw [hab, hcd, c1, d1]
    exact ⟨rfl, c2, d2⟩
  refine ⟨getI av 0, n, fun i => (getI (f i) 0, getI (f i) 1), a2, fun i hi => (hst i hi).2, .cons (.refl _) (.cons (b1.trans ?_) .nil)⟩
  have ec : PG.cellsOf 35 = 2 := by kernel_rfl
  rw [ec]
  exact .trs fun i hi => by
    have := (hst i hi).1
    rw [← this]
    exact .refl _
theorem con50 {n f : Nat} {xs : List AV} {r : AV} (e : callT env50 n f xs = some r) : Contract PG f xs [] r [] := con_of (md := fun _ => none) kns50_ok e
theorem plays_ok : LawC PG 9 F_lockgatelaw18_ChainPlays [5, 22] := by
  intro avs h
  obtain ⟨k, n, f, h1, h2, h3⟩ := steps_shape h
  exact (con50 (plays_law h1 h2)).args h3
end Go.Wk
end

section
/- ChainCommits, ChainAgree: the laws' equations. -/
open Go Go.AM Go.Md
namespace Go.Wk
set_option maxRecDepth 100000
set_option maxHeartbeats 4000000
noncomputable def kns52 : List Known := [kAwake, kBegin, kDo, kNote, kCommit, kHead, kIn, kHas]
theorem kns52_ok : ∀ k ∈ kns52, k.Ok PG := ak kAwake_ok (ak kBegin_ok (ak kDo_ok (ak kNote_ok (ak kCommit_ok (ak kHead_ok (ak kIn_ok (ak kHas_ok ank)))))))
noncomputable def env52 : Env := envO kns52
theorem com_in (N : Nat) (k : Int) (n : Nat) (f : Nat → Int × Int) : callT env52 (N + 1) F_lockgatelaw18_ChainCommits [AV.int IntKind.u8 k, stepsV n f] =
  gC (fun x => ()) (fun x => True) (fun x => []) ([]) fun y0 =>
  bif decide (80 < (↑n : Int)) then 
    gC (fun x => ()) (fun x => True) (fun x => []) ([]) fun y1 =>
    some (AV.bool true)
  else 
    gC (dBg) (pBg) (eBg) ([AV.int IntKind.i64 (IntKind.i64.wrap (1 + IntKind.i64.wrap (k.tmod 4)))]) fun y2 =>
    LP (env52) (N) 0 (F_lockgatelaw18_ChainCommits) snK 0 [] (N) ({ fr := [(1, AV.tr 2 n fun i => [AV.int IntKind.u8 (f i).fst, AV.int IntKind.u8 (f i).snd]), (5, AV.ptr 0 0 0), (6, AV.int IntKind.i64 0)], hp := [BS.arr true 5 [[encReps (List.map (fun i => rep0 (mem0 i)) (List.range y2)), encMsgs [actMsg { node := 2, boot := 1 } 1 true (List.map mem0 (List.range y2))], AV.int IntKind.i64 1, encMembers (List.take 1 (List.map mem0 (List.range y2))), AV.cplx FloatKind.f64 0 0]]] }) := by kernel_rfl
theorem com_0 (N : Nat) (j : Nat) (n : Nat) (f : Nat → Int × Int) (p : Play) (i : Int) : LP env52 N 0 F_lockgatelaw18_ChainCommits snK 0 [] (j + 1) (SPl n f p i) =
  bif decide (i < (↑n : Int)) then 
    bif decide ((↑p.way.length : Int) ≤ 200) then 
      bif decide (0 ≤ i) && decide (i < (↑n : Int)) then 
        gC (dPS) (pPS) (ePS) ([AV.agg (encPlay p), AV.agg [AV.int IntKind.u8 (f i.toNat).fst, AV.int IntKind.u8 (f i.toNat).snd]]) fun y3 =>
        gC (dP1) (pP1) (eP1) ([AV.agg (encPlay (stepP y3.p y3.k y3.i))]) fun y4 =>
        LP (env52) (N) (0) (F_lockgatelaw18_ChainCommits) (snK) 2 ([j]) (N) ({ fr := [(1, AV.tr 2 n fun i => [AV.int IntKind.u8 (f i).fst, AV.int IntKind.u8 (f i).snd]), (5, AV.ptr 0 0 0), (6, AV.int IntKind.i64 i), (9, AV.int IntKind.i64 0)], hp := [BS.arr true 5 [encPlay (noteP y4)]] })
      else none
    else 
      some (AV.bool true)
  else 
    some (AV.bool true) := by kernel_rfl
def SC1 (n : Nat) (f : Nat → Int × Int) (p : Play) (i a : Int) : St := { fr := [(1, stepsV n f), (5, .ptr 0 0 0), (6, .int .i64 i), (9, .int .i64 a)], hp := [.arr true 5 [encPlay p]] }
theorem com_1 (N : Nat) (m : Nat) (q : Nat) (n : Nat) (f : Nat → Int × Int) (p : Play) (i : Int) (a : Int) : LP env52 N 0 F_lockgatelaw18_ChainCommits snK 2 [m] (q + 1) (SC1 n f p i a) =
  bif decide (a < (↑p.reps.length : Int)) then 
    bif decide (0 ≤ a) && decide (a < (↑p.reps.length : Int)) then 
      gC (dRep1) (pRep1) (eRep1) ([AV.agg (encRep (p.reps.getD a.toNat default))]) fun y5 =>
      LP (env52) (N) (0) (F_lockgatelaw18_ChainCommits) (snK) 4 ([m, q]) (N) ({ fr := [(1, AV.tr 2 n fun i => [AV.int IntKind.u8 (f i).fst, AV.int IntKind.u8 (f i).snd]), (5, AV.ptr 0 0 0), (6, AV.int IntKind.i64 i), (9, AV.int IntKind.i64 a), (10, AV.cplx FloatKind.f64 (commitP y5).re (commitP y5).im), (11, AV.int IntKind.i64 0)], hp := [BS.arr true 5 [encPlay p]] })
    else none
  else 
    LP (env52) (N) (0) (F_lockgatelaw18_ChainCommits) (snK) 0 ([]) (m) ({ fr := [(1, AV.tr 2 n fun i => [AV.int IntKind.u8 (f i).fst, AV.int IntKind.u8 (f i).snd]), (5, AV.ptr 0 0 0), (6, AV.int IntKind.i64 (IntKind.i64.wrap (i + 1)))], hp := [BS.arr true 5 [encPlay p]] }) := by kernel_rfl
def SC2 (n : Nat) (f : Nat → Int × Int) (p : Play) (i a : Int) (c : Ver) (b : Int) : St := { fr := [(1, stepsV n f), (5, .ptr 0 0 0), (6, .int .i64 i), (9, .int .i64 a), (10, eV c), (11, .int .i64 b)], hp := [.arr true 5 [encPlay p]] }
theorem com_2 (N : Nat) (m : Nat) (q : Nat) (o : Nat) (n : Nat) (f : Nat → Int × Int) (p : Play) (i : Int) (a : Int) (c : Ver) (b : Int) : LP env52 N 0 F_lockgatelaw18_ChainCommits snK 4 [m, q] (o + 1) (SC2 n f p i a c b) =
  bif decide (b < (↑p.reps.length : Int)) then 
    bif decide (0 ≤ b) && decide (b < (↑p.reps.length : Int)) then 
      bif decide (0 ≤ a) && decide (a < (↑p.reps.length : Int)) then 
        gC (dRep1) (pRep1) (eRep1) ([AV.agg (encRep (p.reps.getD a.toNat default))]) fun y6 =>
        bif headP y6 then 
          bif decide (0 ≤ a) && decide (a < (↑p.reps.length : Int)) then 
            gC (decLM) (preLM) (encLM) ([encMembers (p.reps.getD a.toNat default).view.chain, AV.agg (encMember (p.reps.getD b.toNat default).self)]) fun y7 =>
            bif decide (y7.snd ∈ y7.fst) then 
              gC (dRVr) (pRVr) (eRVr) ([AV.agg (encRep (p.reps.getD b.toNat default)), AV.cplx FloatKind.f64 c.re c.im]) fun y8 =>
              bif !hasP y8.fst y8.snd then 
                some (AV.bool false)
              else 
                gC (decLM) (preLM) (encLM) ([encMembers p.valid, AV.agg (encMember (p.reps.getD b.toNat default).self)]) fun y9 =>
                bif decide (y9.snd ∈ y9.fst) then 
                  bif !decide ((p.reps.getD b.toNat default).view.phase = 0) then 
                    gC (dRVr) (pRVr) (eRVr) ([AV.agg (encRep (p.reps.getD b.toNat default)), AV.cplx FloatKind.f64 p.safe.re p.safe.im]) fun y10 =>
                    bif !hasP y10.fst y10.snd then 
                      some (AV.bool false)
                    else 
                      LP (env52) (N) (0) (F_lockgatelaw18_ChainCommits) (snK) 4 ([m, q]) (o) (SC2 n f p i a c (IntKind.i64.wrap (b + 1)))
                  else 
                    LP (env52) (N) (0) (F_lockgatelaw18_ChainCommits) (snK) 4 ([m, q]) (o) (SC2 n f p i a c (IntKind.i64.wrap (b + 1)))
                else 
                  LP (env52) (N) (0) (F_lockgatelaw18_ChainCommits) (snK) 4 ([m, q]) (o) (SC2 n f p i a c (IntKind.i64.wrap (b + 1)))
            else 
              gC (decLM) (preLM) (encLM) ([encMembers p.valid, AV.agg (encMember (p.reps.getD b.toNat default).self)]) fun y11 =>
              bif decide (y11.snd ∈ y11.fst) then 
                bif !decide ((p.reps.getD b.toNat default).view.phase = 0) then 
                  gC (dRVr) (pRVr) (eRVr) ([AV.agg (encRep (p.reps.getD b.toNat default)), AV.cplx FloatKind.f64 p.safe.re p.safe.im]) fun y12 =>
                  bif !hasP y12.fst y12.snd then 
                    some (AV.bool false)
                  else 
                    LP (env52) (N) (0) (F_lockgatelaw18_ChainCommits) (snK) 4 ([m, q]) (o) (SC2 n f p i a c (IntKind.i64.wrap (b + 1)))
                else 
                  LP (env52) (N) (0) (F_lockgatelaw18_ChainCommits) (snK) 4 ([m, q]) (o) (SC2 n f p i a c (IntKind.i64.wrap (b + 1)))
              else 
                LP (env52) (N) (0) (F_lockgatelaw18_ChainCommits) (snK) 4 ([m, q]) (o) (SC2 n f p i a c (IntKind.i64.wrap (b + 1)))
          else none
        else 
          gC (decLM) (preLM) (encLM) ([encMembers p.valid, AV.agg (encMember (p.reps.getD b.toNat default).self)]) fun y13 =>
          bif decide (y13.snd ∈ y13.fst) then 
            bif !decide ((p.reps.getD b.toNat default).view.phase = 0) then 
              gC (dRVr) (pRVr) (eRVr) ([AV.agg (encRep (p.reps.getD b.toNat default)), AV.cplx FloatKind.f64 p.safe.re p.safe.im]) fun y14 =>
              bif !hasP y14.fst y14.snd then 
                some (AV.bool false)
              else 
                LP (env52) (N) (0) (F_lockgatelaw18_ChainCommits) (snK) 4 ([m, q]) (o) (SC2 n f p i a c (IntKind.i64.wrap (b + 1)))
            else 
              LP (env52) (N) (0) (F_lockgatelaw18_ChainCommits) (snK) 4 ([m, q]) (o) (SC2 n f p i a c (IntKind.i64.wrap (b + 1)))
          else 
            LP (env52) (N) (0) (F_lockgatelaw18_ChainCommits) (snK) 4 ([m, q]) (o) (SC2 n f p i a c (IntKind.i64.wrap (b + 1)))
      else none
    else none
  else 
    LP (env52) (N) (0) (F_lockgatelaw18_ChainCommits) (snK) 2 ([m]) (q) ({ fr := [(1, AV.tr 2 n fun i => [AV.int IntKind.u8 (f i).fst, AV.int IntKind.u8 (f i).snd]), (5, AV.ptr 0 0 0), (6, AV.int IntKind.i64 i), (9, AV.int IntKind.i64 (IntKind.i64.wrap (a + 1)))], hp := [BS.arr true 5 [encPlay p]] }) := by kernel_rfl
/-! ### Agree -/
theorem same05e_eq (e : Entry) : callT env0 9 F_lockgateref05_Same [.agg (encEntry e), .agg (encEntry e)] = some (.bool (eqEntry e)) := by kernel_rfl
def dEE (a : List AV) : Entry := decEntry (argC a 0)
def eEE (e : Entry) : List AV := [.agg (encEntry e), .agg (encEntry e)]
def pEE (e : Entry) : Prop := VOk e.ver
noncomputable def kSame05e : Known := .spec F_lockgateref05_Same dEE pEE eEE (fun _ => .bool true)
noncomputable def env53 : Env := envO [kRNum, kSame05e]
theorem agr_in (N : Nat) (a : Tail) (b : Tail) : callT env53 (N + 1) F_lockgateref18_Agree [AV.agg (encTail a), AV.agg (encTail b)] =
  LP (env53) (N) 0 (F_lockgateref18_Agree) snK 0 [] (N) ({ fr := [(2, AV.ptr 0 0 0), (3, AV.ptr 1 0 0), (5, AV.int IntKind.i64 0)], hp := [BS.arr true 3 [encTail a], BS.arr true 3 [encTail b]] }) := by kernel_rfl
def SA0 (a b : Tail) (i : Int) : St := { fr := [(2, .ptr 0 0 0), (3, .ptr 1 0 0), (5, .int .i64 i)], hp := [.arr true 3 [encTail a], .arr true 3 [encTail b]] }
def SA1 (a b : Tail) (i k : Int) : St := { fr := [(2, .ptr 0 0 0), (3, .ptr 1 0 0), (5, .int .i64 i), (6, .int .i64 k)], hp := [.arr true 3 [encTail a], .arr true 3 [encTail b]] }
theorem agr_0 (N : Nat) (m : Nat) (a : Tail) (b : Tail) (i : Int) : LP env53 N 0 F_lockgateref18_Agree snK 0 [] (m + 1) (SA0 a b i) =
  bif decide (i < (↑a.log.length : Int)) then 
    LP (env53) (N) (0) (F_lockgateref18_Agree) (snK) 2 ([m]) (N) ({ fr := [(2, AV.ptr 0 0 0), (3, AV.ptr 1 0 0), (5, AV.int IntKind.i64 i), (6, AV.int IntKind.i64 0)], hp := [BS.arr true 3 [encTail a], BS.arr true 3 [encTail b]] })
  else 
    some (AV.bool true) := by kernel_rfl
theorem agr_1 (N : Nat) (m : Nat) (q : Nat) (a : Tail) (b : Tail) (i : Int) (k : Int) : LP env53 N 0 F_lockgateref18_Agree snK 2 [m] (q + 1) (SA1 a b i k) =
  bif decide (k < (↑b.log.length : Int)) then 
    bif decide (0 ≤ i) && decide (i < (↑a.log.length : Int)) then 
      gC (dV1) (VNum) (eV1) ([AV.cplx FloatKind.f64 (a.log.getD i.toNat default).ver.re (a.log.getD i.toNat default).ver.im]) fun y15 =>
      bif decide (0 ≤ k) && decide (k < (↑b.log.length : Int)) then 
        gC (dV1) (VNum) (eV1) ([AV.cplx FloatKind.f64 (b.log.getD k.toNat default).ver.re (b.log.getD k.toNat default).ver.im]) fun y16 =>
        bif decide ((↑(nu y15) : Int) = (↑(nu y16) : Int)) then 
          bif decide (0 ≤ i) && decide (i < (↑a.log.length : Int)) then 
            bif decide (0 ≤ k) && decide (k < (↑b.log.length : Int)) then 
              gC (dEE) (pEE) (eEE) ([AV.agg (encEntry (a.log.getD i.toNat default)), AV.agg (encEntry (b.log.getD k.toNat default))]) fun y17 =>
              LP (env53) (N) (0) (F_lockgateref18_Agree) (snK) 2 ([m]) (q) (SA1 a b i (IntKind.i64.wrap (k + 1)))
            else none
          else none
        else 
          LP (env53) (N) (0) (F_lockgateref18_Agree) (snK) 2 ([m]) (q) (SA1 a b i (IntKind.i64.wrap (k + 1)))
      else none
    else none
  else 
    LP (env53) (N) (0) (F_lockgateref18_Agree) (snK) 0 ([]) (m) ({ fr := [(2, AV.ptr 0 0 0), (3, AV.ptr 1 0 0), (5, AV.int IntKind.i64 (IntKind.i64.wrap (i + 1)))], hp := [BS.arr true 3 [encTail a], BS.arr true 3 [encTail b]] }) := by kernel_rfl
/-! ### ChainAgree -/
def TailsOk (p : Tail × Tail) : Prop := p.1.log.length ≤ 10000 ∧ p.2.log.length ≤ 10000 ∧ (∀ x ∈ p.1.log, VNum x.ver) ∧ (∀ x ∈ p.2.log, VNum x.ver) ∧ ∀ x ∈ p.1.log, ∀ y ∈ p.2.log, nu x.ver = nu y.ver → x = y
def dTT (a : List AV) : Tail × Tail := (decTail (argC a 0), decTail (argC a 1))
def eTT (p : Tail × Tail) : List AV := [.agg (encTail p.1), .agg (encTail p.2)]
noncomputable def kAgree : Known := .spec F_lockgateref18_Agree dTT TailsOk eTT (fun _ => .bool true)
noncomputable def kns54 : List Known := [kAwake, kBegin, kDo, kNote, kAgree]
noncomputable def env54 : Env := envO kns54
theorem agl_in (N : Nat) (k : Int) (n : Nat) (f : Nat → Int × Int) : callT env54 (N + 1) F_lockgatelaw18_ChainAgree [AV.int IntKind.u8 k, stepsV n f] =
  gC (fun x => ()) (fun x => True) (fun x => []) ([]) fun y18 =>
  bif decide (80 < (↑n : Int)) then 
    gC (fun x => ()) (fun x => True) (fun x => []) ([]) fun y19 =>
    some (AV.bool true)
  else 
    gC (dBg) (pBg) (eBg) ([AV.int IntKind.i64 (IntKind.i64.wrap (1 + IntKind.i64.wrap (k.tmod 4)))]) fun y20 =>
    LP (env54) (N) 0 (F_lockgatelaw18_ChainAgree) snK 0 [] (N) ({ fr := [(1, AV.tr 2 n fun i => [AV.int IntKind.u8 (f i).fst, AV.int IntKind.u8 (f i).snd]), (5, AV.ptr 0 0 0), (6, AV.int IntKind.i64 0)], hp := [BS.arr true 5 [[encReps (List.map (fun i => rep0 (mem0 i)) (List.range y20)), encMsgs [actMsg { node := 2, boot := 1 } 1 true (List.map mem0 (List.range y20))], AV.int IntKind.i64 1, encMembers (List.take 1 (List.map mem0 (List.range y20))), AV.cplx FloatKind.f64 0 0]]] }) := by kernel_rfl
theorem agl_0 (N : Nat) (j : Nat) (n : Nat) (f : Nat → Int × Int) (p : Play) (i : Int) : LP env54 N 0 F_lockgatelaw18_ChainAgree snK 0 [] (j + 1) (SPl n f p i) =
  bif decide (i < (↑n : Int)) then 
    bif decide ((↑p.way.length : Int) ≤ 200) then 
      bif decide (0 ≤ i) && decide (i < (↑n : Int)) then 
        gC (dPS) (pPS) (ePS) ([AV.agg (encPlay p), AV.agg [AV.int IntKind.u8 (f i.toNat).fst, AV.int IntKind.u8 (f i.toNat).snd]]) fun y21 =>
        gC (dP1) (pP1) (eP1) ([AV.agg (encPlay (stepP y21.p y21.k y21.i))]) fun y22 =>
        LP (env54) (N) (0) (F_lockgatelaw18_ChainAgree) (snK) 2 ([j]) (N) ({ fr := [(1, AV.tr 2 n fun i => [AV.int IntKind.u8 (f i).fst, AV.int IntKind.u8 (f i).snd]), (5, AV.ptr 0 0 0), (6, AV.int IntKind.i64 i), (9, AV.int IntKind.i64 0)], hp := [BS.arr true 5 [encPlay (noteP y22)]] })
      else none
    else 
      some (AV.bool true)
  else 
    some (AV.bool true) := by kernel_rfl
theorem agl_1 (N : Nat) (m : Nat) (q : Nat) (n : Nat) (f : Nat → Int × Int) (p : Play) (i : Int) (a : Int) : LP env54 N 0 F_lockgatelaw18_ChainAgree snK 2 [m] (q + 1) (SC1 n f p i a) =
  bif decide (a < (↑p.reps.length : Int)) then 
    LP (env54) (N) (0) (F_lockgatelaw18_ChainAgree) (snK) 4 ([m, q]) (N) ({ fr := [(1, AV.tr 2 n fun i => [AV.int IntKind.u8 (f i).fst, AV.int IntKind.u8 (f i).snd]), (5, AV.ptr 0 0 0), (6, AV.int IntKind.i64 i), (9, AV.int IntKind.i64 a), (10, AV.int IntKind.i64 0)], hp := [BS.arr true 5 [encPlay p]] })
  else 
    LP (env54) (N) (0) (F_lockgatelaw18_ChainAgree) (snK) 0 ([]) (m) ({ fr := [(1, AV.tr 2 n fun i => [AV.int IntKind.u8 (f i).fst, AV.int IntKind.u8 (f i).snd]), (5, AV.ptr 0 0 0), (6, AV.int IntKind.i64 (IntKind.i64.wrap (i + 1)))], hp := [BS.arr true 5 [encPlay p]] }) := by kernel_rfl
def SG2 (n : Nat) (f : Nat → Int × Int) (p : Play) (i a b : Int) : St := { fr := [(1, stepsV n f), (5, .ptr 0 0 0), (6, .int .i64 i), (9, .int .i64 a), (10, .int .i64 b)], hp := [.arr true 5 [encPlay p]] }
theorem agl_2 (N : Nat) (m : Nat) (q : Nat) (o : Nat) (n : Nat) (f : Nat → Int × Int) (p : Play) (i : Int) (a : Int) (b : Int) : LP env54 N 0 F_lockgatelaw18_ChainAgree snK 4 [m, q] (o + 1) (SG2 n f p i a b) =
  bif decide (b < a) then 
    bif decide (0 ≤ a) && decide (a < (↑p.reps.length : Int)) then 
      bif decide (0 ≤ b) && decide (b < (↑p.reps.length : Int)) then 
        bif decide ((p.reps.getD a.toNat default).view.epoch = (p.reps.getD b.toNat default).view.epoch) then 
          bif decide ((p.reps.getD a.toNat default).view.phase = 3) then 
            bif decide ((p.reps.getD b.toNat default).view.phase = 3) then 
              gC (dTT) (TailsOk) (eTT) ([AV.agg (encTail (p.reps.getD a.toNat default).tail), AV.agg (encTail (p.reps.getD b.toNat default).tail)]) fun y23 =>
              LP (env54) (N) (0) (F_lockgatelaw18_ChainAgree) (snK) 4 ([m, q]) (o) (SG2 n f p i a (IntKind.i64.wrap (b + 1)))
            else 
              LP (env54) (N) (0) (F_lockgatelaw18_ChainAgree) (snK) 4 ([m, q]) (o) (SG2 n f p i a (IntKind.i64.wrap (b + 1)))
          else 
            LP (env54) (N) (0) (F_lockgatelaw18_ChainAgree) (snK) 4 ([m, q]) (o) (SG2 n f p i a (IntKind.i64.wrap (b + 1)))
        else 
          LP (env54) (N) (0) (F_lockgatelaw18_ChainAgree) (snK) 4 ([m, q]) (o) (SG2 n f p i a (IntKind.i64.wrap (b + 1)))
      else none
    else none
  else 
    LP (env54) (N) (0) (F_lockgatelaw18_ChainAgree) (snK) 2 ([m]) (q) ({ fr := [(1, AV.tr 2 n fun i => [AV.int IntKind.u8 (f i).fst, AV.int IntKind.u8 (f i).snd]), (5, AV.ptr 0 0 0), (6, AV.int IntKind.i64 i), (9, AV.int IntKind.i64 (IntKind.i64.wrap (a + 1)))], hp := [BS.arr true 5 [encPlay p]] }) := by kernel_rfl
end Go.Wk
end

section
/- ChainCommits: the law. -/
open Go Go.AM Go.Md
namespace Go.Wk
set_option maxRecDepth 100000
set_option maxHeartbeats 400000
noncomputable def LC0 (N k : Nat) (s : St) : Option AV := LP env52 N 0 F_lockgatelaw18_ChainCommits snK 0 [] k s
noncomputable def LC1 (N m k : Nat) (s : St) : Option AV := LP env52 N 0 F_lockgatelaw18_ChainCommits snK 2 [m] k s
noncomputable def LC2 (N m q k : Nat) (s : St) : Option AV := LP env52 N 0 F_lockgatelaw18_ChainCommits snK 4 [m, q] k s
theorem com_0' (N j : Nat) (n : Nat) (f : Nat → Int × Int) (p : Play) (i : Int) : LC0 N (j + 1) (SPl n f p i) =
  bif decide (i < (n : Int)) then bif decide ((p.way.length : Int) ≤ 200) then rg i n <| gC dPS pPS ePS [.agg (encPlay p), .agg (stC (f i.toNat))] fun y3 => gC dP1 pP1 eP1 [.agg (encPlay (stepP y3.p y3.k y3.i))] fun y4 =>
      LC1 N j N (SC1 n f (noteP y4) i 0) else some (.bool true) else some (.bool true) := com_0 N j n f p i
theorem com_1' (N m q : Nat) (n : Nat) (f : Nat → Int × Int) (p : Play) (i a : Int) : LC1 N m (q + 1) (SC1 n f p i a) =
  bif decide (a < (p.reps.length : Int)) then rg a p.reps.length <| gC dRep1 pRep1 eRep1 [.agg (encRep (p.reps.getD a.toNat default))] fun y5 => LC2 N m q N (SC2 n f p i a (commitP y5) 0)
  else LC0 N m (SPl n f p (IntKind.i64.wrap (i + 1))) := com_1 N m q n f p i a
noncomputable def valK (p : Play) (r : Rep) (K : Option AV) : Option AV := gC decLM preLM encLM [encMembers p.valid, .agg (encMember r.self)] fun y => bif decide (y.2 ∈ y.1) then bif !decide (r.view.phase = 0) then gC dRVr pRVr eRVr [.agg (encRep r), eV p.safe] fun y => bif !hasP y.1 y.2 then some (.bool false) else K else K else K
theorem com_2' (N m q o : Nat) (n : Nat) (f : Nat → Int × Int) (p : Play) (i a : Int) (c : Ver) (b : Int) : LC2 N m q (o + 1) (SC2 n f p i a c b) =
  bif decide (b < (p.reps.length : Int)) then rg b p.reps.length <| rg a p.reps.length <| gC dRep1 pRep1 eRep1 [.agg (encRep (p.reps.getD a.toNat default))] fun y6 => bif headP y6 then rg a p.reps.length <|
      gC decLM preLM encLM [encMembers (p.reps.getD a.toNat default).view.chain, .agg (encMember (p.reps.getD b.toNat default).self)] fun y7 => bif decide (y7.2 ∈ y7.1) then
        gC dRVr pRVr eRVr [.agg (encRep (p.reps.getD b.toNat default)), eV c] fun y8 => bif !hasP y8.1 y8.2 then some (.bool false) else valK p (p.reps.getD b.toNat default) (LC2 N m q o (SC2 n f p i a c (IntKind.i64.wrap (b + 1))))
      else valK p (p.reps.getD b.toNat default) (LC2 N m q o (SC2 n f p i a c (IntKind.i64.wrap (b + 1))))
    else valK p (p.reps.getD b.toNat default) (LC2 N m q o (SC2 n f p i a c (IntKind.i64.wrap (b + 1))))
  else LC1 N m q (SC1 n f p i (IntKind.i64.wrap (a + 1))) := com_2 N m q o n f p i a c b
theorem has_of {r : Rep} {v : Ver} (h : r.view.phase ≠ 0) (h' : vle v r.tail.last) : hasP r v = true := by
  unfold hasP
  have h' : vlt r.tail.last v = false := h'
  rw [decide_eq_false h, h']; rfl
theorem valK_eq {g : Ghost} {N : Nat} {p : Play} {b : Nat} {K : Option AV} (hi : Inv g p) (hp : PlayIs N p) (hN : N ≤ 1000) (hb : b < p.reps.length) : valK p (repAt p b) K = K := by
  have hr := hp.rep b hb
  have hv := hp.vlen
  unfold valK
  have q1 : ∀ K : LM → Option AV, gC decLM preLM encLM [encMembers p.valid, .agg (encMember (repAt p b).self)] K = K (p.valid, (repAt p b).self) := fun K => qLM (by unfold LB; omega)
  have q2 : ∀ K : Rep × Ver → Option AV, gC dRVr pRVr eRVr [.agg (encRep (repAt p b)), eV p.safe] K = K (repAt p b, p.safe) := fun K => gC_eq (repAt p b, p.safe) (Prod.ext (dec_encRep _) rfl) ⟨hr.tail.la.num hN, hp.safe.num hN⟩ (.refl _)
  rw [q1]
  simp only []
  by_cases hm : (repAt p b).self ∈ p.valid
  · rw [decide_eq_true hm, cond_true]
    by_cases h0 : (repAt p b).view.phase = 0
    · rw [decide_eq_true h0]; rfl
    · rw [decide_eq_false h0, q2]
      simp only []
      rw [has_of h0 (hi.safes hp.self hb hm h0)]; rfl
  · rw [decide_eq_false hm]; rfl
theorem com_run2 {g : Ghost} {N M m q n : Nat} {f : Nat → Int × Int} {p : Play} {i a : Nat} (hi : Inv g p) (hp : PlayIs N p) (hN : N ≤ 1000) (ha : a < p.reps.length) : ∀ d b o, b + d = p.reps.length → d < o →
    LC2 M m q o (SC2 n f p (i : Nat) (a : Nat) (commitP (repAt p a)) (b : Nat)) = LC1 M m q (SC1 n f p (i : Nat) ((a + 1 : Nat) : Int)) := by
  intro d
  have hlen := hp.hi
  induction d with
  | zero =>
    intro b o hb ho
    obtain ⟨o, rfl⟩ : ∃ k, o = k + 1 := ⟨o - 1, by omega⟩
    rw [com_2', decide_eq_false (by omega), cond_false, wrapS (by omega)]
  | succ d ih =>
    intro b o hb ho
    obtain ⟨o, rfl⟩ : ∃ k, o = k + 1 := ⟨o - 1, by omega⟩
    have hbl : b < p.reps.length := by omega
    have hr := hp.rep b hbl
    have hra := hp.rep a ha
    have q1 : ∀ K : Rep → Option AV, gC dRep1 pRep1 eRep1 [.agg (encRep (repAt p a))] K = K (repAt p a) := fun K => qRep1 (P := pRep1) trivial
    have q2 : ∀ K : LM → Option AV, gC decLM preLM encLM [encMembers (repAt p a).view.chain, .agg (encMember (repAt p b).self)] K = K ((repAt p a).view.chain, (repAt p b).self) := fun K => qLM (by have := hra.chain.1; unfold LB; omega)
    have q3 : ∀ K : Rep × Ver → Option AV, gC dRVr pRVr eRVr [.agg (encRep (repAt p b)), eV (commitP (repAt p a))] K = K (repAt p b, commitP (repAt p a)) := fun K =>
      gC_eq (repAt p b, commitP (repAt p a)) (Prod.ext (dec_encRep _) rfl) ⟨hr.tail.la.num hN, (commitP_is hra).1.num hN⟩ (.refl _)
    rw [com_2', decide_eq_true (by omega), cond_true, rg_eq hbl, rg_eq ha, Int.toNat_natCast, Int.toNat_natCast]
    have e0 : ∀ j, p.reps.getD j default = repAt p j := fun j => rfl
    rw [e0, e0, q1, rg_eq ha, q2, q3, wrapS (by omega), ih (b + 1) o (by omega) (by omega), valK_eq hi hp hN hbl]
    simp only []
    cases hh : headP (repAt p a) with
    | false => rfl
    | true =>
      rw [cond_true]
      by_cases hm : (repAt p b).self ∈ (repAt p a).view.chain
      · obtain ⟨h1, h2⟩ := hi.commits hp.self ha hbl hh hm
        rw [decide_eq_true hm, cond_true, has_of h1 h2]; rfl
      · rw [decide_eq_false hm]; rfl
theorem com_run1 {g : Ghost} {N M m n : Nat} {f : Nat → Int × Int} {p : Play} {i : Nat} (hi : Inv g p) (hp : PlayIs N p) (hN : N ≤ 1000) (hM : 5 ≤ M) (hi8 : i ≤ 80) : ∀ d a q, a + d = p.reps.length → d < q →
    LC1 M m q (SC1 n f p (i : Nat) (a : Nat)) = LC0 M m (SPl n f p ((i + 1 : Nat) : Int)) := by
  intro d
  have hlen := hp.hi
  induction d with
  | zero =>
    intro a q hb ho
    obtain ⟨q, rfl⟩ : ∃ k, q = k + 1 := ⟨q - 1, by omega⟩
    rw [com_1', decide_eq_false (by omega), cond_false, wrapS (by omega)]
  | succ d ih =>
    intro a q hb ho
    obtain ⟨q, rfl⟩ : ∃ k, q = k + 1 := ⟨q - 1, by omega⟩
    have hal : a < p.reps.length := by omega
    have q1 : ∀ K : Rep → Option AV, gC dRep1 pRep1 eRep1 [.agg (encRep (repAt p a))] K = K (repAt p a) := fun K => qRep1 (P := pRep1) trivial
    have e0 : ∀ j, p.reps.getD j default = repAt p j := fun j => rfl
    rw [com_1', decide_eq_true (by omega), cond_true, rg_eq hal, Int.toNat_natCast, e0, q1]
    have r := com_run2 (M := M) (m := m) (q := q) (n := n) (f := f) (i := i) hi hp hN hal p.reps.length 0 M (by omega) (by omega)
    rw [Int.natCast_zero] at r
    rw [r]
    exact ih (a + 1) q (by omega) (by omega)
theorem RunP.inv {i : Nat} {p : Play} {s : Int × Int} (h : RunP i p) (hi : i ≤ 80) (hg : ∃ g, Inv g p) : ∃ g, Inv g (nextP p s) := by
  obtain ⟨g, hg⟩ := hg
  obtain ⟨g1, h1⟩ := do_inv (up := upB (s.2.toNat : Int)) (k := s.1.toNat % 7) (i := s.2.toNat) hg h.is
  exact note_inv h1 (do_is h.is (by omega)).1
theorem com_run {M n : Nat} {f : Nat → Int × Int} (hf : ∀ i, i < n → StOk (f i)) (hn : n ≤ 80) (hM : 5 ≤ M) : ∀ d i j p, i + d = n → d < j → PlayIs (i + 1) p → WayK p → (∃ g, Inv g p) → LC0 M j (SPl n f p (i : Nat)) = some (.bool true) := by
  intro d
  induction d with
  | zero =>
    intro i j p hi hj _ _ _
    obtain ⟨j, rfl⟩ : ∃ k, j = k + 1 := ⟨j - 1, by omega⟩
    rw [com_0', decide_eq_false (by omega), cond_false]
  | succ d ih =>
    intro i j p hi hj hp hk hg
    obtain ⟨j, rfl⟩ : ∃ k, j = k + 1 := ⟨j - 1, by omega⟩
    have hil : i < n := by omega
    rw [com_0', decide_eq_true (by omega), cond_true]
    by_cases hw : p.way.length ≤ 200
    · have hr : RunP i p := ⟨hp, hk, hw⟩
      rw [decide_eq_true (by omega), cond_true, rg_eq hil, Int.toNat_natCast, qDo (hf i hil) (hr.ps (by omega) (hf i hil))]
      simp only []
      have q1 : ∀ K : Play → Option AV, gC dP1 pP1 eP1 [.agg (encPlay (stepP p (f i).1.toNat (f i).2.toNat))] K = K (stepP p (f i).1.toNat (f i).2.toNat) := fun K => qNote (hr.p1 (by omega))
      rw [q1]
      have e : noteP (stepP p (f i).1.toNat (f i).2.toNat) = nextP p (f i) := rfl
      rw [e]
      obtain ⟨n1, n2⟩ := hr.next (s := f i) (by omega)
      have hg' := hr.inv (s := f i) (by omega) hg
      obtain ⟨g, hg1⟩ := hg'
      have r := com_run1 (M := M) (m := j) (n := n) (f := f) (i := i) hg1 n1 (by omega) hM (by omega) (nextP p (f i)).reps.length 0 M (by omega) (by have := n1.hi; omega)
      rw [Int.natCast_zero] at r
      rw [r]
      exact ih (i + 1) j _ (by omega) (by omega) n1 n2 ⟨g, hg1⟩
    · rw [decide_eq_false (by omega), cond_false]
theorem com_law {k : Int} {n : Nat} {f : Nat → Int × Int} (hk : 0 ≤ k ∧ k ≤ 255) (hf : ∀ i, i < n → StOk (f i)) : callT env52 (n + 8) F_lockgatelaw18_ChainCommits [.int .u8 k, stepsV n f] = some (.bool true) := by
  have e := com_in (n + 7) k n f
  have q0 : ∀ K : Unit → Option AV, gC (fun _ => ()) (fun _ => True) (fun _ => []) [] K = K () := fun K => gC_one (.refl _)
  rw [q0, q0] at e
  rw [e]
  by_cases h : (80 : Int) < n
  · rw [decide_eq_true h, cond_true]
  · obtain ⟨h1, h2⟩ := nOf_ok hk
    rw [decide_eq_false h, cond_false, h2, qBegin h1]
    have r := com_run (M := n + 7) hf (by omega) (by omega) n 0 (n + 7) (beginP (nOf k)) (by omega) (by omega) (begin_is h1.1 h1.2) (begin_kind _) (begin_inv h1.1)
    rw [Int.natCast_zero] at r
    exact r
theorem con52 {n f : Nat} {xs : List AV} {r : AV} (e : callT env52 n f xs = some r) : Contract PG f xs [] r [] := con_of (md := fun _ => none) kns52_ok e
theorem commits_ok : LawC PG 9 F_lockgatelaw18_ChainCommits [5, 22] := by
  intro avs h
  obtain ⟨k, n, f, h1, h2, h3⟩ := steps_shape h
  exact (con52 (com_law h1 h2)).args h3
end Go.Wk
end

section
/- ChainAgree: the law. -/
open Go Go.AM Go.Md
namespace Go.Wk
set_option maxRecDepth 100000
set_option maxHeartbeats 400000
/-! ### entries against themselves; Agree -/
theorem same05e_con (e : Entry) (h : pEE e) : Contract PG F_lockgateref05_Same (eEE e) [] (.bool true) [] := by
  obtain ⟨h1, h2⟩ := h
  have k := same05e_eq e
  have e1 : eqEntry e = true := by simp only [eqEntry, h1, h2, decide_true, strBeq_self, cond_self, Bool.and_true]
  rw [e1] at k
  exact con0 k
theorem kSame05e_ok : kSame05e.Ok PG := Known.spec_ok same05e_con
theorem agree_con (x : Tail × Tail) (h : TailsOk x) : Contract PG F_lockgateref18_Agree (eTT x) [] (.bool true) [] := by
  obtain ⟨a, b⟩ := x
  obtain ⟨ha, hb, hva, hvb, hab⟩ := h
  simp only at ha hb hva hvb hab
  generalize hN : a.log.length + b.log.length + 1 = N
  have run1 : ∀ (m i : Nat), i < a.log.length → ∀ d k q, k + d = b.log.length → d < q → LP env53 N 0 F_lockgateref18_Agree snK 2 [m] q (SA1 a b (i : Nat) (k : Nat)) = LP env53 N 0 F_lockgateref18_Agree snK 0 [] m (SA0 a b ((i + 1 : Nat) : Int)) := by
    intro m i hi d
    induction d with
    | zero =>
      intro k q hk hq
      obtain ⟨q, rfl⟩ : ∃ j, q = j + 1 := ⟨q - 1, by omega⟩
      rw [agr_1, decide_eq_false (by omega), cond_false, wrapS (by omega)]; rfl
    | succ d ih =>
      intro k q hk hq
      obtain ⟨q, rfl⟩ : ∃ j, q = j + 1 := ⟨q - 1, by omega⟩
      have hkl : k < b.log.length := by omega
      have ma := mem_getD hi (z := (default : Entry))
      have mb := mem_getD hkl (z := (default : Entry))
      have q1 : ∀ K : Ver → Option AV, gC dV1 VNum eV1 [.cplx .f64 (a.log.getD i default).ver.re (a.log.getD i default).ver.im] K = K (a.log.getD i default).ver := fun K => qV1 (hva _ ma)
      have q2 : ∀ K : Ver → Option AV, gC dV1 VNum eV1 [.cplx .f64 (b.log.getD k default).ver.re (b.log.getD k default).ver.im] K = K (b.log.getD k default).ver := fun K => qV1 (hvb _ mb)
      rw [agr_1, decide_eq_true (by omega), cond_true, decide_eq_true (by omega : (0 : Int) ≤ (i : Int)), decide_eq_true (by omega : (i : Int) < (a.log.length : Int)), Int.toNat_natCast, Int.toNat_natCast, q1, decide_eq_true (by omega : (0 : Int) ≤ (k : Int)), q2, wrapS (by omega), ih (k + 1) q (by omega) (by omega)]
      simp only [Bool.and_true, cond_true]
      by_cases hn : nu (a.log.getD i default).ver = nu (b.log.getD k default).ver
      · have e := hab _ ma _ mb hn
        have q3 : ∀ K : Entry → Option AV, gC dEE pEE eEE [.agg (encEntry (a.log.getD i default)), .agg (encEntry (b.log.getD k default))] K = K (a.log.getD i default) := fun K => by
          rw [← e]; exact gC_eq _ (dec_encEntry _) (hva _ ma).ok (.refl _)
        rw [decide_eq_true (by omega), cond_true, q3]
      · rw [decide_eq_false (by omega), cond_false]
  have run0 : ∀ d i m, i + d = a.log.length → d < m → LP env53 N 0 F_lockgateref18_Agree snK 0 [] m (SA0 a b (i : Nat)) = some (.bool true) := by
    intro d
    induction d with
    | zero =>
      intro i m hi hm
      obtain ⟨m, rfl⟩ : ∃ j, m = j + 1 := ⟨m - 1, by omega⟩
      rw [agr_0, decide_eq_false (by omega), cond_false]
    | succ d ih =>
      intro i m hi hm
      obtain ⟨m, rfl⟩ : ∃ j, m = j + 1 := ⟨m - 1, by omega⟩
      have r := run1 m i (by omega) b.log.length 0 N (by omega) (by omega)
      rw [Int.natCast_zero] at r
      have r' := r.trans (ih (i + 1) m (by omega) (by omega))
      rw [agr_0, decide_eq_true (by omega), cond_true]
      exact r'
  have r0 := run0 a.log.length 0 N (by omega) (by omega)
  rw [Int.natCast_zero] at r0
  exact con_of (md := fun _ => none) (ak kRNum_ok (ak kSame05e_ok ank)) ((agr_in N a b).trans r0)
theorem kAgree_ok : kAgree.Ok PG := Known.spec_ok agree_con
theorem kns54_ok : ∀ k ∈ kns54, k.Ok PG := ak kAwake_ok (ak kBegin_ok (ak kDo_ok (ak kNote_ok (ak kAgree_ok ank))))

/-! ### ChainAgree -/
noncomputable def LA0 (N k : Nat) (s : St) : Option AV := LP env54 N 0 F_lockgatelaw18_ChainAgree snK 0 [] k s
noncomputable def LA1 (N m k : Nat) (s : St) : Option AV := LP env54 N 0 F_lockgatelaw18_ChainAgree snK 2 [m] k s
noncomputable def LA2 (N m q k : Nat) (s : St) : Option AV := LP env54 N 0 F_lockgatelaw18_ChainAgree snK 4 [m, q] k s
theorem agl_0' (N j : Nat) (n : Nat) (f : Nat → Int × Int) (p : Play) (i : Int) : LA0 N (j + 1) (SPl n f p i) =
  bif decide (i < (n : Int)) then bif decide ((p.way.length : Int) ≤ 200) then rg i n <| gC dPS pPS ePS [.agg (encPlay p), .agg (stC (f i.toNat))] fun y3 => gC dP1 pP1 eP1 [.agg (encPlay (stepP y3.p y3.k y3.i))] fun y4 =>
      LA1 N j N (SC1 n f (noteP y4) i 0) else some (.bool true) else some (.bool true) := agl_0 N j n f p i
theorem agl_1' (N m q : Nat) (n : Nat) (f : Nat → Int × Int) (p : Play) (i a : Int) : LA1 N m (q + 1) (SC1 n f p i a) =
  bif decide (a < (p.reps.length : Int)) then LA2 N m q N (SG2 n f p i a 0) else LA0 N m (SPl n f p (IntKind.i64.wrap (i + 1))) := agl_1 N m q n f p i a
theorem agl_2' (N m q o : Nat) (n : Nat) (f : Nat → Int × Int) (p : Play) (i a b : Int) : LA2 N m q (o + 1) (SG2 n f p i a b) =
  bif decide (b < a) then rg a p.reps.length <| rg b p.reps.length <|
    bif decide ((p.reps.getD a.toNat default).view.epoch = (p.reps.getD b.toNat default).view.epoch) then bif decide ((p.reps.getD a.toNat default).view.phase = 3) then bif decide ((p.reps.getD b.toNat default).view.phase = 3) then
      gC dTT TailsOk eTT [.agg (encTail (p.reps.getD a.toNat default).tail), .agg (encTail (p.reps.getD b.toNat default).tail)] fun _ => LA2 N m q o (SG2 n f p i a (IntKind.i64.wrap (b + 1)))
    else LA2 N m q o (SG2 n f p i a (IntKind.i64.wrap (b + 1))) else LA2 N m q o (SG2 n f p i a (IntKind.i64.wrap (b + 1))) else LA2 N m q o (SG2 n f p i a (IntKind.i64.wrap (b + 1)))
  else LA1 N m q (SC1 n f p i (IntKind.i64.wrap (a + 1))) := agl_2 N m q o n f p i a b
theorem agl_run2 {W : Book} {N M m q n : Nat} {f : Nat → Int × Int} {p : Play} {i a : Nat} (hi : AInv W p) (hp : PlayIs N p) (hN : N ≤ 1000) (ha : a < p.reps.length) : ∀ d b o, b + d = a → d < o →
    LA2 M m q o (SG2 n f p (i : Nat) (a : Nat) (b : Nat)) = LA1 M m q (SC1 n f p (i : Nat) ((a + 1 : Nat) : Int)) := by
  intro d
  have hlen := hp.hi
  induction d with
  | zero =>
    intro b o hb ho
    obtain ⟨o, rfl⟩ : ∃ k, o = k + 1 := ⟨o - 1, by omega⟩
    rw [agl_2', decide_eq_false (by omega), cond_false, wrapS (by omega)]
  | succ d ih =>
    intro b o hb ho
    obtain ⟨o, rfl⟩ : ∃ k, o = k + 1 := ⟨o - 1, by omega⟩
    have hbl : b < p.reps.length := by omega
    have hr := hp.rep b hbl
    have hra := hp.rep a ha
    have e0 : ∀ j, p.reps.getD j default = repAt p j := fun j => rfl
    rw [agl_2', decide_eq_true (by omega), cond_true, rg_eq ha, rg_eq hbl, Int.toNat_natCast, Int.toNat_natCast, e0, e0, wrapS (by omega), ih (b + 1) o (by omega) (by omega)]
    by_cases h1 : (repAt p a).view.epoch = (repAt p b).view.epoch
    · by_cases h2 : (repAt p a).view.phase = 3
      · by_cases h3 : (repAt p b).view.phase = 3
        · have la := Nat.le_trans hra.tail.len (hra.tail.la.le hN).2
          have lb := Nat.le_trans hr.tail.len (hr.tail.la.le hN).2
          have hok : TailsOk ((repAt p a).tail, (repAt p b).tail) := ⟨by show (repAt p a).tail.log.length ≤ 10000; omega, by show (repAt p b).tail.log.length ≤ 10000; omega, fun e he => (hra.tail.ent e he).1.num hN, fun e he => (hr.tail.ent e he).1.num hN,
            fun x hx y hy hn => hi.agree ha hbl h1 h2 h3 hx hy hn⟩
          have q1 : ∀ K : Tail × Tail → Option AV, gC dTT TailsOk eTT [.agg (encTail (repAt p a).tail), .agg (encTail (repAt p b).tail)] K = K ((repAt p a).tail, (repAt p b).tail) := fun K =>
            gC_eq ((repAt p a).tail, (repAt p b).tail) (Prod.ext (dec_encTail _) (dec_encTail _)) hok (.refl _)
          rw [q1, decide_eq_true h1, decide_eq_true h2, decide_eq_true h3]; rfl
        · rw [decide_eq_true h1, decide_eq_true h2, decide_eq_false h3]; rfl
      · rw [decide_eq_true h1, decide_eq_false h2]; rfl
    · rw [decide_eq_false h1]; rfl
theorem agl_run1 {W : Book} {N M m n : Nat} {f : Nat → Int × Int} {p : Play} {i : Nat} (hi : AInv W p) (hp : PlayIs N p) (hN : N ≤ 1000) (hM : 5 ≤ M) (hi8 : i ≤ 80) : ∀ d a q, a + d = p.reps.length → d < q →
    LA1 M m q (SC1 n f p (i : Nat) (a : Nat)) = LA0 M m (SPl n f p ((i + 1 : Nat) : Int)) := by
  intro d
  have hlen := hp.hi
  induction d with
  | zero =>
    intro a q hb ho
    obtain ⟨q, rfl⟩ : ∃ k, q = k + 1 := ⟨q - 1, by omega⟩
    rw [agl_1', decide_eq_false (by omega), cond_false, wrapS (by omega)]
  | succ d ih =>
    intro a q hb ho
    obtain ⟨q, rfl⟩ : ∃ k, q = k + 1 := ⟨q - 1, by omega⟩
    have hal : a < p.reps.length := by omega
    rw [agl_1', decide_eq_true (by omega), cond_true]
    have r := agl_run2 (M := M) (m := m) (q := q) (n := n) (f := f) (i := i) hi hp hN hal a 0 M (by omega) (by omega)
    rw [Int.natCast_zero] at r
    rw [r]
    exact ih (a + 1) q (by omega) (by omega)
theorem RunP.ainv {i : Nat} {p : Play} {s : Int × Int} (h : RunP i p) (hi : i ≤ 80) (hg : ∃ g, Inv g p) (ha : ∃ W, AInv W p) : ∃ W, AInv W (nextP p s) := by
  obtain ⟨g, hg⟩ := hg
  obtain ⟨W, ha⟩ := ha
  obtain ⟨W1, h1⟩ := doA (up := upB (s.2.toNat : Int)) (k := s.1.toNat % 7) (i := s.2.toNat) ha hg h.is (by omega)
  exact ⟨W1, noteA _ _ h1⟩
theorem agl_run {M n : Nat} {f : Nat → Int × Int} (hf : ∀ i, i < n → StOk (f i)) (hn : n ≤ 80) (hM : 5 ≤ M) : ∀ d i j p, i + d = n → d < j → PlayIs (i + 1) p → WayK p → (∃ g, Inv g p) → (∃ W, AInv W p) → LA0 M j (SPl n f p (i : Nat)) = some (.bool true) := by
  intro d
  induction d with
  | zero =>
    intro i j p hi hj _ _ _ _
    obtain ⟨j, rfl⟩ : ∃ k, j = k + 1 := ⟨j - 1, by omega⟩
    rw [agl_0', decide_eq_false (by omega), cond_false]
  | succ d ih =>
    intro i j p hi hj hp hk hg ha
    obtain ⟨j, rfl⟩ : ∃ k, j = k + 1 := ⟨j - 1, by omega⟩
    have hil : i < n := by omega
    rw [agl_0', decide_eq_true (by omega), cond_true]
    by_cases hw : p.way.length ≤ 200
    · have hr : RunP i p := ⟨hp, hk, hw⟩
      rw [decide_eq_true (by omega), cond_true, rg_eq hil, Int.toNat_natCast, qDo (hf i hil) (hr.ps (by omega) (hf i hil))]
      simp only []
      have q1 : ∀ K : Play → Option AV, gC dP1 pP1 eP1 [.agg (encPlay (stepP p (f i).1.toNat (f i).2.toNat))] K = K (stepP p (f i).1.toNat (f i).2.toNat) := fun K => qNote (hr.p1 (by omega))
      rw [q1]
      have e : noteP (stepP p (f i).1.toNat (f i).2.toNat) = nextP p (f i) := rfl
      rw [e]
      obtain ⟨n1, n2⟩ := hr.next (s := f i) (by omega)
      have hg' := hr.inv (s := f i) (by omega) hg
      obtain ⟨W, hW⟩ := hr.ainv (s := f i) (by omega) hg ha
      have r := agl_run1 (M := M) (m := j) (n := n) (f := f) (i := i) hW n1 (by omega) hM (by omega) (nextP p (f i)).reps.length 0 M (by omega) (by have := n1.hi; omega)
      rw [Int.natCast_zero] at r
      rw [r]
      exact ih (i + 1) j _ (by omega) (by omega) n1 n2 hg' ⟨W, hW⟩
    · rw [decide_eq_false (by omega), cond_false]
theorem agl_law {k : Int} {n : Nat} {f : Nat → Int × Int} (hk : 0 ≤ k ∧ k ≤ 255) (hf : ∀ i, i < n → StOk (f i)) : callT env54 (n + 8) F_lockgatelaw18_ChainAgree [.int .u8 k, stepsV n f] = some (.bool true) := by
  have e := agl_in (n + 7) k n f
  have q0 : ∀ K : Unit → Option AV, gC (fun _ => ()) (fun _ => True) (fun _ => []) [] K = K () := fun K => gC_one (.refl _)
  rw [q0, q0] at e
  rw [e]
  by_cases h : (80 : Int) < n
  · rw [decide_eq_true h, cond_true]
  · obtain ⟨h1, h2⟩ := nOf_ok hk
    rw [decide_eq_false h, cond_false, h2, qBegin h1]
    have r := agl_run (M := n + 7) hf (by omega) (by omega) n 0 (n + 7) (beginP (nOf k)) (by omega) (by omega) (begin_is h1.1 h1.2) (begin_kind _) (begin_inv h1.1) beginA
    rw [Int.natCast_zero] at r
    exact r
theorem con54 {n f : Nat} {xs : List AV} {r : AV} (e : callT env54 n f xs = some r) : Contract PG f xs [] r [] := con_of (md := fun _ => none) kns54_ok e
theorem agree_ok : LawC PG 9 F_lockgatelaw18_ChainAgree [5, 22] := by
  intro avs h
  obtain ⟨k, n, f, h1, h2, h3⟩ := steps_shape h
  exact (con54 (agl_law h1 h2)).args h3
end Go.Wk
end
