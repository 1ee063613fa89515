/- Part 5 of the texts that the proof needs: the abstract machine, plain laws, contracts of the program's functions. No statement is claimed here. -/
import Derived.Test.YtiehekhdjafbaaaGreatPart4
set_option linter.unusedVariables false
set_option linter.unusedSimpArgs false
noncomputable section
open Go Go.AM Go.Md
namespace Go.Wk
set_option maxRecDepth 100000
set_option maxHeartbeats 400000
def isNil2 : AV -> Bool
 | .tr _ 0 _ => true
 | _ => false
def kCloN : Known := { f := F_slices_Clone_api_Member, ans := fun args hp => match isNil2 (args.getD 0 .undef) with
 | true => kCloneMember.ans args hp
 | false => kCloB.ans args hp }
theorem kCloN_ok : kCloN.Ok PG := by
 intro args hp A e hg
 have e : (match isNil2 (args.getD 0 .undef) with
  | true => kCloneMember.ans args hp
  | false => kCloB.ans args hp) = some A := e
 cases hc : isNil2 (args.getD 0 .undef) with
 | true => rw [hc] at e; exact kCloneMember_ok args hp A e hg
 | false => rw [hc] at e; exact kCloB_ok args hp A e hg
def kMsgBB : Known := { f := F_twin_Msgs, ans := fun args hp => match isEmpT (args.getD 0 .undef) with
 | true => match args, hp with
  | [_], [] => some { X := Unit, g := true, a := (), r := fun _ => (.trl 31 [], []) }
  | _, _ => none
 | false => kMsgs.ans args hp }
theorem kMsgBB_ok : kMsgBB.Ok PG := by
 intro args hp A e hg
 unfold kMsgBB at e
 simp only [] at e
 cases hE : isEmpT (args.getD 0 .undef) with
 | true =>
  rw [hE] at e
  simp only [] at e
  split at e
  ·rename_i v
   cases e
   have : v = .trl 31 [] := isEmpT_eq hE
   subst this
   exact ⟨emp_con, Nat.le_refl _⟩
  ·cases e
 | false => rw [hE] at e; exact kMsgs_ok args hp A e hg
def mdB2 (f : Nat) : Option Nat := bif Nat.beq f F_slices_Clone_api_Member then some 1 else mdT f
def envN2 (l : List Known) : Env := { envL [] mdB2 l with msk := fun f => bif Nat.beq f F_coord_Up then [2, 4, 5, 6] else [] }
theorem envN2_ok {l : List Known} (h : ∀ k ∈ l, k.Ok PG) : EnvOk PG (envN2 l) := ⟨tt_ok rfl, orc_ok h⟩
theorem conN2H {l : List Known} (h : ∀ k ∈ l, k.Ok PG) {n f : Nat} {args : List AV} {hp : Heap} {r : AV} {hp' : Heap} (e : callH (envN2 l) n f args hp = some (r, hp')) : Contract PG f args hp r hp' /\ hp.length <= hp'.length := callH_ok (envN2_ok h) (codeOf_ok rfl) mixed e
def knN2 : List Known := [kMsgBB, kCloA, kCloN]
theorem knN2_ok : ∀ k ∈ knN2, k.Ok PG := ak kMsgBB_ok (ak kCloA_ok (ak kCloN_ok ank))
def oM : List Member -> Nat
 | [] => 0
 | _ :: _ => 1
def oD : ND -> Nat
 | .blk => 1
 | .emp _ => 0
def oF {X : Type} : LN X -> Nat
 | .ne _ _ => 1
 | _ => 0
def blkM2 (l : List Member) : BS := .seq true 2 l.length fun i => encMember (l.getD i default)
def blkG2 (l : List Msg) : BS := .seq true 31 l.length fun i => encMsg (l.getD i default)
def gB2 {R : Type} (l : List Member) (q : Nat) (K : AV -> List BS -> Option R) : Option R := match l with
 | [] => gMs [] fun y => K (encMembers y) []
 | a :: t => gCloB (a :: t) fun y => K (.sl 2 q 0 y.length 0) [blkM2 y]
def gN2 {R : Type} (d : ND) (ns : List Alive) (q : Nat) (K : AV -> List BS -> Option R) : Option R := match d with
 | .blk => gCA ns fun y => K (.sl 3 q 0 y.length 0) [blkM y]
 | .emp n => K (nA n) []
def gF2 {R : Type} (fz : LN Msg) (q : Nat) (K : AV -> List BS -> Option R) : Option R := match fz with
 | .nil => K .nils []
 | .emp => K (.trl 31 []) []
 | .ne a t => gC (dL decMsg) pMs eMs [encMsgs (a :: t)] fun y => K (.sl 31 q 0 y.length 0) [blkG2 y]
def gA2 {R : Type} (l : List Ask) (b : Bool) (q : Nat) (K : AV -> List BS -> Option R) : Option R := match l with
 | [] => K (aqV b) []
 | a :: t => gC dAk pAk eAk [encAsks (a :: t)] fun y => K (.sl 31 q 0 y.length 0) [blkA y]
def plC2 (p : Plan) (C V : AV) : List AV := [.int .i64 p.epoch, .int .i64 p.gen, .int .i64 p.phase, .bool p.fresh, .int .i64 p.base, .int .i64 p.reset, C, V]
def gB2s {R : Type} (d : ND) (s : ES) (b : Bool) (K : AV -> List BS -> AV -> List BS -> AV -> List BS -> AV -> List BS -> AV -> List BS -> AV -> List BS -> Option R) : Option R :=
 gB2 s.p.chain 1 fun c C => gB2 s.p.valid (1 + oM s.p.chain) fun v V => gN2 d s.ns (1 + oM s.p.chain + oM s.p.valid) fun N Nb => gB2 s.keep (1 + oM s.p.chain + oM s.p.valid + oD d + 1) fun k Kb =>
  gF2 s.fz (1 + oM s.p.chain + oM s.p.valid + oD d + 1 + oM s.keep) fun F Fb => gA2 s.l b (1 + oM s.p.chain + oM s.p.valid + oD d + 1 + oM s.keep + oF s.fz) fun A Ab => K c C v V N Nb k Kb F Fb A Ab
def oB2s (d : ND) (s : ES) (c : AV) (C : List BS) (v : AV) (V : List BS) (N : AV) (Nb : List BS) (k : AV) (Kb : List BS) (F : AV) (Fb : List BS) (A : AV) (Ab : List BS) : Option (AV × Heap) :=
 some (.agg [.int .i64 s.e, .int .i64 s.g, .sl 8 0 0 1 1, N, .sl 4 (1 + oM s.p.chain + oM s.p.valid + oD d) 0 1 1, .nils, A], .arr true 8 [plC2 s.p c v] :: (C ++ (V ++ (Nb ++ (.arr true 4 [[.bool s.fe, k, F, .bool s.he]] :: (Kb ++ (Fb ++ Ab)))))))
theorem bb_blk (s : ES) (b : Bool) (hne : s.ns ≠ []) : callH (envN2 knN2) 20 F_twin_Bureau [.agg (buD .blk s b)] [] = gB2s .blk s b (oB2s .blk s) := by
 obtain ⟨e, g, p, ns, nb, op, keep, fz, fe, he, l, cf⟩ := s
 obtain ⟨p1, p2, p3, p4, p5, p6, ch, va⟩ := p
 cases ns with
 | nil => exact absurd rfl hne
 | cons n0 nt => cases ch <;> cases va <;> cases keep <;> cases fz <;> cases l <;> cases b <;> kernel_rfl
def mdB3 (f : Nat) : Option Nat := bif Nat.beq f F_slices_Clone_api_Member then some 1 else mdK f
def envN3 (l : List Known) : Env := { envL [] mdB3 l with msk := fun f => bif Nat.beq f F_coord_Up then [2, 4, 5, 6] else [] }
theorem envN3_ok {l : List Known} (h : ∀ k ∈ l, k.Ok PG) : EnvOk PG (envN3 l) := ⟨tt_ok rfl, orc_ok h⟩
theorem conN3H {l : List Known} (h : ∀ k ∈ l, k.Ok PG) {n f : Nat} {args : List AV} {hp : Heap} {r : AV} {hp' : Heap} (e : callH (envN3 l) n f args hp = some (r, hp')) : Contract PG f args hp r hp' /\ hp.length <= hp'.length := callH_ok (envN3_ok h) (codeOf_ok rfl) mixed e
def knN3 : List Known := [kMsgBB, kCloN]
theorem knN3_ok : ∀ k ∈ knN3, k.Ok PG := ak kMsgBB_ok (ak kCloN_ok ank)
theorem bb_emp (n : Bool) (s : ES) (b : Bool) : callH (envN3 knN3) 20 F_twin_Bureau [.agg (buD (.emp n) s b)] [] = gB2s (.emp n) s b (oB2s (.emp n) s) := by
 obtain ⟨e, g, p, ns, nb, op, keep, fz, fe, he, l, cf⟩ := s
 obtain ⟨p1, p2, p3, p4, p5, p6, ch, va⟩ := p
 cases n <;> cases ch <;> cases va <;> cases keep <;> cases fz <;> cases l <;> cases b <;> kernel_rfl
def mC (q : Nat) : List Member -> AV
 | [] => encMembers []
 | a :: t => .sl 2 q 0 (a :: t).length 0
def mBl : List Member -> List BS
 | [] => []
 | a :: t => [blkM2 (a :: t)]
def mBs : List Member -> BS
 | [] => .none
 | a :: t => blkM2 (a :: t)
def nC (d : ND) (q : Nat) (ns : List Alive) : AV := match d with
 | .blk => .sl 3 q 0 ns.length 0
 | .emp n => nA n
def nBl (d : ND) (ns : List Alive) : List BS := match d with
 | .blk => [blkM ns]
 | .emp _ => []
def nBs (d : ND) (ns : List Alive) : BS := match d with
 | .blk => blkM ns
 | .emp _ => .none
def fC (q : Nat) : LN Msg -> AV
 | .nil => .nils
 | .emp => .trl 31 []
 | .ne a t => .sl 31 q 0 (a :: t).length 0
def fBl : LN Msg -> List BS
 | .ne a t => [blkG2 (a :: t)]
 | _ => []
def fBs : LN Msg -> BS
 | .ne a t => blkG2 (a :: t)
 | _ => .none
def aC (q : Nat) (b : Bool) : List Ask -> AV
 | [] => aqV b
 | a :: t => .sl 31 q 0 (a :: t).length 0
def aBl : List Ask -> List BS
 | [] => []
 | a :: t => [blkA (a :: t)]
def aBs : List Ask -> BS
 | [] => .none
 | a :: t => blkA (a :: t)
theorem gB2_eq {R : Type} {l : List Member} {q : Nat} {K : AV -> List BS -> Option R} (h : l.length <= 1000) : gB2 l q K = K (mC q l) (mBl l) := by
 cases l with
 | nil => exact gMs_eq _ (by unfold shortL LB; simp)
 | cons a t => exact gCloB_eq (by unfold shortL LB; omega) (List.cons_ne_nil _ _)
theorem gN2_eq {R : Type} {d : ND} {ns : List Alive} {q : Nat} {K : AV -> List BS -> Option R} (h : ns.length <= 1000) (h2 : d = .blk -> ns ≠ []) : gN2 d ns q K = K (nC d q ns) (nBl d ns) := by
 cases d with
 | blk => exact gCA_eq h (h2 rfl)
 | emp n => rfl
theorem gF2_eq {R : Type} {fz : LN Msg} {q : Nat} {K : AV -> List BS -> Option R} (h : fz.l.length <= 1000) (hc : ∀ f ∈ fz.l, CpOk f) : gF2 fz q K = K (fC q fz) (fBl fz) := by
 cases fz with
 | nil => rfl
 | emp => rfl
 | ne a t => exact qMs ⟨Nat.le_trans h (by omega), List.cons_ne_nil _ _, hc⟩
theorem gA2_eq {R : Type} {l : List Ask} {b : Bool} {q : Nat} {K : AV -> List BS -> Option R} (h : l.length <= 1000) : gA2 l b q K = K (aC q b l) (aBl l) := by
 cases l with
 | nil => rfl
 | cons a t => exact qAk ⟨Nat.le_trans h (by omega), List.cons_ne_nil _ _⟩
def resB (d : ND) (s : ES) (b : Bool) : AV := .agg [.int .i64 s.e, .int .i64 s.g, .sl 8 0 0 1 1, nC d 3 s.ns, .sl 4 4 0 1 1, .nils, aC 7 b s.l]
def hpB8 (d : ND) (s : ES) : Heap := [.arr true 8 [plC2 s.p (mC 1 s.p.chain) (mC 2 s.p.valid)], mBs s.p.chain, mBs s.p.valid, nBs d s.ns, .arr true 4 [[.bool s.fe, mC 5 s.keep, fC 6 s.fz, .bool s.he]], mBs s.keep, fBs s.fz, aBs s.l]
def idB (l : List Bool) (i : Nat) : List Bool -> List Nat
 | [] => []
 | true :: r => i :: idB l (i + 1) r
 | false :: r => (1000 + r.length) :: idB l i r
def isMm : List Member -> Bool
 | [] => false
 | _ => true
def isDd : ND -> Bool
 | .blk => true
 | _ => false
def isFf : LN Msg -> Bool
 | .ne _ _ => true
 | _ => false
def isAa : List Ask -> Bool
 | [] => false
 | _ => true
def idsB (d : ND) (s : ES) : List Nat := idB [] 0 [true, isMm s.p.chain, isMm s.p.valid, isDd d, true, isMm s.keep, isFf s.fz, isAa s.l]
def distB : List Nat -> Bool
 | [] => true
 | x :: r => !memb x r && distB r
theorem distB_ok : ∀ {l : List Nat}, distB l = true -> Distinct l
 | [], _ => Distinct.nil
 | x :: r, h => by
  obtain ⟨h1, h2⟩ := and_true' (show (!memb x r && distB r) = true from h)
  have ih := distB_ok h2
  have hx : x ∉ r := fun hm => by rw [memb_true hm] at h1; cases h1
  intro i j b e e'
  cases i with
  | zero =>
   cases j with
   | zero => rfl
   | succ j => simp at e e'; subst e; exact absurd (List.mem_of_getElem? e') hx
  | succ i =>
   cases j with
   | zero => simp at e e'; subst e'; exact absurd (List.mem_of_getElem? e) hx
   | succ j => simp at e e'; rw [ih i j b e e']
def reB (ids : List Nat) (x : AV × Heap) : AV × Heap := (ren (fun b => indexOf b ids 0) x.1, reheap ids (hget x.2))
def flB (d : ND) (s : ES) (b : Bool) : AV × Heap :=
 (.agg [.int .i64 s.e, .int .i64 s.g, .sl 8 0 0 1 1, nC d (1 + oM s.p.chain + oM s.p.valid) s.ns, .sl 4 (1 + oM s.p.chain + oM s.p.valid + oD d) 0 1 1, .nils, aC (1 + oM s.p.chain + oM s.p.valid + oD d + 1 + oM s.keep + oF s.fz) b s.l],
  .arr true 8 [plC2 s.p (mC 1 s.p.chain) (mC (1 + oM s.p.chain) s.p.valid)] :: (mBl s.p.chain ++ (mBl s.p.valid ++ (nBl d s.ns ++ (.arr true 4 [[.bool s.fe, mC (1 + oM s.p.chain + oM s.p.valid + oD d + 1) s.keep, fC (1 + oM s.p.chain + oM s.p.valid + oD d + 1 + oM s.keep) s.fz, .bool s.he]] :: (mBl s.keep ++ (fBl s.fz ++ aBl s.l)))))))
theorem flB_eq (s : ES) (b : Bool) : distB (idsB .blk s) = true /\ reB (idsB .blk s) (flB .blk s b) = (resB .blk s b, hpB8 .blk s) := by
 obtain ⟨e, g, p, ns, nb, op, keep, fz, fe, he, l, cf⟩ := s
 obtain ⟨p1, p2, p3, p4, p5, p6, ch, va⟩ := p
 cases ch <;> cases va <;> cases keep <;> cases fz <;> cases l <;> cases b <;> exact ⟨by kernel_rfl, by kernel_rfl⟩
theorem flB_eqE (n : Bool) (s : ES) (b : Bool) : distB (idsB (.emp n) s) = true /\ reB (idsB (.emp n) s) (flB (.emp n) s b) = (resB (.emp n) s b, hpB8 (.emp n) s) := by
 obtain ⟨e, g, p, ns, nb, op, keep, fz, fe, he, l, cf⟩ := s
 obtain ⟨p1, p2, p3, p4, p5, p6, ch, va⟩ := p
 cases n <;> cases ch <;> cases va <;> cases keep <;> cases fz <;> cases l <;> cases b <;> exact ⟨by kernel_rfl, by kernel_rfl⟩
theorem burB_con {d : ND} {s : ES} {b : Bool} (h : BOk d s) : Contract PG F_twin_Bureau [.agg (buD d s b)] [] (resB d s b) (hpB8 d s) := by
 have h1 := h.eok.ch
 have h2 := h.val
 have h3 := h.eok.ns
 have h4 := h.eok.keep
 have hc : Contract PG F_twin_Bureau [.agg (buD d s b)] [] (flB d s b).1 (flB d s b).2 /\ distB (idsB d s) = true /\ reB (idsB d s) (flB d s b) = (resB d s b, hpB8 d s) := by
  cases d with
  | blk =>
   have hne : s.ns ≠ [] := by
    rcases h.nd with x | x
    ·exact x.2
    ·exact absurd rfl x.1
   have e := bb_blk s b hne
   unfold gB2s at e
   rw [gB2_eq (by omega), gB2_eq h2, gN2_eq h3 (fun _ => hne), gB2_eq (by omega), gF2_eq h.eok.fz h.cp, gA2_eq h.eok.l] at e
   exact ⟨(conN2H knN2_ok e).1, flB_eq s b⟩
  | emp n =>
   have e := bb_emp n s b
   unfold gB2s at e
   rw [gB2_eq (by omega), gB2_eq h2, gN2_eq h3 (fun x => by cases x), gB2_eq (by omega), gF2_eq h.eok.fz h.cp, gA2_eq h.eok.l] at e
   exact ⟨(conN3H knN3_ok e).1, flB_eqE n s b⟩
 obtain ⟨c1, c2, c3⟩ := hc
 have := c1.renum (distB_ok c2)
 have e1 : ren (fun b => indexOf b (idsB d s) 0) (flB d s b).1 = resB d s b := congrArg Prod.fst c3
 have e2 : reheap (idsB d s) (hget (flB d s b).2) = hpB8 d s := congrArg Prod.snd c3
 rwa [e1, e2] at this
inductive FF where
 | seq (l : List Msg)
 | one (c : Msg)
def FF.l : FF -> List Msg
 | .seq l => l
 | .one c => [c]
def FF.av : FF -> AV
 | .seq l => .sl 31 3 0 l.length 0
 | .one _ => .sl 31 3 0 1 1
def FF.bs : FF -> BS
 | .seq l => .seq true 31 l.length fun i => encMsg (l.getD i default)
 | .one c => .arr true 31 [encMsg c]
def FF.tr : FF -> AV
 | .seq l => encMsgs l
 | .one c => .trl 31 [encMsg c]
def hpDf (e g : Int) (ns : List Alive) (Aq O : AV) (c : CConf) (P W : List AV) (Fb : BS) (A : List BS) : Heap := .arr true 23 [dsk e g (.sl 8 1 0 1 1) (encAlives ns) (.sl 4 2 0 1 1) .nils Aq c O] :: .arr true 8 [P] :: .arr true 4 [W] :: Fb :: A
def wkT (s : ES) (F : AV) : List AV := [.bool s.fe, encMembers s.keep, F, .bool s.he]
def hpE1 (s : ES) (x : FF) (b : Bool) : Heap := hpDf s.e s.g s.ns (aqV b) .nils s.c (encPlan s.p) (wkT s x.av) x.bs []
def gFg {R : Type} (x : FF) (K : Option R) : Option R := match x with
 | .seq l => bif (l.length.beq 0 || l.length.ble l.length) && true && true then K else none
 | .one _ => K
def gFm {R : Type} (x : FF) (K : Option R) : Option R := match x with
 | .seq l => bif (l.length.beq 0 || l.length.ble l.length) && true && true && true && true && true then K else none
 | .one _ => K
def gMay1 {R : Type} (s : ES) (x : FF) (A : AV) (K : DS -> Option R) : Option R := gC dMy pDS eMy [.tp (dsk s.e s.g (.trl 8 [encPlan s.p]) (encAlives s.ns) (.trl 4 [wkT s x.tr]) .nils A s.c .nils) 0, .int .i64 0] K
def gBe1 {R : Type} (s : ES) (x : FF) (K : WI -> Option R) : Option R := gC dWI pWI eWI [.agg (wkT s x.tr), .int .i64 s.p.base] K
def hpT1 (y : WR) (x : FF) (b : Bool) (O : AV) (A : List BS) : Heap := hpDf y.e y.g y.ns (aqV b) O y.c (encPlan y.p) wk0 x.bs A
def tail1 (x : FF) (b : Bool) (y : WR) : Option (AV × Heap) :=
 bif decide ((y.p.chain.length : Int) = 0) then some (.bool true, hpT1 y x b .nils [])
 else bif decide (0 < (y.p.chain.length : Int)) then gMs y.p.chain fun ch => some (.bool true, hpT1 y x b (.sl 31 4 0 1 1) [.arr true 31 [actM y.p ch]]) else none
def core1 (T : WR -> Option (AV × Heap)) (s : ES) (x : FF) (up : List Member) : Option (AV × Heap) :=
 gFg x (gBe1 s x fun y2 => bif (bestP y2.1 y2.2).isSome then
   bif !s.p.fresh then gLd s.keep (fstB (bestP y2.1 y2.2)) fun y3 => gCh (leadP y3.1 y3.2) up s.c.chain fun y4 => gMs s.keep fun y5 => T (wrE s s.g { s.p with phase := 3, chain := chainP y4.1.1 y4.1.2 y4.2, valid := y5 })
   else bif s.p.fresh then bif decide (0 < (s.p.chain.length : Int)) then freshG T s (IntKind.i64.wrap (s.g + 1)) (IntKind.i64.wrap (s.g + 1)) up else freshG T s s.g s.p.gen up
    else freshG T s s.g s.p.gen up
  else bif s.p.fresh then bif decide (0 < (s.p.chain.length : Int)) then freshG T s (IntKind.i64.wrap (s.g + 1)) (IntKind.i64.wrap (s.g + 1)) up else freshG T s s.g s.p.gen up
   else freshG T s s.g s.p.gen up)
theorem end1 (s : ES) (x : FF) (b : Bool) : callH (envHd kn14) 12 F_coord_desk_end [.ptr 0 0 0, .int .i64 0] (hpE1 s x b) =
 gFm x (gMay1 s x (aqV b) fun y0 => bif !mayP y0 then some (.bool false, hpE1 s x b) else gUpM s.e s.g s.ns s.c fun y1 => core1 (tail1 x b) s x (upP y1.ns y1.c.susp)) := by
 obtain ⟨e, g, p, ns, nb, op, keep, fz, fe, he, l, c⟩ := s
 cases x <;> cases b <;> kernel_rfl
def hpE2 (s : ES) (x : FF) : Heap := hpDf s.e s.g s.ns (.sl 31 4 0 s.l.length 0) .nils s.c (encPlan s.p) (wkT s x.av) x.bs [blkA s.l]
def gFn {R : Type} (x : FF) (l : List Ask) (K : Option R) : Option R := match x with
 | .seq f => bif ((((f.length.beq 0 || f.length.ble f.length) && true) && true) && true && ((l.length.beq 0 || l.length.ble l.length) && true)) && true then K else none
 | .one _ => bif (l.length.beq 0 || l.length.ble l.length) && true && true then K else none
def hpF2 (y : WR) (x : FF) : Heap := hpDf y.e y.g y.ns (.sl 31 4 0 0 0) (.sl 31 5 0 (y.l.length + 1) 0) y.c (encPlan y.p) wk0 x.bs [clrA y.l, .seq true 31 (y.l.length + 1) (canF idC [] (outW y))]
def tail2 (x : FF) (y : WR) : Option (AV × Heap) :=
 bif decide ((y.p.chain.length : Int) = 0) then gCH dWR pWR eWR [.ptr 0 0 0, .int .i64 0] (hpT y .nils []) fun z => some (.bool true, hpF2 z x)
 else bif decide (0 < (y.p.chain.length : Int)) then gMs y.p.chain fun ch => gCH dWR pWR eWR [.ptr 0 0 0, .int .i64 0] (hpT y (.sl 31 4 0 1 1) [.arr true 31 [actM y.p ch]]) fun z => some (.bool true, hpF2 z x) else none
theorem end2 (s : ES) (x : FF) (hb : s.nb = false) (ho : s.op = .nil) : callH (envHd kn12) 12 F_coord_desk_end [.ptr 0 0 0, .int .i64 0] (hpE2 s x) =
 gFn x s.l (gMay1 s x (encAsks s.l) fun y0 => bif !mayP y0 then some (.bool false, hpE2 s x) else gUpM s.e s.g s.ns s.c fun y1 => core1 (tail2 x) s x (upP y1.ns y1.c.susp)) := by
 obtain ⟨e, g, p, ns, nb, op, keep, fz, fe, he, l, c⟩ := s
 cases hb; cases ho
 cases x <;> kernel_rfl
def lnOf : List Msg -> LN Msg
 | [] => .emp
 | a :: t => .ne a t
theorem lnOf_l (l : List Msg) : (lnOf l).l = l := by cases l <;> rfl
def sF (s : ES) (x : FF) : ES := { s with fz := lnOf x.l }
theorem wkE_sF (s : ES) (x : FF) : wkE (sF s x) = ⟨s.fe, s.keep, x.l, s.he⟩ := by
 show (⟨s.fe, s.keep, (lnOf x.l).l, s.he⟩ : Work) = _
 rw [lnOf_l]
theorem wkT_dec (s : ES) (x : FF) : decWork (wkT s x.tr) = wkE (sF s x) := by
 rw [wkE_sF]
 cases x with
 | seq l =>
  show (⟨s.fe, decL decMember (encMembers s.keep), decL decMsg (encMsgs l), s.he⟩ : Work) = _
  rw [decMembers, decMsgs]; rfl
 | one c =>
  show (⟨s.fe, decL decMember (encMembers s.keep), [decMsg (encMsg c)], s.he⟩ : Work) = _
  rw [decMembers, dec_encMsg]; rfl
theorem wkT_sub (s : ES) (x : FF) : SubC (wkT s x.tr) (encWork (wkE (sF s x))) := by
 rw [wkE_sF]
 cases x with
 | seq l => exact .refl _
 | one c => exact .cons (.refl _) (.cons (.refl _) (.cons (SubV.trl_encL (e := encMsg) (z := default) [c]) (.cons (.refl _) .nil)))
theorem gMay1_of {R : Type} {s : ES} {x : FF} {A : AV} {aq : List Msg} {K : DS -> Option R} (h1 : SubV A (encMsgs aq)) (h2 : decL decMsg A = aq) (ho : s.op = .nil) (h : pDS (dsE (sF s x) aq)) : gMay1 s x A K = K (dsE (sF s x) aq) := by
 have hop : opMs (sF s x).op = [] := by
  show opMs s.op = []
  rw [ho]; rfl
 refine gC_eq (dsE (sF s x) aq) ?_ h ?_
 ·show (⟨⟨s.e, s.g, ([decPlan (encPlan s.p)] : List Plan).headD default, decL decAlive (encAlives s.ns), ([decWork (wkT s x.tr)] : List Work).headD default, [], decL decMsg A⟩, ⟨s.c.chain, s.c.susp, s.c.sess⟩, .nils⟩ : DS) = _
  rw [dec_encPlan, decAlives, wkT_dec, h2]
  unfold dsE
  rw [hop]; rfl
 ·refine .cons (SubV.tp ?_) (.cons (.refl _) .nil)
  have hp : SubV (.trl 8 [encPlan s.p]) (encPlans [s.p]) := SubV.trl_encL (e := encPlan) (z := default) [s.p]
  have hw : SubV (.trl 4 [wkT s x.tr]) (encWorks [wkE (sF s x)]) := SubV.trans (one_trl (wkT_sub s x)) (SubV.trl_encL (e := encWork) (z := default) [wkE (sF s x)])
  have hopS : SubV .nils (encMsgs (opMs (sF s x).op)) := by rw [hop]; exact .nils
  exact .cons (.refl _) (.cons (.refl _) (.cons hp (.cons (.refl _) (.cons hw (.cons hopS (.cons h1 (.refl _)))))))
theorem gBe1_of {R : Type} {s : ES} {x : FF} {K : WI -> Option R} (h : pWI (wkE (sF s x), s.p.base)) : gBe1 s x K = K (wkE (sF s x), s.p.base) := by
 refine gC_eq (wkE (sF s x), s.p.base) ?_ h (.cons (.agg (wkT_sub s x)) (.cons (.refl _) .nil))
 show (decWork (wkT s x.tr), s.p.base) = _
 rw [wkT_dec]
theorem gFg_eq {R : Type} {x : FF} {K : Option R} : gFg x K = K := by
 cases x with
 | seq l => unfold gFg; simp only [orU, Bool.and_true, cond_true]
 | one c => rfl
theorem gFm_eq {R : Type} {x : FF} {K : Option R} : gFm x K = K := by
 cases x with
 | seq l => unfold gFm; simp only [orU, Bool.and_true, cond_true]
 | one c => rfl
theorem gFn_eq {R : Type} {x : FF} {l : List Ask} {K : Option R} : gFn x l K = K := by
 cases x with
 | seq f => unfold gFn; simp only [orU, Bool.and_true, cond_true]
 | one c => unfold gFn; simp only [orU, Bool.and_true, cond_true]
theorem core1_eq {T : WR -> Option (AV × Heap)} {s : ES} {x : FF} (h : EOk (sF s x)) : core1 T s x (upP s.ns s.c.susp) = coreG T (sF s x) := by
 unfold core1 coreG
 rw [gFg_eq, gBe1_of h.wi, gBeE_of h.wi]
 rfl
def hpEF (s : ES) (x : FF) (b : Bool) : Heap := match s.l with
 | [] => hpE1 s x b
 | _ :: _ => hpE2 s x
def outF (y : WR) (x : FF) (b : Bool) : Heap := match y.l with
 | [] => hpT1 y x b (.sl 31 4 0 1 1) [.arr true 31 [actC y.p]]
 | _ :: _ => hpF2 y x
def oEndF (s : ES) (x : FF) (b : Bool) : AV × Heap := (.bool (mayE (sF s x)), bif mayE (sF s x) then outF (wrE s (endP (sF s x)).1 (endP (sF s x)).2) x b else hpEF s x b)
theorem tail1_of {y : WR} {x : FF} {b : Bool} (hl : y.l = []) (hc : y.p.chain ≠ []) (hc2 : y.p.chain.length <= 1000) : tail1 x b y = some (.bool true, outF y x b) := by
 have h0 : 0 < y.p.chain.length := List.length_pos_iff.2 hc
 unfold tail1 outF
 rw [decide_eq_false (by omega), cond_false, decide_eq_true (by omega), cond_true, gMs_eq _ (by unfold shortL LB; omega), hl]
 rfl
theorem tail2_of {y : WR} {x : FF} {b : Bool} (hn : y.nb = false) (hl : y.l ≠ []) (hl2 : y.l.length <= 1000) (hc : y.p.chain ≠ []) (hc2 : y.p.chain.length <= 1000) : tail2 x y = some (.bool true, outF y x b) := by
 have h0 : 0 < y.p.chain.length := List.length_pos_iff.2 hc
 have hw : pWR y := ⟨by omega, hl⟩
 have eh : hpT y (.sl 31 4 0 1 1) [.arr true 31 [actM y.p y.p.chain]] = (eWR y).2 := by
  obtain ⟨e, g, p, ns, nb, op, l, c⟩ := y
  subst hn
  rfl
 unfold tail2
 rw [decide_eq_false (by omega), cond_false, decide_eq_true (by omega), cond_true, gMs_eq _ (by unfold shortL LB; omega), eh]
 have e1 := gWas_eq (K := fun z => some (AV.bool true, hpF2 z x)) hw
 unfold gWas at e1
 refine Eq.trans e1 ?_
 unfold outF
 cases hx : y.l with
 | nil => exact absurd hx hl
 | cons a t => rfl
theorem endF_con {s : ES} {x : FF} {b : Bool} (h : EOk (sF s x)) (hn : s.nb = false) (ho : s.op = .nil) :
  Contract PG F_coord_desk_end [.ptr 0 0 0, .int .i64 0] (hpEF s x b) (oEndF s x b).1 (oEndF s x b).2 /\ (hpEF s x b).length <= (oEndF s x b).2.length := by
 have hns := h.ns
 have hns : s.ns.length <= 1000 := hns
 have core : ∀ {T : WR -> Option (AV × Heap)} {H : Heap}, H = hpEF s x b -> (∀ g p, p.chain ≠ [] -> p.chain.length <= 1000 -> T (wrE s g p) = some (.bool true, outF (wrE s g p) x b)) ->
   (bif !mayP (dsE (sF s x) (s.l.map askM)) then some (.bool false, H) else core1 T s x (upP s.ns s.c.susp)) = some (oEndF s x b) := by
  intro T H hH hT
  rw [core1_eq h]
  show (bif !mayE (sF s x) then some (AV.bool false, H) else coreG T (sF s x)) = some (.bool (mayE (sF s x)), bif mayE (sF s x) then outF (wrE s (endP (sF s x)).1 (endP (sF s x)).2) x b else hpEF s x b)
  cases hm : mayE (sF s x) with
  | false => rw [hH]; rfl
  | true =>
   obtain ⟨h1, h2⟩ := endP_chain h hm
   rw [Bool.not_true, cond_false, coreG_eq h hm]
   have := hT (endP (sF s x)).1 (endP (sF s x)).2 h1 h2
   refine Eq.trans this ?_
   rfl
 cases hl : s.l with
 | nil =>
  have eh : hpEF s x b = hpE1 s x b := by unfold hpEF; rw [hl]
  have e := end1 s x b
  rw [gFm_eq, gMay1_of (aqV_sub b) (aqV_dec b) ho (h.ds _), gUpM_of (by omega)] at e
  have hc := core (T := tail1 x b) (H := hpE1 s x b) eh.symm fun g p h1 h2 => tail1_of (y := wrE s g p) hl h1 h2
  rw [hl] at hc
  rw [eh]
  exact conHdH kn14_ok (e.trans hc)
 | cons a t =>
  have hne : s.l ≠ [] := by rw [hl]; exact List.cons_ne_nil _ _
  have eh : hpEF s x b = hpE2 s x := by unfold hpEF; rw [hl]
  have e := end2 s x hn ho
  have g1 : SubV (encAsks s.l) (encMsgs (s.l.map askM)) := by rw [hl]; exact akV_sub (.ne a t)
  have g2 : decL decMsg (encAsks s.l) = s.l.map askM := by rw [hl]; exact akV_dec (.ne a t)
  rw [gFn_eq, gMay1_of g1 g2 ho (h.ds _), gUpM_of (by omega)] at e
  have hc := core (T := tail2 x) (H := hpE2 s x) eh.symm fun g p h1 h2 => tail2_of (y := wrE s g p) hn hne h.l h1 h2
  rw [eh]
  exact conHdH kn12_ok (e.trans hc)
structure EF where
 s : ES
 x : FF
 b : Bool
def eEF (y : EF) : List AV × Heap := ([.ptr 0 0 0, .int .i64 0], hpEF y.s y.x y.b)
def dFF (F : AV) (B : BS) : FF := match B with
 | .seq _ _ n f => .seq ((List.range n).map fun i => decMsg (f i))
 | .arr _ _ [c] => .one (decMsg c)
 | _ => .seq []
def dEF (_ : List AV) (h : Heap) : EF :=
 let d := cell0 h 0
 let w := cell0 h 2
 ⟨⟨getI d 0, getI d 1, decPlan (cell0 h 1), getL decAlive d 3, false, .nil, getL decMember w 1, .nil, getB w 0, getB w 3, bif isSl (d.getD 6 .undef) then dAsks h 4 else [], ⟨getI d 8, getI d 19, getI d 18⟩⟩, dFF (w.getD 2 .undef) (hget h 3), isTrl (d.getD 6 .undef)⟩
def nrmF (y : EF) : EF := ⟨{ y.s with nb := false, op := .nil, fz := .nil }, y.x, match y.s.l with
 | [] => y.b
 | _ :: _ => false⟩
theorem dEF_eq (y : EF) : dEF (eEF y).1 (eEF y).2 = nrmF y := by
 obtain ⟨⟨e, g, p, ns, nb, op, keep, fz, fe, he, l, c⟩, x, b⟩ := y
 have hA : (List.range l.length).map (fun i => decAsk (encAsk (l.getD i (0, 0)))) = l := decL_encL (e := encAsk) (d := decAsk) (z := (0, 0)) (sz := 31) (fun _ => rfl) l
 have hK : decL decMember (encMembers keep) = keep := decMembers keep
 have hN2 : decL decAlive (encAlives ns) = ns := decAlives ns
 have hP := dec_encPlan p
 have hX : dFF x.av x.bs = x := by
  cases x with
  | seq f =>
   have : (List.range f.length).map (fun i => decMsg (encMsg (f.getD i default))) = f := decL_encL (e := encMsg) (d := decMsg) (z := default) (sz := 31) dec_encMsg f
   show FF.seq ((List.range f.length).map fun i => decMsg (encMsg (f.getD i default))) = _
   rw [this]
  | one c0 =>
   show FF.one (decMsg (encMsg c0)) = _
   rw [dec_encMsg]
 cases l with
 | nil =>
  cases b
  ·show EF.mk ⟨e, g, decPlan (encPlan p), decL decAlive (encAlives ns), false, .nil, decL decMember (encMembers keep), .nil, fe, he, [], ⟨c.chain, c.susp, c.sess⟩⟩ (dFF x.av x.bs) false = _
   rw [hP, hN2, hK, hX]; rfl
  ·show EF.mk ⟨e, g, decPlan (encPlan p), decL decAlive (encAlives ns), false, .nil, decL decMember (encMembers keep), .nil, fe, he, [], ⟨c.chain, c.susp, c.sess⟩⟩ (dFF x.av x.bs) true = _
   rw [hP, hN2, hK, hX]; rfl
 | cons a t =>
  show EF.mk ⟨e, g, decPlan (encPlan p), decL decAlive (encAlives ns), false, .nil, decL decMember (encMembers keep), .nil, fe, he, (List.range (a :: t).length).map (fun i => decAsk (encAsk ((a :: t).getD i (0, 0)))), ⟨c.chain, c.susp, c.sess⟩⟩ (dFF x.av x.bs) false = _
  rw [hP, hN2, hK, hX, hA]; rfl
theorem eEF_nrm (y : EF) : eEF (nrmF y) = eEF y := by
 obtain ⟨⟨e, g, p, ns, nb, op, keep, fz, fe, he, l, c⟩, x, b⟩ := y
 cases l <;> rfl
def outTF (hp : Heap) (g : Int) (p : Plan) (l : List Ask) : Heap :=
 let d := cell0 hp 0
 let D := fun (A O : AV) => BS.arr true 23 [[d.getD 0 .undef, .int .i64 g, d.getD 2 .undef, d.getD 3 .undef, d.getD 4 .undef, d.getD 5 .undef, A, .int .i64 3, d.getD 8 .undef, .int .i64 1, .int .i64 0, .int .i64 0, .int .i64 0, .int .i64 0, .int .i64 0, .int .i64 0, .int .i64 0, .int .i64 0, d.getD 18 .undef, d.getD 19 .undef, .int .i64 0, .int .i64 0, O]]
 match d.getD 6 .undef with
 | .sl _ _ _ n _ => [D (.sl 31 4 0 0 0) (.sl 31 5 0 (n + 1) 0), .arr true 8 [encPlan p], .arr true 4 [wk0], hget hp 3, clrB (hget hp 4), .seq true 31 (n + 1) (canF idC [] (actC p :: l.map ansC))]
 | A => [D A (.sl 31 4 0 1 1), .arr true 8 [encPlan p], .arr true 4 [wk0], hget hp 3, .arr true 31 [actC p]]
theorem outTF_eq (s : ES) (x : FF) (b : Bool) (g : Int) (p : Plan) : outTF (eEF ⟨s, x, b⟩).2 g p s.l = outF (wrE s g p) x b := by
 obtain ⟨e, g0, p0, ns, nb, op, keep, fz, fe, he, l, c⟩ := s
 cases l <;> cases b <;> rfl
def GF (t : Bool) (args : List AV) (hp : Heap) : Prop := (EOk (sF (dEF args hp).s (dEF args hp).x) /\ eEF (dEF args hp) = (args, hp)) /\ mayE (sF (dEF args hp).s (dEF args hp).x) = t
def endHF (t : Bool) (hp : Heap) : Heap := bif t then outTF hp (endP (sF (dEF [] hp).s (dEF [] hp).x)).1 (endP (sF (dEF [] hp).s (dEF [] hp).x)).2 (dEF [] hp).s.l else hp
def ansEF (t : Bool) (args : List AV) (hp : Heap) : Option Answer := some { X := Unit, g := cd (GF t args hp), a := (), r := fun _ => (.bool t, endHF t hp) }
theorem ansEF_ok {t : Bool} {args : List AV} {hp : Heap} {A : Answer} (e : ansEF t args hp = some A) (hg : A.g = true) : Contract PG F_coord_desk_end args hp (A.r A.a).1 (A.r A.a).2 /\ hp.length <= (A.r A.a).2.length := by
 cases e
 obtain ⟨⟨h1, h2⟩, h3⟩ := cd_iff.1 hg
 have := endF_con (s := (dEF args hp).s) (x := (dEF args hp).x) (b := (dEF args hp).b) h1 rfl rfl
 have e3 : hpEF (dEF args hp).s (dEF args hp).x (dEF args hp).b = hp := congrArg Prod.snd h2
 have e4 : ([.ptr 0 0 0, .int .i64 0] : List AV) = args := congrArg Prod.fst h2
 rw [e3, e4] at this
 have ho : oEndF (dEF args hp).s (dEF args hp).x (dEF args hp).b = (.bool t, endHF t hp) := by
  unfold oEndF endHF
  rw [h3, e3]
  cases t with
  | false => rfl
  | true =>
   have hx := outTF_eq (dEF args hp).s (dEF args hp).x (dEF args hp).b (endP (sF (dEF args hp).s (dEF args hp).x)).1 (endP (sF (dEF args hp).s (dEF args hp).x)).2
   have e5 : (eEF ⟨(dEF args hp).s, (dEF args hp).x, (dEF args hp).b⟩).2 = hp := congrArg Prod.snd h2
   rw [e5] at hx
   exact congrArg (Prod.mk _) hx.symm
 rw [ho] at this
 exact this
def kE9 (t : Bool) : Known := { f := F_coord_desk_end, ans := fun args hp => match isSl ((cell0 hp 2).getD 2 .undef) with
 | true => ansEF t args hp
 | false => (kEb t).ans args hp }
theorem kE9_ok (t : Bool) : (kE9 t).Ok PG := by
 intro args hp A e hg
 have e : (match isSl ((cell0 hp 2).getD 2 .undef) with
  | true => ansEF t args hp
  | false => (kEb t).ans args hp) = some A := e
 cases hc : isSl ((cell0 hp 2).getD 2 .undef) with
 | true => rw [hc] at e; exact ansEF_ok e hg
 | false => rw [hc] at e; exact kEb_ok t args hp A e hg
def gEF {R : Type} (t : Bool) (A : List AV) (H : Heap) (K : Option R) : Option R := gX (GF t A H) () fun _ => K
theorem gEF_eq {R : Type} {t : Bool} {y : EF} {K : Option R} (h : EOk (sF y.s y.x)) (ht : mayE (sF y.s y.x) = t) : gEF t (eEF y).1 (eEF y).2 K = K := by
 refine gX_of ⟨⟨?_, ?_⟩, ?_⟩
 ·rw [dEF_eq]; exact ⟨h.ch, h.ns, h.keep, h.fz, h.ver, h.c1, h.c2, h.l⟩
 ·rw [dEF_eq]; exact eEF_nrm y
 ·rw [dEF_eq]; exact ht
def kMsgB : Known := { f := F_twin_Msgs, ans := fun args hp => match isEmpT (args.getD 0 .undef) with
 | true => match args, hp with
  | [_], [] => some { X := Unit, g := true, a := (), r := fun _ => (.trl 31 [], []) }
  | _, _ => none
 | false => kMsgs.ans args hp }
theorem kMsgB_ok : kMsgB.Ok PG := by
 intro args hp A e hg
 unfold kMsgB at e
 simp only [] at e
 cases hE : isEmpT (args.getD 0 .undef) with
 | true =>
  rw [hE] at e
  simp only [] at e
  split at e
  ·rename_i v
   cases e
   have : v = .trl 31 [] := isEmpT_eq hE
   subst this
   exact ⟨emp_con, Nat.le_refl _⟩
  ·cases e
 | false => rw [hE] at e; exact kMsgs_ok args hp A e hg
def kn38 (t : Bool) : List Known := [kMsgB, kMsgM, kCloneAlive, kCloneMember, kFrozen, kE9 t]
theorem kn38_ok (t : Bool) : ∀ k ∈ kn38 t, k.Ok PG := ak kMsgB_ok (ak kMsgM_ok (ak kCloneAlive_ok (ak kCloneMember_ok (ak kFrozen_ok (ak (kE9_ok t) ank)))))
def gAk9 {R : Type} (l : List Ask) (b : Bool) (K : (Nat -> AV) -> List BS -> Option R) : Option R := match l with
 | [] => K (fun _ => aqV b) []
 | a :: t => gC dAk pAk eAk [encAsks (a :: t)] fun y => K (fun q => .sl 31 q 0 y.length 0) [blkA y]
def gBu9 {R : Type} (s : ES) (b : Bool) (K : Plan -> List Alive -> List Member -> (Nat -> AV) -> List BS -> Option R) : Option R :=
 gMs s.p.chain fun y0 => gMs s.p.valid fun y1 => gAls s.ns fun y2 => gMs s.keep fun y3 => gAk9 s.l b fun A B => K { s.p with chain := y0, valid := y1 } y2 y3 A B
theorem h9n (t : Bool) (s : ES) (b : Bool) (m : Msg) (hf : s.fz = .nil) : callT (envK2 (kn38 t)) 20 F_coord_Handle [.agg (buV s b), .agg (encCf s.c), .agg (encMsg (kM m 9))] =
 gBu9 s b fun p ns ke A B => bif decide (s.p.phase = 1) then bif !decide (s.p.epoch = m.epoch) then fin (hpB s p ns [.bool s.fe, encMembers ke, .nils, .bool s.he] (A 3) B)
  else gC dWM pWM eWM [.agg [.bool s.fe, encMembers ke, .nils, .bool s.he], .agg [.int .i64 m.src, .int .i64 m.sboot]] fun _ =>
   gC dM1 CpOk eM1 [.agg (encMsg (kM m 9))] fun z => gEF t A0 (hpDf s.e s.g ns (A 4) .nils s.c (encPlan p) [.bool s.fe, encMembers ke, .sl 31 3 0 1 1, .bool s.he] (.arr true 31 [encMsg z]) B)
    (fin (endHF t (hpDf s.e s.g ns (A 4) .nils s.c (encPlan p) [.bool s.fe, encMembers ke, .sl 31 3 0 1 1, .bool s.he] (.arr true 31 [encMsg z]) B)))
  else fin (hpB s p ns [.bool s.fe, encMembers ke, .nils, .bool s.he] (A 3) B) := by
 obtain ⟨e, g, p, ns, nb, op, keep, fz, fe, he, l, c⟩ := s
 cases hf
 cases t <;> cases l <;> cases b <;> kernel_rfl
def wkFz (k : Work) : List AV := [.bool k.fenced, encMembers k.keep, .sl 31 0 0 k.froze.length 0, .bool k.heard]
def bkFz (l : List Msg) : BS := .seq true 31 l.length fun i => encMsg (l.getD i default)
def SFzH (k : Work) (m : Member) (i : Int) : St := { fr := [(3, .ptr 1 0 0), (4, .ptr 2 0 0), (9, .sl 31 0 0 k.froze.length 0), (10, .int .i64 k.froze.length), (11, .int .i64 i)], hp := [bkFz k.froze, .arr true 2 [encMember m], .arr true 31 [zMsgC]] }
theorem conC2H {l : List Known} (h : ∀ k ∈ l, k.Ok PG) {n f : Nat} {args : List AV} {hp : Heap} {r : AV} {hp' : Heap} (e : callH (envC2 l) n f args hp = some (r, hp')) : Contract PG f args hp r hp' /\ hp.length <= hp'.length := callH_ok (envL_ok h) envL_code mixed e
theorem fzH_in (N : Nat) (k : Work) (m : Member) : callH (envC2 []) (N + 1) F_coord_frozen [AV.agg (wkFz k), AV.agg (encMember m)] [bkFz k.froze] = LP (envC2 []) N 1 F_coord_frozen (hnK 1) 0 [] N (SFzH k m 0) := by kernel_rfl
theorem SubF.agg {cs cs' : List AV} (h : SubFs cs cs') : SubF (.agg cs) (.agg cs') := by
 intro w I φ u hv
 cases hv with
 | agg _ vs hl h1 hr =>
  have := h.rvs (vs := vs) ⟨hl, fun k c u e e' => hr k c u e e'⟩
  exact .agg _ _ this.1 h1 fun k c u e e' => this.2 k c u e e'
theorem SubF.tup {cs cs' : List AV} (h : SubFs cs cs') : SubF (.tup cs) (.tup cs') := by
 intro w I φ u hv
 cases hv with
 | tup _ vs hl hr =>
  have := h.rvs (vs := vs) ⟨hl, fun k c u e e' => hr k c u e e'⟩
  exact .tup _ _ this.1 fun k c u e e' => this.2 k c u e e'
theorem Contract.resF {f : Nat} {args : List AV} {hp hp' : Heap} {r r' : AV} (h : Contract PG f args hp r hp') (hs : SubF r r') : Contract PG f args hp r' hp' :=
 fun w I φ ra hh hx => (h w I φ ra hh hx).mono fun u w' ⟨φ', I', h1, h2, h3⟩ => ⟨φ', I', hs _ _ _ _ h1, h2, h3⟩
theorem zMsg_subF : SubFs zMsgC (encMsg default) := by
 repeat' (first | exact SubF.nils | exact SubF.refl _ | exact SubFs.refl [] | apply SubFs.cons)
def oFzR (k : Work) (p : Msg × Bool) : AV × Heap := (.tup [.agg (bif p.2 then encMsg p.1 else zMsgC), .bool p.2], [bkFz k.froze])
theorem frozenL_no : ∀ (l : List Msg) (m : Member), (frozenL l m).2 = false -> (frozenL l m).1 = default
 | [], _, _ => rfl
 | f :: r, m, h => by
  have ih := frozenL_no r m
  have e : frozenL (f :: r) m = bif isFz m f then (f, true) else frozenL r m := rfl
  rw [e] at h ⊢
  generalize isFz m f = b at h ⊢
  cases b with
  | true => cases h
  | false => exact ih h
def oFz (k : Work) (p : Msg × Bool) : AV × Heap := (.tup [.agg (encMsg p.1), .bool p.2], [bkFz k.froze])
theorem fzH_st (N j : Nat) (k : Work) (m : Member) (i : Int) : LP (envC2 []) N 1 F_coord_frozen (hnK 1) 0 [] (j + 1) (SFzH k m i) =
 bif decide (i < (k.froze.length : Int)) then rg i k.froze.length <| bif (0 + i.toNat).blt k.froze.length then
   bif decide ((k.froze.getD (0 + i.toNat) default).src = m.node) then bif decide ((k.froze.getD (0 + i.toNat) default).sboot = m.boot) then some (oFzR k (k.froze.getD (0 + i.toNat) default, true))
    else LP (envC2 []) N 1 F_coord_frozen (hnK 1) 0 [] j (SFzH k m (IntKind.i64.wrap (i + 1))) else LP (envC2 []) N 1 F_coord_frozen (hnK 1) 0 [] j (SFzH k m (IntKind.i64.wrap (i + 1))) else none
 else some (oFzR k (default, false)) := by kernel_rfl
def eFzH (p : WM) : List AV × Heap := ([.agg (wkFz p.1), .agg (encMember p.2)], [bkFz p.1.froze])
def dBk (B : BS) : List Msg := match B with
 | .seq _ _ n f => (List.range n).map fun i => decMsg (f i)
 | _ => []
def dFzH (a : List AV) (h : Heap) : WM := (⟨getB (argC a 0) 0, getL decMember (argC a 0) 1, dBk (hget h 0), getB (argC a 0) 3⟩, decMember (argC a 1))
theorem dBk_eq (l : List Msg) : dBk (bkFz l) = l := decL_encL (e := encMsg) (d := decMsg) (z := default) (sz := 31) dec_encMsg l
theorem dFzH_eq (p : WM) : dFzH (eFzH p).1 (eFzH p).2 = p := by
 show ((⟨p.1.fenced, decL decMember (encMembers p.1.keep), dBk (bkFz p.1.froze), p.1.heard⟩ : Work), p.2) = p
 rw [decMembers, dBk_eq]
theorem fzH_con (p : WM) (h : pWM p) : Contract PG F_coord_frozen (eFzH p).1 (eFzH p).2 (oFz p.1 (frozenP p.1 p.2)).1 (oFz p.1 (frozenP p.1 p.2)).2 /\ (eFzH p).2.length <= (oFz p.1 (frozenP p.1 p.2)).2.length := by
 obtain ⟨k, m⟩ := p
 have h : k.froze.length <= 100000 := h
 have hN : ∃ N, N = 200000 := ⟨_, rfl⟩
 obtain ⟨N, hN⟩ := hN
 have run : ∀ d i j, i + d = k.froze.length -> d < j -> LP (envC2 []) N 1 F_coord_frozen (hnK 1) 0 [] j (SFzH k m (i : Nat)) = some (oFzR k (frozenL (k.froze.drop i) m)) := by
  intro d
  induction d with
  | zero =>
   intro i j hi hj
   obtain ⟨j, rfl⟩ : ∃ q, j = q + 1 := ⟨j - 1, by omega⟩
   rw [fzH_st, decide_eq_false (by omega), cond_false, List.drop_eq_nil_of_le (by omega)]
   rfl
  | succ d ih =>
   intro i j hi hj
   obtain ⟨j, rfl⟩ : ∃ q, j = q + 1 := ⟨j - 1, by omega⟩
   have hil : i < k.froze.length := by omega
   rw [fzH_st, decide_eq_true (by omega), cond_true, rg_eq hil, Int.toNat_natCast, Nat.zero_add, blt_true hil, cond_true, wrapS (by omega), drop_cons (z := default) hil]
   show _ = some (oFzR k (bif isFz m (k.froze.getD i default) then (k.froze.getD i default, true) else frozenL (k.froze.drop (i + 1)) m))
   unfold isFz
   cases decide ((k.froze.getD i default).src = m.node) with
   | false => exact ih (i + 1) j (by omega) (by omega)
   | true =>
    cases decide ((k.froze.getD i default).sboot = m.boot) with
    | false => exact ih (i + 1) j (by omega) (by omega)
    | true => rfl
 have h1 := run k.froze.length 0 N (by omega) (by omega)
 rw [List.drop_zero] at h1
 obtain ⟨c1, c2⟩ := conC2H ank (n := N + 1) ((fzH_in N k m).trans h1)
 refine ⟨Contract.resF c1 (.tup (.cons (.agg ?_) (.refl _))), c2⟩
 show SubFs (bif (frozenL k.froze m).2 then encMsg (frozenL k.froze m).1 else zMsgC) (encMsg (frozenL k.froze m).1)
 cases hb : (frozenL k.froze m).2 with
 | true => exact .refl _
 | false => rw [frozenL_no _ _ hb]; exact zMsg_subF
def kFzH : Known := .specH F_coord_frozen dFzH pWM eFzH (fun p => oFz p.1 (frozenP p.1 p.2))
theorem kFzH_ok : kFzH.Ok PG := Known.specH_ok fzH_con
def kFzB : Known := { f := F_coord_frozen, ans := fun args hp => match isSl ((argC args 0).getD 2 .undef) with
 | true => kFzH.ans args hp
 | false => kFrozen.ans args hp }
theorem kFzB_ok : kFzB.Ok PG := by
 intro args hp A e hg
 have e : (match isSl ((argC args 0).getD 2 .undef) with
  | true => kFzH.ans args hp
  | false => kFrozen.ans args hp) = some A := e
 cases hc : isSl ((argC args 0).getD 2 .undef) with
 | true => rw [hc] at e; exact kFzH_ok args hp A e hg
 | false => rw [hc] at e; exact kFrozen_ok args hp A e hg
def gFzH {R : Type} (p : WM) (K : WM -> Option R) : Option R := gCH dFzH pWM eFzH (eFzH p).1 (eFzH p).2 K
theorem gFzH_eq {R : Type} {p : WM} {K : WM -> Option R} (h : pWM p) : gFzH p K = K p := gCH_eq p (dFzH_eq p) h rfl
def mdK3 (f : Nat) : Option Nat := bif Nat.beq f F_coord_frozen then some 5 else mdK f
def envK3 (l : List Known) : Env := { envL [] mdK3 l with msk := fun f => bif Nat.beq f F_coord_Up then [2, 4, 5, 6] else [] }
theorem envK3_ok {l : List Known} (h : ∀ k ∈ l, k.Ok PG) : EnvOk PG (envK3 l) := ⟨tt_ok rfl, orc_ok h⟩
theorem conK3 {l : List Known} (h : ∀ k ∈ l, k.Ok PG) {n f : Nat} {xs : List AV} {r : AV} (e : callT (envK3 l) n f xs = some r) : Contract PG f xs [] r [] := callT_ok (envK3_ok h) (codeOf_ok rfl) mixed e
def kn39 (t : Bool) : List Known := [kMsgB, kMsgM, kCloneAlive, kCloneMember, kFzB, kE9 t]
theorem kn39_ok (t : Bool) : ∀ k ∈ kn39 t, k.Ok PG := ak kMsgB_ok (ak kMsgM_ok (ak kCloneAlive_ok (ak kCloneMember_ok (ak kFzB_ok (ak (kE9_ok t) ank)))))
def room2 {R : Type} (n k b : Nat) (K : Option R) : Option R :=
 bif Nat.beq n 0 || Nat.ble n k then bif Nat.ble ((n + 1) * b) 140737488355328 && Nat.ble (n + 1) 140737488355328 then K else none else none
def gBu9e {R : Type} (s : ES) (f : Msg) (fs : List Msg) (b : Bool) (K : Plan -> List Alive -> List Member -> List Msg -> (Nat -> AV) -> List BS -> Option R) : Option R :=
 gMs s.p.chain fun y0 => gMs s.p.valid fun y1 => gAls s.ns fun y2 => gMs s.keep fun y3 => gC (dL decMsg) pMs eMs [encMsgs (f :: fs)] fun y => gAk9 s.l b fun A B => K { s.p with chain := y0, valid := y1 } y2 y3 y A B
def wkQ (s : ES) (ke : List Member) (n : Nat) : List AV := [.bool s.fe, encMembers ke, .sl 31 3 0 n 0, .bool s.he]
def apB (n : Nat) (l : List Msg) (z : Msg) : BS := .seq true 31 (n + 1) fun k => bif k.blt n then encMsg (l.getD k default) else bif k.blt (n + 1) then [encMsg z].getD (k - n) [] else encMsg (l.getD n default)
theorem h9e (t : Bool) (s : ES) (b : Bool) (m : Msg) (f : Msg) (fs : List Msg) (hf : s.fz = .ne f fs) : callT (envK3 (kn39 t)) 20 F_coord_Handle [.agg (buV s b), .agg (encCf s.c), .agg (encMsg (kM m 9))] =
 gBu9e s f fs b fun p ns ke y A B => bif decide (s.p.phase = 1) then bif !decide (s.p.epoch = m.epoch) then fin (hpDf s.e s.g ns (A 4) .nils s.c (encPlan p) (wkQ s ke y.length) (bkFz y) B)
  else gFzH (⟨s.fe, ke, y, s.he⟩, ⟨m.src, m.sboot⟩) fun z => bif !(frozenP z.1 z.2).2 then
    gC dM1 CpOk eM1 [.agg (encMsg (kM m 9))] fun x => room2 y.length z.1.froze.length 392 (gEF t A0 (hpDf s.e s.g ns (A 4) .nils s.c (encPlan p) (wkQ s ke (y.length + 1)) (apB y.length z.1.froze x) B)
     (fin (endHF t (hpDf s.e s.g ns (A 4) .nils s.c (encPlan p) (wkQ s ke (y.length + 1)) (apB y.length z.1.froze x) B))))
   else gEF t A0 (hpDf s.e s.g ns (A 4) .nils s.c (encPlan p) (wkQ s ke y.length) (bkFz z.1.froze) B)
     (fin (endHF t (hpDf s.e s.g ns (A 4) .nils s.c (encPlan p) (wkQ s ke y.length) (bkFz z.1.froze) B)))
  else fin (hpDf s.e s.g ns (A 4) .nils s.c (encPlan p) (wkQ s ke y.length) (bkFz y) B) := by
 obtain ⟨e, g, p, ns, nb, op, keep, fz, fe, he, l, c⟩ := s
 cases hf
 cases t <;> cases l <;> cases b <;> kernel_rfl
def gU0 (n : Nat) : Bool := n.beq 0 || n.ble n
theorem gU0_eq (n : Nat) : gU0 n = true := by unfold gU0; rw [orU]
theorem fzx_sub {x : FF} (hx : x.l ≠ []) : SubV x.tr (fzV (lnOf x.l)) := by
 cases x with
 | seq l =>
  cases l with
  | nil => exact absurd rfl hx
  | cons a t => exact .refl _
 | one c => exact SubV.trl_encL (e := encMsg) (z := default) [c]
theorem akAV_ask' (l : List Ask) (b : Bool) : SubV (akAV l b) (encAsks l) := by
 cases l with
 | nil => exact aqV_ask b
 | cons a t => exact .refl _
def keepV (s : ES) (x : FF) (b : Bool) : AV := .tup [.agg [.int .i64 s.e, .int .i64 s.g, .trl 8 [encPlan s.p], encAlives s.ns, .trl 4 [wkT s x.tr], .nils, akAV s.l b], .nils]
def gFF (x : FF) (l : List Ask) : Bool := match x, l with
 | .seq f, [] => gU0 f.length && true && true && true && true && true
 | .seq f, a :: t => gU0 f.length && true && true && true && ((a :: t).length.ble (a :: t).length && true) && true
 | .one _, [] => true
 | .one _, a :: t => (a :: t).length.ble (a :: t).length && true && true
theorem gFF_eq {x : FF} {l : List Ask} : gFF x l = true := by
 cases x <;> cases l <;> simp only [gFF, gU0_eq, Bool.and_true, ble_true (Nat.le_refl _)]
theorem fin_keepE {s : ES} (x : FF) (b : Bool) (hn : s.nb = false) (ho : s.op = .nil) : fin (hpEF s x b) = bif gFF x s.l then some (keepV s x b) else none := by
 obtain ⟨e, g, p, ns, nb, op, keep, fz, fe, he, l, c⟩ := s
 subst hn ho
 cases x <;> cases l <;> cases b <;> rfl
theorem fin_keepF {s : ES} {x : FF} (b : Bool) (hn : s.nb = false) (ho : s.op = .nil) (hx : x.l ≠ []) : ∃ v, fin (hpEF s x b) = some v /\ SubV v (ansB (sF s x, [])) := by
 have e := fin_keepE x b hn ho
 rw [gFF_eq] at e
 refine ⟨_, e, .tup (.cons (.agg (.cons (.refl _) (.cons (.refl _) (.cons (.refl _) (.cons (.refl _) (.cons (one_trl ?_) (.cons (.refl _) (.cons (akAV_ask' _ _) .nil)))))))) (.cons nilsL .nil))⟩
 exact .cons (.refl _) (.cons (.refl _) (.cons (fzx_sub hx) (.cons (.refl _) .nil)))
theorem fin_endX {s : ES} (x : FF) (b : Bool) (g : Int) (p : Plan) (hn : s.nb = false) (ho : s.op = .nil) : ∃ v, fin (outF (wrE s g p) x b) = some v /\ SubV v (ansB ({ s with g := g, p := p, fe := false, keep := [], fz := .nil, he := false, l := [] }, outMs p s.l)) := by
 obtain ⟨e, g0, p0, ns, nb, op, keep, fz, fe, he, l, c⟩ := s
 subst hn ho
 have hw : SubV (.trl 4 [wk0]) (.trl 4 [wkA ⟨e, g, p, ns, false, .nil, [], .nil, false, false, [], c⟩]) := one_trl (wk0_sub _ rfl rfl rfl rfl)
 cases l with
 | nil =>
  refine ⟨.tup [.agg [.int .i64 e, .int .i64 g, .trl 8 [encPlan p], encAlives ns, .trl 4 [wk0], .nils, aqV b], .trl 31 [actC p]], ?_, ?_⟩
  ·cases x <;> cases b <;> rfl
  ·refine .tup (.cons (.agg (.cons (.refl _) (.cons (.refl _) (.cons (.refl _) (.cons (.refl _) (.cons hw (.cons (.refl _) (.cons (aqV_ask b) .nil)))))))) (.cons ?_ .nil))
   exact SubV.trans (one_trl (act_sub p)) (SubV.trl_encL (e := encMsg) (z := default) [actMg p])
 | cons a t =>
  refine ⟨.tup [.agg [.int .i64 e, .int .i64 g, .trl 8 [encPlan p], encAlives ns, .trl 4 [wk0], .nils, .tr 31 0 fun i => bif (i + 0).blt (0 + (a :: t).length) then zMsgC else encAsk ((a :: t).getD (i + 0) (0, 0))], .tr 31 ((a :: t).length + 1) fun i => canF idC [] (actC p :: (a :: t).map ansC) (i + 0)], ?_, ?_⟩
  ·have : (bif true && ((((a :: t).length + 1).beq 0 || ((a :: t).length + 1 + 0).ble ((a :: t).length + 1)) && true) then some (AV.tup [.agg [.int .i64 e, .int .i64 g, .trl 8 [encPlan p], encAlives ns, .trl 4 [wk0], .nils, .tr 31 0 fun i => bif (i + 0).blt (0 + (a :: t).length) then zMsgC else encAsk ((a :: t).getD (i + 0) (0, 0))], .tr 31 ((a :: t).length + 1) fun i => canF idC [] (actC p :: (a :: t).map ansC) (i + 0)]) else none) = some (AV.tup [.agg [.int .i64 e, .int .i64 g, .trl 8 [encPlan p], encAlives ns, .trl 4 [wk0], .nils, .tr 31 0 fun i => bif (i + 0).blt (0 + (a :: t).length) then zMsgC else encAsk ((a :: t).getD (i + 0) (0, 0))], .tr 31 ((a :: t).length + 1) fun i => canF idC [] (actC p :: (a :: t).map ansC) (i + 0)]) := by
    rw [show (a :: t).length + 1 + 0 = (a :: t).length + 1 from rfl, orU]; rfl
   exact this
  ·refine .tup (.cons (.agg (.cons (.refl _) (.cons (.refl _) (.cons (.refl _) (.cons (.refl _) (.cons hw (.cons (.refl _) (.cons ?_ .nil)))))))) (.cons (outs_sub p (a :: t)) .nil))
   exact SubV.trs fun i hi => absurd hi (Nat.not_lt_zero i)
theorem endHF_eq (s : ES) (x : FF) (b : Bool) (t : Bool) : endHF t (hpEF s x b) = bif t then outF (wrE s (endP (sF s x)).1 (endP (sF s x)).2) x b else hpEF s x b := by
 have e : dEF [] (eEF ⟨s, x, b⟩).2 = nrmF ⟨s, x, b⟩ := dEF_eq ⟨s, x, b⟩
 unfold endHF
 cases t with
 | false => rfl
 | true =>
  have e : dEF [] (hpEF s x b) = nrmF ⟨s, x, b⟩ := e
  rw [cond_true, cond_true, e]
  exact outTF_eq s x b _ _
theorem fin_endHF {s : ES} {x : FF} (b : Bool) (hn : s.nb = false) (ho : s.op = .nil) (hx : x.l ≠ []) : ∃ v, fin (endHF (mayE (sF s x)) (hpEF s x b)) = some v /\ SubV v (ansB (endQ (sF s x))) := by
 rw [endHF_eq]
 unfold endQ
 cases mayE (sF s x) with
 | false => exact fin_keepF b hn ho hx
 | true => exact fin_endX x b _ _ hn ho
def akS (l : List Ask) (b : Bool) (q : Nat) : AV := match l with
 | [] => aqV b
 | _ :: _ => .sl 31 q 0 l.length 0
theorem hpEF_eq (s : ES) (x : FF) (b : Bool) : hpDf s.e s.g s.ns (akS s.l b 4) .nils s.c (encPlan s.p) (wkT s x.av) x.bs (akBl s.l) = hpEF s x b := by
 obtain ⟨e, g, p, ns, nb, op, keep, fz, fe, he, l, c⟩ := s
 cases l <;> rfl
theorem gAk9_eq {R : Type} {l : List Ask} {b : Bool} {K : (Nat -> AV) -> List BS -> Option R} (h : l.length <= 1000) : gAk9 l b K = K (akS l b) (akBl l) := by
 cases l with
 | nil => rfl
 | cons a t =>
  have hp : pAk (a :: t) := ⟨Nat.le_trans h (by omega), List.cons_ne_nil _ _⟩
  exact qAk (k := fun y => K (fun q => .sl 31 q 0 y.length 0) [blkA y]) hp
def lnApp : LN Msg -> Msg -> LN Msg
 | .nil, m => .ne m []
 | .emp, m => .ne m []
 | .ne f fs, m => .ne f (fs ++ [m])
def frzS (s : ES) (m : Msg) : ES := bif (frozenP (wkE s) ⟨m.src, m.sboot⟩).2 then s else { s with fz := lnApp s.fz (kM m 9) }
def h9P (s : ES) (m : Msg) : ES × List Msg := bif decide (s.p.phase = 1) && decide (s.p.epoch = m.epoch) then endQ (frzS s m) else (s, [])
theorem EOk.fz' {s : ES} {fz : LN Msg} (h : EOk s) (h1 : fz.l.length <= 1000) (h2 : ∀ f ∈ fz.l, VNum f.ver) : EOk { s with fz := fz } := ⟨h.ch, h.ns, h.keep, h1, h2, h.c1, h.c2, h.l⟩
theorem room2_eq {R : Type} {n b : Nat} {k : Option R} (hb : b <= 1000) (h : n <= 1000000) : room2 n n b k = k := room1_eq hb h
theorem apB_eq (l : List Msg) (z : Msg) : apB l.length l z = (FF.seq (l ++ [z])).bs := by
 have e : (fun k => bif k.blt l.length then encMsg (l.getD k default) else bif k.blt (l.length + 1) then [encMsg z].getD (k - l.length) [] else encMsg (l.getD l.length default)) = fun k => encMsg ((l ++ [z]).getD k default) := by
  funext k
  by_cases h : k < l.length
  ·rw [blt_true h, cond_true]
   simp [List.getD, List.getElem?_append_left h]
  ·have hb : k.blt l.length = false := by
    cases e : k.blt l.length with
    | false => rfl
    | true => exact absurd (Nat.le_of_ble_eq_true e) h
   rw [hb, cond_false]
   by_cases h' : k = l.length
   ·subst h'
    rw [blt_true (by omega), cond_true]
    simp [List.getD]
   ·have hb : k.blt (l.length + 1) = false := by
     cases e : k.blt (l.length + 1) with
     | false => rfl
     | true => exact absurd (Nat.le_of_ble_eq_true e) (by omega)
    rw [hb, cond_false]
    have h1 : l.length <= k := by omega
    have h2 : (l ++ [z]).length <= k := by simp; omega
    simp only [List.getD, List.getElem?_eq_none h2, List.getElem?_eq_none (Nat.le_refl l.length)]
 unfold apB
 rw [e]
 show BS.seq true 31 (l.length + 1) _ = .seq true 31 (l ++ [z]).length _
 rw [List.length_append]; rfl
structure FOk (s : ES) (m : Msg) : Prop where
 h : HOk s
 ne : s.fz ≠ .emp
 lt : s.fz.l.length < 1000
 cp : CpOk (kM m 9)
 ver : VNum m.ver
theorem h9_nil {s : ES} {b : Bool} {m : Msg} (h : FOk s m) (hf : s.fz = .nil) : Contract PG F_coord_Handle [.agg (buV s b), .agg (encCf s.c), .agg (encMsg (kM m 9))] [] (ansB (h9P s m)) [] := by
 obtain ⟨h0, _, _, hcp, hver⟩ := h
 have h1 := h0.eok.ch
 have h2 := h0.val
 have h3 := h0.eok.ns
 have h4 := h0.eok.keep
 have hs : frzS s m = sF s (.one (kM m 9)) := by
  unfold frzS
  have : (frozenP (wkE s) ⟨m.src, m.sboot⟩).2 = false := by
   show (frozenL s.fz.l _).2 = false
   rw [hf]; rfl
  rw [this, cond_false, hf]; rfl
 have e := h9n (mayE (sF s (.one (kM m 9)))) s b m hf
 have qW : ∀ K : WM -> Option AV, gC dWM pWM eWM [.agg [.bool s.fe, encMembers s.keep, .nils, .bool s.he], .agg [.int .i64 m.src, .int .i64 m.sboot]] K = K (⟨s.fe, s.keep, [], s.he⟩, ⟨m.src, m.sboot⟩) := fun K => by
  refine gC_eq ((⟨s.fe, s.keep, [], s.he⟩, ⟨m.src, m.sboot⟩) : WM) ?_ (Nat.zero_le _) (.cons (.agg (.cons (.refl _) (.cons (.refl _) (.cons nilsL (.cons (.refl _) .nil))))) (.refl _))
  show ((⟨s.fe, decL decMember (encMembers s.keep), [], s.he⟩ : Work), (⟨m.src, m.sboot⟩ : Member)) = _
  rw [decMembers]
 have qM : ∀ K : Msg -> Option AV, gC dM1 CpOk eM1 [.agg (encMsg (kM m 9))] K = K (kM m 9) := fun K => gC_eq (kM m 9) (dec_encMsg _) hcp (.refl _)
 unfold gBu9 at e
 rw [gMs_eq _ (by unfold shortL LB; omega), gMs_eq _ (by unfold shortL LB; omega), gAls_eq h3, gMs_eq _ (by unfold shortL LB; omega), gAk9_eq h0.eok.l] at e
 simp only [] at e
 rw [qW, qM] at e
 have hK := hpEF_eq s (.one (kM m 9)) b
 have hE : EOk (sF s (.one (kM m 9))) := h0.eok.fz' (by simp [lnOf, FF.l, LN.l]) (fun f hf => by
  have : f = kM m 9 := by simpa [lnOf, FF.l, LN.l] using hf
  subst this; exact hver)
 have hG : ∀ K : Option AV, gEF (mayE (sF s (.one (kM m 9)))) A0 (hpEF s (.one (kM m 9)) b) K = K := fun K => gEF_eq (y := ⟨s, .one (kM m 9), b⟩) hE rfl
 have hH : hpDf s.e s.g s.ns (akS s.l b 4) .nils s.c (encPlan s.p) [.bool s.fe, encMembers s.keep, .sl 31 3 0 1 1, .bool s.he] (.arr true 31 [encMsg (kM m 9)]) (akBl s.l) = hpEF s (.one (kM m 9)) b := hK
 have hp : ({ s.p with chain := s.p.chain, valid := s.p.valid } : Plan) = s.p := rfl
 rw [hH, hG] at e
 obtain ⟨v1, f1, g1⟩ := fin_endHF (s := s) (x := .one (kM m 9)) b h0.nb h0.op (List.cons_ne_nil _ _)
 obtain ⟨v2, f2, g2⟩ := fin_keep (s := s) b h0.nb h0.op
 have hB : hpB s s.p s.ns [.bool s.fe, encMembers s.keep, fzV s.fz, .bool s.he] (akS s.l b 3) (akBl s.l) = hpEE s b := hpB_eq (b := b) s.fe h0
 have e0 : fzV s.fz = .nils := by rw [hf]; rfl
 rw [e0] at hB
 rw [f1, hB, f2] at e
 unfold h9P
 cases hp : decide (s.p.phase = 1) with
 | false =>
  rw [hp, cond_false] at e
  exact (conK2 (kn38_ok _) e).res g2
 | true =>
  rw [hp, cond_true] at e
  cases he : decide (s.p.epoch = m.epoch) with
  | false =>
   rw [he] at e
   exact (conK2 (kn38_ok _) e).res g2
  | true =>
   rw [he] at e
   rw [Bool.true_and, cond_true, hs]
   exact (conK2 (kn38_ok _) e).res g1
theorem h9_ne {s : ES} {b : Bool} {m : Msg} {f : Msg} {fs : List Msg} (h : FOk s m) (hf : s.fz = .ne f fs) : Contract PG F_coord_Handle [.agg (buV s b), .agg (encCf s.c), .agg (encMsg (kM m 9))] [] (ansB (h9P s m)) [] := by
 obtain ⟨h0, _, hlt, hcp, hver⟩ := h
 have h1 := h0.eok.ch
 have h2 := h0.val
 have h3 := h0.eok.ns
 have h4 := h0.eok.keep
 have hl : s.fz.l = f :: fs := by rw [hf]; rfl
 rw [hl] at hlt
 have hw : wkE s = ⟨s.fe, s.keep, f :: fs, s.he⟩ := by unfold wkE; rw [hl]
 have hMs : pMs (f :: fs) := ⟨by omega, List.cons_ne_nil _ _, fun x hx => h0.cp x (by rw [hl]; exact hx)⟩
 have hq : sF s (.seq (f :: fs)) = s := by
  unfold sF lnOf
  obtain ⟨e, g, p, ns, nb, op, keep, fz, fe, he, l, c⟩ := s
  simp only at hf
  subst hf; rfl
 have hsq : sF s (.seq ((f :: fs) ++ [kM m 9])) = { s with fz := lnApp s.fz (kM m 9) } := by
  rw [hf]; rfl
 have qM : ∀ K : Msg -> Option AV, gC dM1 CpOk eM1 [.agg (encMsg (kM m 9))] K = K (kM m 9) := fun K => gC_eq (kM m 9) (dec_encMsg _) hcp (.refl _)
 have hE1 : EOk (sF s (.seq (f :: fs))) := by rw [hq]; exact h0.eok
 have hE2 : EOk (sF s (.seq ((f :: fs) ++ [kM m 9]))) := by
  rw [hsq]
  have hll : (lnApp s.fz (kM m 9)).l = (f :: fs) ++ [kM m 9] := by rw [hf]; rfl
  refine h0.eok.fz' (by rw [hll, List.length_append]; simp at hlt ⊢; omega) fun x hx => ?_
  rw [hll] at hx
  rcases List.mem_append.1 hx with hx | hx
  ·exact h0.eok.ver x (by rw [hl]; exact hx)
  ·have : x = kM m 9 := by simpa using hx
   subst this; exact hver
 have hH1 := hpEF_eq s (.seq (f :: fs)) b
 have hH2 := hpEF_eq s (.seq ((f :: fs) ++ [kM m 9])) b
 obtain ⟨v1, f1, g1⟩ := fin_endHF (s := s) (x := .seq (f :: fs)) b h0.nb h0.op (List.cons_ne_nil _ _)
 obtain ⟨v2, f2, g2⟩ := fin_endHF (s := s) (x := .seq ((f :: fs) ++ [kM m 9])) b h0.nb h0.op (List.cons_ne_nil _ _)
 obtain ⟨v3, f3, g3⟩ := fin_keepF (s := s) (x := .seq (f :: fs)) b h0.nb h0.op (List.cons_ne_nil _ _)
 rw [hq] at g3
 have key : ∀ t, (bif (frozenP (wkE s) ⟨m.src, m.sboot⟩).2 then t = mayE (sF s (.seq (f :: fs))) else t = mayE (sF s (.seq ((f :: fs) ++ [kM m 9])))) ->
   ∃ v, callT (envK3 (kn39 t)) 20 F_coord_Handle [.agg (buV s b), .agg (encCf s.c), .agg (encMsg (kM m 9))] = some v /\ SubV v (ansB (h9P s m)) := by
  intro t ht
  have e := h9e t s b m f fs hf
  unfold gBu9e at e
  rw [gMs_eq _ (by unfold shortL LB; omega), gMs_eq _ (by unfold shortL LB; omega), gAls_eq h3, gMs_eq _ (by unfold shortL LB; omega), qMs hMs, gAk9_eq h0.eok.l] at e
  simp only [] at e
  rw [gFzH_eq (p := (⟨s.fe, s.keep, f :: fs, s.he⟩, ⟨m.src, m.sboot⟩)) (by show (f :: fs).length <= 100000; omega), qM] at e
  simp only [] at e
  rw [room2_eq (by omega) (by omega), apB_eq, <- hw] at e
  have a1 : hpDf s.e s.g s.ns (akS s.l b 4) .nils s.c (encPlan s.p) (wkQ s s.keep (f :: fs).length) (bkFz (f :: fs)) (akBl s.l) = hpEF s (.seq (f :: fs)) b := hH1
  have a2 : hpDf s.e s.g s.ns (akS s.l b 4) .nils s.c (encPlan s.p) (wkQ s s.keep ((f :: fs).length + 1)) (FF.seq ((f :: fs) ++ [kM m 9])).bs (akBl s.l) = hpEF s (.seq ((f :: fs) ++ [kM m 9])) b := by
   have e0 : (f :: fs).length + 1 = ((f :: fs) ++ [kM m 9]).length := by simp
   rw [e0]; exact hH2
  rw [a1, a2, f3] at e
  unfold h9P
  cases hp : decide (s.p.phase = 1) with
  | false => rw [hp, cond_false] at e; exact ⟨_, e, g3⟩
  | true =>
   rw [hp, cond_true] at e
   cases he : decide (s.p.epoch = m.epoch) with
   | false => rw [he] at e; exact ⟨_, e, g3⟩
   | true =>
    rw [he, Bool.not_true, cond_false] at e
    rw [Bool.true_and, cond_true]
    unfold frzS
    cases hz : (frozenP (wkE s) ⟨m.src, m.sboot⟩).2 with
    | true =>
     rw [hz] at ht
     have ht : t = mayE (sF s (.seq (f :: fs))) := ht
     have hG : ∀ K : Option AV, gEF t A0 (hpEF s (.seq (f :: fs)) b) K = K := fun K => gEF_eq (y := ⟨s, .seq (f :: fs), b⟩) hE1 ht.symm
     rw [hz, Bool.not_true, cond_false, hG, ht, f1] at e
     rw [cond_true]
     rw [hq] at g1 e
     rw [ht, hq]
     exact ⟨_, e, g1⟩
    | false =>
     rw [hz] at ht
     have ht : t = mayE (sF s (.seq ((f :: fs) ++ [kM m 9]))) := ht
     have hG : ∀ K : Option AV, gEF t A0 (hpEF s (.seq ((f :: fs) ++ [kM m 9])) b) K = K := fun K => gEF_eq (y := ⟨s, .seq ((f :: fs) ++ [kM m 9]), b⟩) hE2 ht.symm
     rw [hz, Bool.not_false, cond_true, hG, ht, f2] at e
     rw [cond_false, ht, <- hsq]
     exact ⟨_, e, g2⟩
 cases hz : (frozenP (wkE s) ⟨m.src, m.sboot⟩).2 with
 | true =>
  obtain ⟨v, e, g⟩ := key (mayE (sF s (.seq (f :: fs)))) (by rw [hz]; rfl)
  exact (conK3 (kn39_ok _) e).res g
 | false =>
  obtain ⟨v, e, g⟩ := key (mayE (sF s (.seq ((f :: fs) ++ [kM m 9])))) (by rw [hz]; rfl)
  exact (conK3 (kn39_ok _) e).res g
theorem h9_con {s : ES} {m : Msg} (h : FOk s m) : Contract PG F_coord_Handle [.agg (buT s), .agg (encCf s.c), .agg (encMsg (kM m 9))] [] (ansB (h9P s m)) [] := con_bu fun b => by
 match hf : s.fz with
 | .nil => exact h9_nil h hf
 | .emp => exact absurd hf h.ne
 | .ne f fs => exact h9_ne h hf
def CG (f : Nat) (args : List AV) (hp : Heap) (r : AV) (H : Heap) : Prop := Contract PG f args hp r H /\ hp.length <= H.length
def kCon (f : Nat) (r : AV) (H : Heap) : Known := { f := f, ans := fun args hp => some { X := Unit, g := cd (CG f args hp r H), a := (), r := fun _ => (r, H) } }
theorem kCon_ok (f : Nat) (r : AV) (H : Heap) : (kCon f r H).Ok PG := by
 intro args hp A e hg
 cases e
 exact cd_iff.1 hg
def gCon {R : Type} (f : Nat) (args : List AV) (hp : Heap) (r : AV) (H : Heap) (K : Option R) : Option R := gX (CG f args hp r H) () fun _ => K
theorem gCon_eq {R : Type} {f : Nat} {args : List AV} {hp : Heap} {r : AV} {H : Heap} {K : Option R} (h : CG f args hp r H) : gCon f args hp r H K = K := gX_of h
inductive RH where
 | kp (s : ES)
 | en (x : WR)
def RH.t : RH -> Bool
 | .kp _ => false
 | .en _ => true
def dd (sh : Bool) (B : List BS) : List BS := bif sh then .dead :: B else B
def RH.H (sh : Bool) : RH -> Heap
 | .kp s => hpD false s.e s.g s.ns .nils (.sl 31 (3 + sft sh) 0 s.l.length 0) .nils s.c (encPlan s.p) (wkA s) (dd sh [blkA s.l])
 | .en y => hpD false y.e y.g y.ns .nils (.sl 31 (3 + sft sh) 0 0 0) (.sl 31 (4 + sft sh) 0 (y.l.length + 1) 0) y.c (encPlan y.p) wk0 (dd sh [clrA y.l, .seq true 31 (y.l.length + 1) (canF idC [] (outW y))])
def kn52 (R : RH) : List Known := [kCon F_coord_desk_end (.bool R.t) (R.H false)]
theorem kn52_ok (R : RH) : ∀ k ∈ kn52 R, k.Ok PG := ak (kCon_ok _ _ _) ank
def A1 (m : Msg) : List AV := [.ptr 0 0 0, .agg (encMsg (kM m 21))]
def hpR (s : ES) (P W : List AV) (A O : AV) (B : List BS) : Heap := hpD false s.e s.g s.ns .nils A O s.c P W B
def rsP1 (p : Plan) (m : Msg) : Plan := { p with reset := m.num }
structure AQ where
 A : Nat -> AV
 B : BS
def AQ.hp (q : AQ) (sh : Bool) (s : ES) (P W : List AV) : Heap := hpR s P W (q.A (3 + sft sh)) .nils (dd sh [q.B])
def rsT (R : RH) (sh : Bool) (q : AQ) (s : ES) (p : Plan) (W : List AV) : Option (AV × Heap) := gCon F_coord_desk_end A0 (q.hp false s (encPlan p) W) (.bool R.t) (R.H false) (some (.tup [], R.H sh))
def rsB (R : RH) (sh : Bool) (q : AQ) (s : ES) (m : Msg) : Option (AV × Heap) := bif decide (1099511627776 <= s.p.epoch) then rsT R sh q s (rsP1 s.p m) (wkA s) else rsT R sh q s (begP (rsP1 s.p m) true) wk0
def rsE (R : RH) (sh : Bool) (q : AQ) (s : ES) (m : Msg) : Option (AV × Heap) := bif !s.p.fresh then rsB R sh q s m else rsT R sh q s (rsP1 s.p m) (wkA s)
def rsK (sh : Bool) (q : AQ) (s : ES) : Option (AV × Heap) := some (.tup [], q.hp sh s (encPlan s.p) (wkA s))
def rsA (R : RH) (sh : Bool) (q : AQ) (s : ES) (m : Msg) (fr : Bool) : Option (AV × Heap) := bif !decide (s.p.reset < m.num) then rsK sh q s else bif fr then rsE R sh q s m else rsB R sh q s m
def aq1 (m : Msg) : AQ := ⟨fun k => .sl 31 k 0 1 1, .arr true 31 [encAsk (m.src, m.num)]⟩
def qE (b : Bool) (k : Nat) : AV := bif b then .sl 31 k 0 0 0 else .nils
def bE (b : Bool) : List BS := bif b then [.arr true 31 []] else []
def hpN1 (s : ES) (b : Bool) (m : Msg) : Heap := hpR s (encPlan s.p) (wkA s) (qE b 3) (.sl 31 (3 + sft b) 0 1 1) (bE b ++ [.arr true 31 [ansC (m.src, m.num)]])
def rsN (s : ES) (b : Bool) (m : Msg) : Option (AV × Heap) := some (.tup [], hpN1 s b m)
theorem rs_0 (R : RH) (s : ES) (b : Bool) (m : Msg) : callH (envK2 (kn52 R)) 20 F_coord_desk_reset (A1 m) (hpR s (encPlan s.p) (wkA s) (qE b 3) .nils (bE b)) =
 bif decide (s.p.phase = 1) then bif !decide (s.p.reset < m.num) then bif !s.p.fresh then rsN s b m else rsA R b (aq1 m) s m true else rsA R b (aq1 m) s m true
 else bif !decide (s.p.reset < m.num) then rsN s b m else rsA R b (aq1 m) s m false := by
 obtain ⟨e, g, p, ns, nb, op, keep, fz, fe, he, l, c⟩ := s
 cases R with
 | kp s1 =>
  obtain ⟨e, g, p, ns, nb, op, keep, fz1, fe, he, l, c⟩ := s1
  cases b <;> cases fz <;> cases fz1 <;> kernel_rfl
 | en x => cases b <;> cases fz <;> kernel_rfl
def hpQ2 (s : ES) : Heap := hpR s (encPlan s.p) (wkA s) (.sl 31 3 0 s.l.length 0) .nils [blkA s.l]
def SRs (s : ES) (m : Msg) (w sm : Bool) (i : Int) : St := { fr := [(0, .ptr 0 0 0), (3, .ptr 4 0 0), (4, .ptr 1 0 0), (5, .bool w), (6, .bool sm), (29, .sl 31 3 0 s.l.length 0), (30, .int .i64 s.l.length), (31, .int .i64 i)], hp := hpQ2 s ++ [.arr true 31 [encMsg (kM m 21)]] }
def LRs (R : RH) (N : Nat) (s : ES) (m : Msg) (j : Nat) (w sm : Bool) (i : Int) : Option (AV × Heap) := LP (envK2 (kn52 R)) (N + 9) 4 F_coord_desk_reset (hnK 4) 0 [] j (SRs s m w sm i)
theorem rs_in (R : RH) (N : Nat) (s : ES) (m : Msg) : callH (envK2 (kn52 R)) (N + 10) F_coord_desk_reset (A1 m) (hpQ2 s) = LRs R N s m (N + 9) false false 0 := by
 obtain ⟨e, g, p, ns, nb, op, keep, fz, fe, he, l, c⟩ := s
 cases fz <;> kernel_rfl
def aqN (l : List Ask) (m : Msg) : AQ := ⟨fun k => .sl 31 k 0 (l.length + 1) 0, .seq true 31 (l.length + 1) fun k => bif k.blt l.length then encAsk (l.getD k (0, 0)) else bif k.blt (l.length + 1) then [encAsk (m.src, m.num)].getD (k - l.length) [] else encAsk (l.getD l.length (0, 0))⟩
def aqL (l : List Ask) : AQ := ⟨fun k => .sl 31 k 0 l.length 0, blkA l⟩
def rsW (R : RH) (s : ES) (m : Msg) (sm fr : Bool) : Option (AV × Heap) := bif !sm then room1 s.l.length 392 (rsA R true (aqN s.l m) s m fr) else rsA R false (aqL s.l) s m fr
def rsZ (R : RH) (s : ES) (m : Msg) (sm : Bool) : Option (AV × Heap) :=
 bif decide (s.p.phase = 1) then bif !decide (s.p.reset < m.num) then rsW R s m sm true else rsW R s m sm true
 else bif !decide (s.p.reset < m.num) then rsW R s m sm false else rsW R s m sm false
theorem rs_st (R : RH) (N j : Nat) (s : ES) (m : Msg) (sm : Bool) (i : Int) : LRs R N s m (j + 1) true sm i =
 bif decide (i < (s.l.length : Int)) then rg i s.l.length <| bif (0 + i.toNat).blt s.l.length then
  bif sm then LRs R N s m j true true (IntKind.i64.wrap (i + 1)) else bif decide ((s.l.getD (0 + i.toNat) (0, 0)).1 = m.src) then LRs R N s m j true (decide ((s.l.getD (0 + i.toNat) (0, 0)).2 = m.num)) (IntKind.i64.wrap (i + 1)) else LRs R N s m j true false (IntKind.i64.wrap (i + 1))
  else none
 else rsZ R s m sm := by
 obtain ⟨e, g, p, ns, nb, op, keep, fz, fe, he, l, c⟩ := s
 cases R with
 | kp s1 =>
  obtain ⟨e, g, p, ns, nb, op, keep, fz1, fe, he, l, c⟩ := s1
  cases fz <;> cases fz1 <;> kernel_rfl
 | en x => cases fz <;> kernel_rfl
def rsZ0 (R : RH) (s : ES) (m : Msg) : Option (AV × Heap) :=
 let an : Option (AV × Heap) := some (.tup [], hpR s (encPlan s.p) (wkA s) (.sl 31 3 0 s.l.length 0) (.sl 31 4 0 1 1) [blkA s.l, .arr true 31 [ansC (m.src, m.num)]])
 bif decide (s.p.phase = 1) then bif !decide (s.p.reset < m.num) then bif !s.p.fresh then an else room1 s.l.length 392 (rsA R true (aqN s.l m) s m true) else room1 s.l.length 392 (rsA R true (aqN s.l m) s m true)
 else bif !decide (s.p.reset < m.num) then an else room1 s.l.length 392 (rsA R true (aqN s.l m) s m false)
theorem rs_st0 (R : RH) (N j : Nat) (s : ES) (m : Msg) (i : Int) : LRs R N s m (j + 1) false false i =
 bif decide (i < (s.l.length : Int)) then rg i s.l.length <| bif (0 + i.toNat).blt s.l.length then
  bif decide ((s.l.getD (0 + i.toNat) (0, 0)).1 = m.src) then LRs R N s m j true (decide ((s.l.getD (0 + i.toNat) (0, 0)).2 = m.num)) (IntKind.i64.wrap (i + 1)) else LRs R N s m j true false (IntKind.i64.wrap (i + 1))
  else none
 else rsZ0 R s m := by
 obtain ⟨e, g, p, ns, nb, op, keep, fz, fe, he, l, c⟩ := s
 cases R with
 | kp s1 =>
  obtain ⟨e, g, p, ns, nb, op, keep, fz1, fe, he, l, c⟩ := s1
  cases fz <;> cases fz1 <;> kernel_rfl
 | en x => cases fz <;> kernel_rfl
def mkT : AV -> AV
 | .tup [.agg [_, _, S, _, _, _, _], _] => .tup [.agg [.undef, .undef, S, .undef, .undef, .undef, .undef], .undef]
 | _ => .undef
def kM0 (r : AV) (h : Heap) : Option (AV × Heap) := hnK 0 (mkT r) h
def LTm (N : Nat) (t : Bool) (c : AC) (j : Nat) (S : St) : Option (AV × Heap) := LP (envT9 (kn47 t c)) (N + 19) 0 F_coord_Tick kM0 0 [] j S
def finM (H : Heap) : Option (AV × Heap) := kM0 (.tup [.agg ((cell0 H 0).take 7), (cell0 H 0).getD 22 .undef]) H
def tkM (t : Bool) (c : AC) (H : Heap) : Option (AV × Heap) :=
 gLk t H (gAgn c (lkH t H (lookP (dEn A0 H).s).p (lookP (dEn A0 H).s).keep) (finM (agH c (lkH t H (lookP (dEn A0 H).s).p (lookP (dEn A0 H).s).keep) (dEn A0 (lkH t H (lookP (dEn A0 H).s).p (lookP (dEn A0 H).s).keep)).s)))
theorem tk_stM (N : Nat) (t : Bool) (c : AC) (j : Nat) (s : ES) (b : Bool) (n : Nat) (g : Nat -> Alive) (i : Int) : LTm N t c (j + 1) (STc s b n (fun k => encAlive (g k)) i) =
 bif decide (i < (n : Int)) then rg i n <| bif (0 + i.toNat).blt n then rg i n <| bif (0 + i.toNat).blt n && true then LTm N t c j (STc s b n (incF g (0 + i.toNat)) (IntKind.i64.wrap (i + 1))) else none else none
 else tkM t c (hpT8 s b n fun k => encAlive (g k)) := by
 obtain ⟨e, g, p, ns, nb, op, keep, fz, fe, he, l, cf⟩ := s
 cases t <;> cases c <;> cases fz <;> cases l <;> cases b <;> kernel_rfl
def bdT : Code := bodyOf (envT9 []) F_coord_Tick
def CT0 : Code := sub bdT [.L]
def CT1 : Code := sub bdT [.R, .L]
def CTr : Code := sub bdT [.R, .R]
theorem bdT_eq : bdT = .seq CT0 (.seq CT1 CTr) := by kernel_rfl
def z7 : List AV := [.int .i64 0, .int .i64 0, .nils, .nils, .nils, .nils, .nils]
def S0T (d : ND) (s : ES) (b : Bool) : St := { fr := mkFrame 0 [.agg (buD d s b), .agg (encCf s.c)], hp := [] }
def S1T (d : ND) (s : ES) (b : Bool) : St := { fr := [(2, .ptr 0 0 0), (3, .ptr 1 0 0), (4, .ptr 2 0 0), (5, .nils)], hp := [.arr true 7 [buD d s b], .arr true 15 [encCf s.c], .arr true 7 [z7]] }
theorem tk_p0 (d : ND) (s : ES) (b : Bool) : evC (envT9 []) (evFn (envT9 []) 0) F_coord_Tick 61 0 0 0 CT0 (kSel [2, 3, 4, 5]) (S0T d s b) = some (S1T d s b) := by
 obtain ⟨e, g, p, ns, nb, op, keep, fz, fe, he, l, cf⟩ := s
 kernel_rfl
def S2T (d : ND) (s : ES) (b : Bool) : St := { fr := [(4, .ptr 2 0 0), (5, .nils), (6, .ptr 11 0 0)], hp := [.arr true 7 [buD d s b], .arr true 15 [encCf s.c], .arr true 7 [z7],
 .arr true 8 [plC2 s.p (mC 4 s.p.chain) (mC 5 s.p.valid)], mBs s.p.chain, mBs s.p.valid, nBs d s.ns, .arr true 4 [[.bool s.fe, mC 8 s.keep, fC 9 s.fz, .bool s.he]], mBs s.keep, fBs s.fz, aBs s.l,
 .arr true 23 [dsk s.e s.g (.sl 8 3 0 1 1) (nC d 6 s.ns) (.sl 4 7 0 1 1) .nils (aC 10 b s.l) s.c .nils]] }
theorem tk_p1 (d : ND) (s : ES) (b : Bool) : evC (envT9 [kCon F_twin_Bureau (resB d s b) (hpB8 d s)]) (evFn (envT9 [kCon F_twin_Bureau (resB d s b) (hpB8 d s)]) 0) F_coord_Tick 61 0 0 0 CT1 (kSel [4, 5, 6]) (S1T d s b) =
  gCon F_twin_Bureau [.agg (buD d s b)] [] (resB d s b) (hpB8 d s) (some (S2T d s b)) := by
 obtain ⟨e, g, p, ns, nb, op, keep, fz, fe, he, l, cf⟩ := s
 obtain ⟨p1, p2, p3, p4, p5, p6, ch, va⟩ := p
 rcases d with _ | n
 ·cases ch <;> cases va <;> cases keep <;> cases fz <;> cases l <;> cases b <;> kernel_rfl
 ·cases n <;> cases ch <;> cases va <;> cases keep <;> cases fz <;> cases l <;> cases b <;> kernel_rfl
def S3T (d : ND) (s : ES) (b : Bool) : St := { fr := [(4, .ptr 2 0 0), (5, .nils), (6, .ptr 11 0 0)], hp := [.dead, .dead, .arr true 7 [z7],
 .arr true 8 [encPlan s.p], .dead, .dead, nBs d s.ns, .arr true 4 [wkA s], .dead, .dead, aBs s.l,
 .arr true 23 [dsk s.e s.g (.sl 8 3 0 1 1) (nC d 6 s.ns) (.sl 4 7 0 1 1) .nils (aC 10 b s.l) s.c .nils]] }
def finKM (e : AX) (s : St) : Option (AV × Heap) := finK (envT9 []) F_coord_Tick kM0 e s
theorem tk_r (N : Nat) (t : Bool) (c : AC) (s : ES) (b : Bool) : evC (envT9 (kn47 t c)) (evFn (envT9 (kn47 t c)) (N + 19)) F_coord_Tick 61 (N + 19) 0 0 CTr finKM (S3T .blk s b) =
  LTm N t c (N + 19) (STc s b s.ns.length (fun k => encAlive (s.ns.getD k default)) 0) := by
 obtain ⟨e, g, p, ns, nb, op, keep, fz, fe, he, l, cf⟩ := s
 cases fz <;> cases l <;> cases b <;> kernel_rfl
theorem tk_rE (t : Bool) (c : AC) (n : Bool) (s : ES) (b : Bool) : evC (envT9 (kn47 t c)) (evFn (envT9 (kn47 t c)) 19) F_coord_Tick 61 19 0 0 CTr finKM (S3T (.emp n) s b) =
  tkM t c (hpT9 (.emp n) true s b) := by
 obtain ⟨e, g, p, ns, nb, op, keep, fz, fe, he, l, cf⟩ := s
 cases t <;> cases c <;> cases n <;> cases fz <;> cases l <;> cases b <;> kernel_rfl
theorem mkT_ok (w : World) (I : Nat -> Prop) (φ : Phi) (v : AV) (u : Value) (h : RV w I φ v u) : RV w I φ (mkT v) u := by
 unfold mkT
 split
 ·cases h with
  | tup _ vs hl hr =>
   refine .tup _ vs (by simpa using hl) fun k c x e e' => ?_
   match k with
   | 0 =>
    simp at e; subst e
    have hx := hr 0 _ x rfl e'
    cases hx with
    | agg _ us hl2 h1 hr2 =>
     refine .agg _ us (by simpa using hl2) h1 fun k c y e e' => ?_
     match k with
     | 0 => simp at e; subst e; exact .undef _
     | 1 => simp at e; subst e; exact .undef _
     | 2 => simp at e; subst e; exact hr2 2 _ y rfl e'
     | 3 => simp at e; subst e; exact .undef _
     | 4 => simp at e; subst e; exact .undef _
     | 5 => simp at e; subst e; exact .undef _
     | 6 => simp at e; subst e; exact .undef _
     | k + 7 => simp at e
   | 1 => simp at e; subst e; exact .undef _
   | k + 2 => simp at e
 ·exact .undef _
def NoL (m : Msg) : Prop := m.entries = [] /\ m.chain = [] /\ m.views = [] /\ m.image.log = [] /\ m.image.seen = []
theorem noL_jf {m : Msg} (h : NoL m) : jfL (encMsg m) = true := by
 obtain ⟨kind, src, dst, boot, sboot, shard, epoch, gen, sess, num, a, code, has, fresh, key, val, ver, floor, op, entries, chain, views, ⟨i1, i2, i3, log, seen⟩⟩ := m
 obtain ⟨h1, h2, h3, h4, h5⟩ := h
 simp only at h1 h2 h3 h4 h5
 subst h1 h2 h3 h4 h5
 rfl
theorem alive_jf (a : Alive) : jfL (encAlive a) = true := rfl
theorem member_jf (a : Member) : jfL (encMember a) = true := rfl
theorem ask_jf (a : Ask) : jfL (encAsk a) = true := rfl
theorem mC_tree {w : World} {I : Nat -> Prop} {φ : Phi} {rd : Nat -> BS} {q : Nat} {l : List Member} {u : Value} {L : List Nat} (hh : AM.RH w I φ rd) (hq : rd q = mBs l) (hL : q ∈ L) (h : RV w I φ (mC q l) u) : RV w (InL φ L) φ (encMembers l) u := by
 cases l with
 | nil => exact h.jf _ rfl
 | cons a t =>
  have hq : rd q = .seq true 2 (a :: t).length fun i => encMember ((a :: t).getD i default) := hq
  obtain ⟨B, o, sz, e, r⟩ := hh.blk q (by rw [hq]; rfl)
  rw [hq] at r
  have hs : sz = 2 := r.1.symm
  subst hs
  exact h.toTree (by simp) e rfl r (Nat.le_refl _) ⟨q, hL, _, _, e⟩ fun i _ => member_jf _
theorem fC_tree {w : World} {I : Nat -> Prop} {φ : Phi} {rd : Nat -> BS} {q : Nat} {l : LN Msg} {u : Value} {L : List Nat} (hh : AM.RH w I φ rd) (hq : rd q = fBs l) (hL : q ∈ L) (hn : ∀ m ∈ l.l, NoL m) (h : RV w I φ (fC q l) u) : RV w (InL φ L) φ (fzV l) u := by
 cases l with
 | nil => exact h.jf _ rfl
 | emp => exact h.jf _ rfl
 | ne a t =>
  have hq : rd q = .seq true 31 (a :: t).length fun i => encMsg ((a :: t).getD i default) := hq
  obtain ⟨B, o, sz, e, r⟩ := hh.blk q (by rw [hq]; rfl)
  rw [hq] at r
  have hs : sz = 31 := r.1.symm
  subst hs
  exact h.toTree (by simp) e rfl r (Nat.le_refl _) ⟨q, hL, _, _, e⟩ fun i hi => noL_jf (hn _ (getD_mem hi))
theorem nC_jf (d : ND) (q : Nat) (ns : List Alive) : jf (nC d q ns) = true := by
 cases d with
 | blk => rfl
 | emp n => cases n <;> rfl
theorem aC_jf (q : Nat) (b : Bool) (l : List Ask) : jf (aC q b l) = true := by
 cases l with
 | nil => cases b <;> rfl
 | cons a t => rfl
theorem RB.cells1 {w : World} {I J : Nat -> Prop} {φ φ' : Phi} {B o sz : Nat} {m : Bool} {cs cs' : List AV} (h : RB w I φ B o sz (.arr m sz [cs])) (hl : cs'.length = cs.length)
  (hc : ∀ (k : Nat) c c', cs[k]? = some c -> cs'[k]? = some c' -> ∀ u, RV w I φ c u -> RV w J φ' c' u) : RB w J φ' B o sz (.arr m sz [cs']) := by
 have hlen := h.2.2.1 0 cs rfl
 refine AM.RB.arr_map h (fun i x e => ?_) fun i x k c' e e' => ?_
 ·cases i with
  | zero => simp at e; subst e; omega
  | succ i => simp at e
 ·cases i with
  | zero =>
   simp at e; subst e
   have hk : k < cs.length := by
    have := (List.getElem?_eq_some_iff.1 e').1
    omega
   exact ⟨cs, cs[k], rfl, List.getElem?_eq_getElem hk, hc k _ c' (List.getElem?_eq_getElem hk) e'⟩
  | succ i => simp at e
theorem RB.same1 {w : World} {I : Nat -> Prop} {φ φ' : Phi} {B o sz : Nat} {m : Bool} {cs : List AV} (h : RB w I φ B o sz (.arr m sz [cs])) (J : Nat -> Prop) (hj : jfL cs = true) (le : Phi.le φ φ') : RB w J φ' B o sz (.arr m sz [cs]) :=
 RB.cells1 h rfl fun k c c' e e' u hu => by
  rw [e] at e'; cases e'
  exact (hu.jf J (jfL_get hj e)).mono (fun B hB => ⟨hB, rfl⟩) (fun _ => Nat.le_refl _) le
theorem shrT {d : ND} {s : ES} {b : Bool} (hn : ∀ m ∈ s.fz.l, NoL m) : Shr (S2T d s b) (S3T d s b) := by
 intro w0 w I φ a hs hnew
 have hh := hs.hh
 refine ⟨InL φ [4, 5, 8, 9], φ, ⟨hh.shrink [4, 5, 8, 9] (hget (S3T d s b).hp) ?_ ?_ ?_, fun t => ?_⟩, fun B hB => ?_, fun B hB => ?_⟩
 ·intro x hx
  have h4 : mBs s.p.chain = .none \/ mutable (mBs s.p.chain) = true := by cases s.p.chain; exact .inl rfl; exact .inr rfl
  have h5 : mBs s.p.valid = .none \/ mutable (mBs s.p.valid) = true := by cases s.p.valid; exact .inl rfl; exact .inr rfl
  have h8 : mBs s.keep = .none \/ mutable (mBs s.keep) = true := by cases s.keep; exact .inl rfl; exact .inr rfl
  have h9 : fBs s.fz = .none \/ mutable (fBs s.fz) = true := by cases s.fz; exact .inl rfl; exact .inl rfl; exact .inr rfl
  simp only [List.mem_cons, List.mem_nil_iff, or_false] at hx
  rcases hx with rfl | rfl | rfl | rfl
  ·exact ⟨h4, rfl⟩
  ·exact ⟨h5, rfl⟩
  ·exact ⟨h8, rfl⟩
  ·exact ⟨h9, rfl⟩
 ·intro x hx
  match x with
  | 0 => cases hx
  | 1 => cases hx
  | 2 => cases hx
  | 3 => cases hx
  | 4 => cases hx
  | 5 => cases hx
  | 6 => exact hx
  | 7 => cases hx
  | 8 => cases hx
  | 9 => cases hx
  | 10 => exact hx
  | 11 => cases hx
  | x + 12 => exact hx
 ·intro x hx
  match x with
  | 0 => cases hx
  | 1 => cases hx
  | 2 => exact ⟨rfl, rfl, fun B o sz e r => by
    have hsz : sz = 7 := r.1.symm
    subst hsz
    exact RB.same1 r _ rfl (Phi.le_refl _)⟩
  | 3 => exact ⟨rfl, rfl, fun B o sz e r => by
    have hsz : sz = 8 := r.1.symm
    subst hsz
    refine RB.cells1 (cs := plC2 s.p (mC 4 s.p.chain) (mC 5 s.p.valid)) r rfl fun k c c' e e' u hu => ?_
    match k with
    | 0 => cases e; cases e'; exact hu.jf _ rfl
    | 1 => cases e; cases e'; exact hu.jf _ rfl
    | 2 => cases e; cases e'; exact hu.jf _ rfl
    | 3 => cases e; cases e'; exact hu.jf _ rfl
    | 4 => cases e; cases e'; exact hu.jf _ rfl
    | 5 => cases e; cases e'; exact hu.jf _ rfl
    | 6 => cases e; cases e'; exact mC_tree hh rfl (by simp) hu
    | 7 => cases e; cases e'; exact mC_tree hh rfl (by simp) hu
    | k + 8 => cases e⟩
  | 4 => cases hx
  | 5 => cases hx
  | 6 =>
   cases d with
   | emp n => cases hx
   | blk => exact ⟨rfl, rfl, fun B o sz e r => AM.RB.seq_jf r _ fun i _ => alive_jf _⟩
  | 7 => exact ⟨rfl, rfl, fun B o sz e r => by
    have hsz : sz = 4 := r.1.symm
    subst hsz
    refine RB.cells1 (cs := [.bool s.fe, mC 8 s.keep, fC 9 s.fz, .bool s.he]) r rfl fun k c c' e e' u hu => ?_
    match k with
    | 0 => cases e; cases e'; exact hu.jf _ rfl
    | 1 => cases e; cases e'; exact mC_tree hh rfl (by simp) hu
    | 2 => cases e; cases e'; exact fC_tree hh rfl (by simp) hn hu
    | 3 => cases e; cases e'; exact hu.jf _ rfl
    | k + 4 => cases e⟩
  | 8 => cases hx
  | 9 => cases hx
  | 10 =>
   have hx : live (aBs s.l) = true := hx
   cases hl : s.l with
   | nil => rw [hl] at hx; cases hx
   | cons a t =>
    have e1 : hget (S2T d s b).hp 10 = blkA (a :: t) := by show aBs s.l = _; rw [hl]; rfl
    have e2 : hget (S3T d s b).hp 10 = blkA (a :: t) := by show aBs s.l = _; rw [hl]; rfl
    rw [e1, e2]
    exact ⟨rfl, rfl, fun B o sz e r => AM.RB.seq_jf r _ fun i _ => ask_jf _⟩
  | 11 => exact ⟨rfl, rfl, fun B o sz e r => by
    have hsz : sz = 23 := r.1.symm
    subst hsz
    refine RB.same1 r _ ?_ (Phi.le_refl _)
    have h1 := nC_jf d 6 s.ns
    have h2 := aC_jf 10 b s.l
    show (true && (true && (true && (jf (nC d 6 s.ns) && (true && (true && (jf (aC 10 b s.l) && _))))))) = true
    rw [h1, h2]; rfl⟩
  | x + 12 => cases hx
 ·have := hs.fr t
  have e : fget (S3T d s b).fr t = fget (S2T d s b).fr t := rfl
  rw [e]
  match t with
  | 4 => exact this.jf _ rfl
  | 5 => exact this.jf _ rfl
  | 6 => exact this.jf _ rfl
  | 0 => exact .undef _
  | 1 => exact .undef _
  | 2 => exact .undef _
  | 3 => exact .undef _
  | t + 7 => exact .undef _
 ·obtain ⟨x, hx, o, sz, e⟩ := hB
  refine hnew B ⟨x, o, sz, ?_, e⟩
  have hne : hget (S2T d s b).hp x ≠ .none := fun hno => by rw [hh.none x hno] at e; cases e
  simp only [List.mem_cons, List.mem_nil_iff, or_false] at hx
  rcases hx with rfl | rfl | rfl | rfl
  ·have h : mBs s.p.chain ≠ .none := hne
   show mutable (mBs s.p.chain) = true
   cases hc : s.p.chain with
   | nil => rw [hc] at h; exact absurd rfl h
   | cons a t => rfl
  ·have h : mBs s.p.valid ≠ .none := hne
   show mutable (mBs s.p.valid) = true
   cases hc : s.p.valid with
   | nil => rw [hc] at h; exact absurd rfl h
   | cons a t => rfl
  ·have h : mBs s.keep ≠ .none := hne
   show mutable (mBs s.keep) = true
   cases hc : s.keep with
   | nil => rw [hc] at h; exact absurd rfl h
   | cons a t => rfl
  ·have h : fBs s.fz ≠ .none := hne
   show mutable (fBs s.fz) = true
   cases hc : s.fz with
   | nil => rw [hc] at h; exact absurd rfl h
   | emp => rw [hc] at h; exact absurd rfl h
   | ne a t => rfl
 ·obtain ⟨x, o, sz, hm, e⟩ := hB
  refine hnew B ⟨x, o, sz, ?_, e⟩
  match x with
  | 0 => cases hm
  | 1 => cases hm
  | 2 => rfl
  | 3 => rfl
  | 4 => cases hm
  | 5 => cases hm
  | 6 => exact hm
  | 7 => rfl
  | 8 => cases hm
  | 9 => cases hm
  | 10 => exact hm
  | 11 => rfl
  | x + 12 => cases hm
def rT : AV := .tup [.agg [.undef, .undef, .sl 8 0 0 1 1, .undef, .undef, .undef, .undef], .undef]
theorem finM_eq (e g : Int) (Ns Wk Op Aq O : AV) (c : CConf) (p : Plan) (r : Heap) : finM (.arr true 23 [dsk e g (.sl 8 1 0 1 1) Ns Wk Op Aq c O] :: .arr true 8 [encPlan p] :: r) = some (rT, [.arr true 8 [encPlan p]]) := by kernel_rfl
theorem finM_Ag (d : ND) (s : ES) (b : Bool) (hd : d = .blk \/ mayE s = false) : finM (hpAg d s b) = some (rT, [.arr true 8 [encPlan (againQ s).1.p]]) := by
 unfold hpAg againQ
 cases hm : mayE s with
 | true =>
  rw [cond_true, cond_true]
  unfold outE wrE
  cases hl : s.l with
  | nil => cases hb : s.nb <;> exact finM_eq ..
  | cons a t => unfold hpF; dsimp only; cases hb : s.nb <;> exact finM_eq ..
 | false =>
  rw [cond_false, cond_false]
  unfold hpQ
  cases d with
  | blk => exact finM_eq ..
  | emp n => exact finM_eq ..
theorem tkM_ok {t : Bool} {c : AC} {d : ND} {s : ES} {b : Bool} (h : TOk d s) (ht : lkC t s) (h2 : TOk d (lookP s)) (hc : acC c (lookP s)) : tkM t c (hpT9 d true s b) = finM (hpAg d (lookP s) b) := by
 have e1 : (dEn A0 (hpT9 d true s b)).s = s := congrArg EB.s (dT9_eq (t := true) (b := b) h.nb h.nd h.op)
 have e2 : (dEn A0 (hpT9 d false (lookP s) b)).s = lookP s := congrArg EB.s (dT9_eq (t := false) (b := b) h2.nb h2.nd h2.op)
 unfold tkM
 rw [gLk_eq h ht, e1, lkH_eq ht, gAgn_eq h2 hc, e2, agH_eq h2 hc]
theorem tk_runM (N : Nat) (t : Bool) (c : AC) (s : ES) (b : Bool) (hl : s.ns.length <= 1000) : ∀ d i j, i + d = s.ns.length -> d < j -> LTm N t c j (STc s b s.ns.length (fun k => encAlive (gInc (fun k => s.ns.getD k default) i k)) (i : Nat)) = tkM t c (hpT9 .blk true (blkS s) b) := by
 intro d
 induction d with
 | zero =>
  intro i j hi hj
  obtain ⟨j, rfl⟩ : ∃ k, j = k + 1 := ⟨j - 1, by omega⟩
  have : i = s.ns.length := by omega
  subst this
  rw [tk_stM, decide_eq_false (by omega), cond_false, tk_hp]
 | succ d ih =>
  intro i j hi hj
  obtain ⟨j, rfl⟩ : ∃ k, j = k + 1 := ⟨j - 1, by omega⟩
  have hil : i < s.ns.length := by omega
  rw [tk_stM, decide_eq_true (by omega), cond_true, rg_eq hil, Int.toNat_natCast, Nat.zero_add, blt_true hil, cond_true, rg_eq hil, Bool.and_true, cond_true, wrapS (by omega), incF_gInc]
  exact ih (i + 1) j (by omega) (by omega)
theorem okT : okCode CT0 = true /\ okCode CT1 = true := by
 have h : okCode bdT = true := by kernel_rfl
 rw [bdT_eq] at h
 obtain ⟨a, b⟩ := and_true' (show (okCode CT0 && okCode (.seq CT1 CTr)) = true from h)
 exact ⟨a, (and_true' (show (okCode CT1 && okCode CTr) = true from b)).1⟩
theorem tick_cut {d : ND} {s : ES} {b : Bool} (h : BOk d s) (hn : ∀ m ∈ s.fz.l, NoL m) {t : Bool} {c : AC} {N : Nat} {r : AV} {H : Heap}
  (e : evC (envT9 (kn47 t c)) (evFn (envT9 (kn47 t c)) N) F_coord_Tick 61 N 0 0 CTr finKM (S3T d s b) = some (r, H)) : NewC PG F_coord_Tick [.agg (buD d s b), .agg (encCf s.c)] r H := by
 have h0 : EnvOk PG (envT9 []) := envT9_ok ank
 have h1 : EnvOk PG (envT9 [kCon F_twin_Bureau (resB d s b) (hpB8 d s)]) := envT9_ok (ak (kCon_ok _ _ _) ank)
 have h2 : EnvOk PG (envT9 (kn47 t c)) := envT9_ok (kn47_ok t c)
 have e1 := (tk_p1 d s b).trans (gCon_eq ⟨burB_con h, Nat.zero_le _⟩)
 exact cut_new (env0 := envT9 []) mixed (codeOf_ok rfl) bdT_eq (by kernel_rfl) (leads_sel h0 (ev_ok h0 (codeOf_ok rfl) mixed 0) mixed okT.1 (tk_p0 d s b)) (leads_sel h1 (ev_ok h1 (codeOf_ok rfl) mixed 0) mixed okT.2 e1)
  (shrT hn) h0 h2 rfl (ev_ok h2 (codeOf_ok rfl) mixed N) mkT_ok e
theorem tick_newB {s : ES} {b : Bool} (h : KOk s) (hne : s.ns ≠ []) (hn : ∀ m ∈ s.fz.l, NoL m) : NewC PG F_coord_Tick [.agg (buD .blk s b), .agg (encCf s.c)] rT [.arr true 8 [encPlan (tickQ s).1.p]] := by
 have h1 := h.blk
 obtain ⟨t, ht⟩ := lkC_or (blkS s)
 obtain ⟨c, hc⟩ := acC_or (lookP (blkS s))
 have hl := h.eok.ns
 have r := tk_runM 2000 t c s b hl s.ns.length 0 (2000 + 19) (by omega) (by omega)
 have e0 : (fun k => encAlive (gInc (fun k => s.ns.getD k default) 0 k)) = fun k => encAlive (s.ns.getD k default) := rfl
 rw [e0] at r
 exact tick_cut ⟨h.eok, Nat.le_trans h.val (by omega), h.cp, .inl ⟨rfl, hne⟩⟩ hn ((tk_r 2000 t c s b).trans (r.trans ((tkM_ok h1 ht h1.look hc).trans (finM_Ag .blk _ b (.inl rfl)))))
theorem tick_newE {s : ES} {b n : Bool} (h : KOk s) (hns : s.ns = []) (hn : ∀ m ∈ s.fz.l, NoL m) : NewC PG F_coord_Tick [.agg (buD (.emp n) s b), .agg (encCf s.c)] rT [.arr true 8 [encPlan s.p]] := by
 have h1 := h.emp hns n
 have hl := look_nil hns
 have h2 : TOk (.emp n) (lookP s) := by rw [hl]; exact h1
 obtain ⟨t, ht⟩ := lkC_or s
 obtain ⟨c, hc⟩ := acC_or (lookP s)
 have hm : mayE s = false := may_nil hns (h.kn hns)
 have e := finM_Ag (.emp n) (lookP s) b (.inr (by rw [hl]; exact hm))
 have ep : (againQ (lookP s)).1.p = s.p := by
  rw [hl]; unfold againQ; rw [hm]; rfl
 rw [ep] at e
 exact tick_cut ⟨h.eok, Nat.le_trans h.val (by omega), h.cp, .inr ⟨(fun e => by cases e), hns⟩⟩ hn ((tk_rE t c n s b).trans ((tkM_ok h1 ht h2 hc).trans e))
def hpTk (l : List Member) : Heap := [.arr true 8 [[.undef, .undef, .undef, .undef, .undef, .undef, mC 1 l, .undef]], mBs l]
theorem new_plan {f : Nat} {args : List AV} {p : Plan} (h : NewC PG f args rT [.arr true 8 [encPlan p]]) : Contract PG f args [] rT (hpTk p.chain) := by
 intro w I φ ra hh hx
 have hφ := phi_nil hh
 subst hφ
 refine (h w I ra hh.lt hx).mono fun u w' ⟨φ', J, a1, a2, a3, a4, a5⟩ => ?_
 have hI : ∀ B, I B -> B < w.heap.size := hh.lt
 obtain ⟨B0, o0, sz0, e0, r0⟩ := a2.blk 0 rfl
 have hs0 : sz0 = 8 := r0.1.symm
 subst hs0
 have hnew0 : w.heap.size <= B0 := a4 B0 ⟨0, o0, 8, rfl, e0⟩
 have hJ0 : ¬ J B0 := a2.disj 0 B0 o0 8 rfl e0
 have hno : ∀ b, φ' (b + 1) = none := fun b => a2.none (b + 1) (by simp [hget])
 have hle0 : ∀ φ2 : Phi, φ2 0 = some (B0, o0, 8) -> Phi.le φ' φ2 := fun φ2 h2 b q hb => by
  cases b with
  | zero => rw [e0] at hb; rw [h2, <- hb]
  | succ b => rw [hno b] at hb; cases hb
 have hrt : ∀ φ2 : Phi, φ2 0 = some (B0, o0, 8) -> RV w' I φ2 rT u := fun φ2 h2 => (a1.jf I rfl).mono (fun B hB => ⟨hB, rfl⟩) (fun _ => Nat.le_refl _) (hle0 φ2 h2)
 have hext : Ext (Mut Phi.no (hget [])) w w' := a5.weaken fun B h => h.elim
 obtain ⟨uc, c1, c2, c3⟩ := r0.2.2.2 0 (encPlan p) 6 (encMembers p.chain) rfl rfl
 have hplan : ∀ (φ2 : Phi) (x : AV), RV w' I φ2 x uc -> RB w' I φ2 B0 o0 8 (.arr true 8 [[.undef, .undef, .undef, .undef, .undef, .undef, x, .undef]]) := by
  intro φ2 x hxu
  obtain ⟨_, g1, g2, g3⟩ := r0
  refine ⟨rfl, g1, fun i cs e => ?_, fun i cs k c e e' => ?_⟩
  ·cases i with
   | zero => cases e; rfl
   | succ i => simp at e
  ·cases i with
   | succ i => simp at e
   | zero =>
    cases e
    match k with
    | 0 => cases e'; obtain ⟨u, b1, b2, b3⟩ := g3 0 _ 0 _ rfl rfl; exact ⟨u, b1, b2, .undef _⟩
    | 1 => cases e'; obtain ⟨u, b1, b2, b3⟩ := g3 0 _ 1 _ rfl rfl; exact ⟨u, b1, b2, .undef _⟩
    | 2 => cases e'; obtain ⟨u, b1, b2, b3⟩ := g3 0 _ 2 _ rfl rfl; exact ⟨u, b1, b2, .undef _⟩
    | 3 => cases e'; obtain ⟨u, b1, b2, b3⟩ := g3 0 _ 3 _ rfl rfl; exact ⟨u, b1, b2, .undef _⟩
    | 4 => cases e'; obtain ⟨u, b1, b2, b3⟩ := g3 0 _ 4 _ rfl rfl; exact ⟨u, b1, b2, .undef _⟩
    | 5 => cases e'; obtain ⟨u, b1, b2, b3⟩ := g3 0 _ 5 _ rfl rfl; exact ⟨u, b1, b2, .undef _⟩
    | 6 => cases e'; exact ⟨uc, c1, c2, hxu⟩
    | 7 => cases e'; obtain ⟨u, b1, b2, b3⟩ := g3 0 _ 7 _ rfl rfl; exact ⟨u, b1, b2, .undef _⟩
    | k + 8 => cases e'
 cases hc : p.chain with
 | nil =>
  rw [hc] at c3
  refine ⟨fun b => match b with | 0 => some (B0, o0, 8) | _ => none, I, hrt _ rfl, ⟨fun b e => ?_, fun b hl => ?_, fun b b' B o sz o' sz' hm hm' e e' => ?_, fun b B o sz hm e hB => ?_, fun b B o sz hl hm e => ?_, fun B hB => Nat.lt_of_lt_of_le (hI B hB) a5.size⟩,
   ⟨fun b q hlt => absurd hlt (Nat.not_lt_zero b), fun B hB => hB, fun B hB => .inl hB, fun B hB => ?_, hext⟩⟩
  ·match b with
   | 0 => cases e
   | b + 1 => rfl
  ·match b with
   | 0 => exact ⟨B0, o0, 8, rfl, hplan _ _ (c3.jf I rfl |>.mono (fun B hB => ⟨hB, rfl⟩) (fun _ => Nat.le_refl _) (hle0 _ rfl))⟩
   | 1 => cases hl
   | b + 2 => cases hl
  ·match b, b' with
   | 0, 0 => rfl
   | 0, b' + 1 => cases e'
   | b + 1, _ => cases e
  ·match b with
   | 0 => cases e; have := hI B0 hB; omega
   | b + 1 => cases e
  ·match b with
   | 0 => cases hm
   | b + 1 => cases e
  ·obtain ⟨b, o, sz, hm, e⟩ := hB
   match b with
   | 0 => cases e; exact .inr hnew0
   | b + 1 => cases e
 | cons a t =>
  rw [hc] at c3
  obtain ⟨B1, o1, g1, g2⟩ := RV.thaw c3 (by simp) (by omega) a5 a3 fun i _ => member_jf _
  have hne : B0 ≠ B1 := fun e => hJ0 (e ▸ g1)
  have hnew1 : w.heap.size <= B1 := a3 B1 g1
  refine ⟨fun b => match b with | 0 => some (B0, o0, 8) | 1 => some (B1, o1, 2) | _ => none, I, hrt _ rfl, ⟨fun b e => ?_, fun b hl => ?_, fun b b' B o sz o' sz' hm hm' e e' => ?_, fun b B o sz hm e hB => ?_, fun b B o sz hl hm e => ?_, fun B hB => Nat.lt_of_lt_of_le (hI B hB) a5.size⟩,
   ⟨fun b q hlt => absurd hlt (Nat.not_lt_zero b), fun B hB => hB, fun B hB => .inl hB, fun B hB => ?_, hext⟩⟩
  ·match b with
   | 0 => cases e
   | 1 => cases e
   | b + 2 => rfl
  ·match b with
   | 0 => exact ⟨B0, o0, 8, rfl, hplan _ _ (g2 _ 1 I rfl).1⟩
   | 1 => exact ⟨B1, o1, 2, rfl, (g2 _ 1 I rfl).2⟩
   | b + 2 => cases hl
  ·match b, b' with
   | 0, 0 => rfl
   | 0, 1 => cases e; cases e'; exact absurd rfl hne
   | 1, 0 => cases e; cases e'; exact absurd rfl hne
   | 1, 1 => rfl
   | 0, b' + 2 => cases e'
   | 1, b' + 2 => cases e'
   | b + 2, _ => cases e
  ·match b with
   | 0 => cases e; have := hI B0 hB; omega
   | 1 => cases e; have := hI B1 hB; omega
   | b + 2 => cases e
  ·match b with
   | 0 => cases hm
   | 1 => cases hm
   | b + 2 => cases e
  ·obtain ⟨b, o, sz, hm, e⟩ := hB
   match b with
   | 0 => cases e; exact .inr hnew0
   | 1 => cases e; exact .inr hnew1
   | b + 2 => cases e
theorem tickK_asks {s : ES} {d : ND} {l : List Member} (h : ∀ b, Contract PG F_coord_Tick [.agg (buD d s b), .agg (encCf s.c)] [] rT (hpTk l)) : Contract PG F_coord_Tick [.agg [.int .i64 s.e, .int .i64 s.g, .trl 8 [encPlan s.p], nV d s.ns, .trl 4 [wkA s], .nils, encAsks s.l], .agg (encCf s.c)] [] rT (hpTk l) := by
 by_cases hl : s.l = []
 ·refine Contract.split (args1 := [.agg (buD d s false), .agg (encCf s.c)]) (args2 := [.agg (buD d s true), .agg (encCf s.c)]) ?_ (h false) (h true)
  unfold buD akAV
  rw [hl]
  exact OrC.of [] [.agg (encCf s.c)] (.agg (OrC.of [.int .i64 s.e, .int .i64 s.g, .trl 8 [encPlan s.p], nV d s.ns, .trl 4 [wkA s], .nils] [] .nil))
 ·have : encAsks s.l = akAV s.l false := by
   unfold akAV
   cases h : s.l with
   | nil => exact absurd h hl
   | cons a t => rfl
  rw [this]
  exact h false
def tkCh (s : ES) : List Member := match s.ns with
 | [] => s.p.chain
 | _ :: _ => (tickQ s).1.p.chain
theorem tickK_con {s : ES} (h : KOk s) (hn : ∀ m ∈ s.fz.l, NoL m) : Contract PG F_coord_Tick [.agg (buT s), .agg (encCf s.c)] [] rT (hpTk (tkCh s)) := by
 unfold tkCh
 by_cases hns : s.ns = []
 ·have h0 := tickK_asks (d := .emp false) (s := s) fun b => new_plan (tick_newE h hns hn)
  have h1 := tickK_asks (d := .emp true) (s := s) fun b => new_plan (tick_newE h hns hn)
  rw [hns]
  refine Contract.split ?_ h0 h1
  unfold buT
  rw [hns]
  exact OrC.of [] [.agg (encCf s.c)] (.agg (OrC.of [.int .i64 s.e, .int .i64 s.g, .trl 8 [encPlan s.p]] [.trl 4 [wkA s], .nils, encAsks s.l] .nil))
 ·have := tickK_asks (d := .blk) fun b => new_plan (tick_newB (b := b) h hns hn)
  cases hs : s.ns with
  | nil => exact absurd hs hns
  | cons a t => exact this
theorem emp_blk : callH (envC2 []) 20 F_twin_Msgs [.trl 31 []] [] = some (.sl 31 0 0 0 0, [.arr true 31 []]) := by kernel_rfl
def kMsgX : Known := { f := F_twin_Msgs, ans := fun args hp => match isEmpT (args.getD 0 .undef) with
 | true => match args, hp with
  | [_], [] => some { X := Unit, g := true, a := (), r := fun _ => (.sl 31 0 0 0 0, [.arr true 31 []]) }
  | _, _ => none
 | false => kMsgT.ans args hp }
theorem kMsgX_ok : kMsgX.Ok PG := by
 intro args hp A e hg
 unfold kMsgX at e
 simp only [] at e
 cases hE : isEmpT (args.getD 0 .undef) with
 | true =>
  rw [hE] at e
  simp only [] at e
  split at e
  ·rename_i v
   cases e
   have : v = .trl 31 [] := isEmpT_eq hE
   subst this
   exact conC2H ank emp_blk
  ·cases e
 | false => rw [hE] at e; exact kMsgT_ok args hp A e hg
inductive RsO where
 | st (sh : Bool) (R : RH)
 | an (s : ES) (b : Bool) (m : Msg)
def RsO.H : RsO -> Heap
 | .st sh R => R.H sh
 | .an s b m => hpN1 s b m
def kn53 (O : RsO) : List Known := [kMsgX, kCloneAlive, kCloneMember, kCon F_coord_desk_reset (.tup []) O.H]
theorem kn53_ok (O : RsO) : ∀ k ∈ kn53 O, k.Ok PG := ak kMsgX_ok (ak kCloneAlive_ok (ak kCloneMember_ok (ak (kCon_ok _ _ _) ank)))
def md53 (f : Nat) : Option Nat := bif Nat.beq f F_coord_desk_reset then some 5 else mdK f
def env53 (l : List Known) : Env := { envL [] md53 l with msk := fun f => bif Nat.beq f F_coord_Up then [2, 4, 5, 6] else [] }
theorem env53_ok {l : List Known} (h : ∀ k ∈ l, k.Ok PG) : EnvOk PG (env53 l) := ⟨tt_ok rfl, orc_ok h⟩
theorem con53 {l : List Known} (h : ∀ k ∈ l, k.Ok PG) {n f : Nat} {xs : List AV} {r : AV} (e : callT (env53 l) n f xs = some r) : Contract PG f xs [] r [] := callT_ok (env53_ok h) (codeOf_ok rfl) mixed e
def gAkX {R : Type} (l : List Ask) (b : Bool) (K : AV -> List BS -> Option R) : Option R := match l with
 | [] => K (qE b 3) (bE b)
 | a :: t => gC dAk pAk eAk [encAsks (a :: t)] fun y => K (.sl 31 3 0 y.length 0) [blkA y]
def gBuX1 {R : Type} (s : ES) (b : Bool) (K : Plan -> List Alive -> List Member -> AV -> AV -> List BS -> Option R) : Option R :=
 gMs s.p.chain fun y0 => gMs s.p.valid fun y1 => gAls s.ns fun y2 => gMs s.keep fun y3 => gFzV s.fz fun F => gAkX s.l b fun A B => K { s.p with chain := y0, valid := y1 } y2 y3 F A B
def eqH21 (O : RsO) (s : ES) (b : Bool) (m : Msg) : Prop := callT (env53 (kn53 O)) 20 F_coord_Handle [.agg (buV s b), .agg (encCf s.c), .agg (encMsg (kM m 21))] =
 gBuX1 s b fun p ns ke F A B => gCon F_coord_desk_reset (A1 m) (hpB s p ns [.bool s.fe, encMembers ke, F, .bool s.he] A B) (.tup []) O.H (fin O.H)
theorem h21kn (sh : Bool) (s1 : ES) (e g : Int) (p : Plan) (ns : List Alive) (nb : Bool) (op : LN Opn) (keep : List Member) (fe he : Bool) (l : List Ask) (c : CConf) (b : Bool) (m : Msg) : callT (env53 (kn53 (RsO.st sh (.kp s1)))) 20 F_coord_Handle [.agg (buV ⟨e, g, p, ns, nb, op, keep, .nil, fe, he, l, c⟩ b), .agg (encCf c), .agg (encMsg (kM m 21))] =
 gBuX1 ⟨e, g, p, ns, nb, op, keep, .nil, fe, he, l, c⟩ b fun p ns ke F A B => gCon F_coord_desk_reset (A1 m) (hpB ⟨e, g, p, ns, nb, op, keep, .nil, fe, he, l, c⟩ p ns [.bool fe, encMembers ke, F, .bool he] A B) (.tup []) ((RsO.st sh (.kp s1))).H (fin ((RsO.st sh (.kp s1))).H) := by
 obtain ⟨e1, g1, p1, ns1, nb1, op1, keep1, fz1, fe1, he1, l1, c1⟩ := s1
 cases sh <;> cases l <;> cases b <;> cases fz1 <;> kernel_rfl
theorem h21xn (sh : Bool) (y : WR) (e g : Int) (p : Plan) (ns : List Alive) (nb : Bool) (op : LN Opn) (keep : List Member) (fe he : Bool) (l : List Ask) (c : CConf) (b : Bool) (m : Msg) : callT (env53 (kn53 (RsO.st sh (.en y)))) 20 F_coord_Handle [.agg (buV ⟨e, g, p, ns, nb, op, keep, .nil, fe, he, l, c⟩ b), .agg (encCf c), .agg (encMsg (kM m 21))] =
 gBuX1 ⟨e, g, p, ns, nb, op, keep, .nil, fe, he, l, c⟩ b fun p ns ke F A B => gCon F_coord_desk_reset (A1 m) (hpB ⟨e, g, p, ns, nb, op, keep, .nil, fe, he, l, c⟩ p ns [.bool fe, encMembers ke, F, .bool he] A B) (.tup []) ((RsO.st sh (.en y))).H (fin ((RsO.st sh (.en y))).H) := by
 cases sh <;> cases l <;> cases b <;> kernel_rfl
theorem h21an (s1 : ES) (b1 : Bool) (m1 : Msg) (e g : Int) (p : Plan) (ns : List Alive) (nb : Bool) (op : LN Opn) (keep : List Member) (fe he : Bool) (l : List Ask) (c : CConf) (b : Bool) (m : Msg) : callT (env53 (kn53 (RsO.an s1 b1 m1))) 20 F_coord_Handle [.agg (buV ⟨e, g, p, ns, nb, op, keep, .nil, fe, he, l, c⟩ b), .agg (encCf c), .agg (encMsg (kM m 21))] =
 gBuX1 ⟨e, g, p, ns, nb, op, keep, .nil, fe, he, l, c⟩ b fun p ns ke F A B => gCon F_coord_desk_reset (A1 m) (hpB ⟨e, g, p, ns, nb, op, keep, .nil, fe, he, l, c⟩ p ns [.bool fe, encMembers ke, F, .bool he] A B) (.tup []) ((RsO.an s1 b1 m1)).H (fin ((RsO.an s1 b1 m1)).H) := by
 obtain ⟨e1, g1, p1, ns1, nb1, op1, keep1, fz1, fe1, he1, l1, c1⟩ := s1
 cases l <;> cases b <;> cases b1 <;> cases fz1 <;> kernel_rfl
theorem h21ke (sh : Bool) (s1 : ES) (e g : Int) (p : Plan) (ns : List Alive) (nb : Bool) (op : LN Opn) (keep : List Member) (fe he : Bool) (l : List Ask) (c : CConf) (f : Msg) (fs : List Msg) (b : Bool) (m : Msg) : callT (env53 (kn53 (RsO.st sh (.kp s1)))) 20 F_coord_Handle [.agg (buV ⟨e, g, p, ns, nb, op, keep, .ne f fs, fe, he, l, c⟩ b), .agg (encCf c), .agg (encMsg (kM m 21))] =
 gBuX1 ⟨e, g, p, ns, nb, op, keep, .ne f fs, fe, he, l, c⟩ b fun p ns ke F A B => gCon F_coord_desk_reset (A1 m) (hpB ⟨e, g, p, ns, nb, op, keep, .ne f fs, fe, he, l, c⟩ p ns [.bool fe, encMembers ke, F, .bool he] A B) (.tup []) ((RsO.st sh (.kp s1))).H (fin ((RsO.st sh (.kp s1))).H) := by
 obtain ⟨e1, g1, p1, ns1, nb1, op1, keep1, fz1, fe1, he1, l1, c1⟩ := s1
 cases sh <;> cases l <;> cases b <;> cases fz1 <;> kernel_rfl
theorem h21xe (sh : Bool) (y : WR) (e g : Int) (p : Plan) (ns : List Alive) (nb : Bool) (op : LN Opn) (keep : List Member) (fe he : Bool) (l : List Ask) (c : CConf) (f : Msg) (fs : List Msg) (b : Bool) (m : Msg) : callT (env53 (kn53 (RsO.st sh (.en y)))) 20 F_coord_Handle [.agg (buV ⟨e, g, p, ns, nb, op, keep, .ne f fs, fe, he, l, c⟩ b), .agg (encCf c), .agg (encMsg (kM m 21))] =
 gBuX1 ⟨e, g, p, ns, nb, op, keep, .ne f fs, fe, he, l, c⟩ b fun p ns ke F A B => gCon F_coord_desk_reset (A1 m) (hpB ⟨e, g, p, ns, nb, op, keep, .ne f fs, fe, he, l, c⟩ p ns [.bool fe, encMembers ke, F, .bool he] A B) (.tup []) ((RsO.st sh (.en y))).H (fin ((RsO.st sh (.en y))).H) := by
 cases sh <;> cases l <;> cases b <;> kernel_rfl
theorem h21ae (s1 : ES) (b1 : Bool) (m1 : Msg) (e g : Int) (p : Plan) (ns : List Alive) (nb : Bool) (op : LN Opn) (keep : List Member) (fe he : Bool) (l : List Ask) (c : CConf) (f : Msg) (fs : List Msg) (b : Bool) (m : Msg) : callT (env53 (kn53 (RsO.an s1 b1 m1))) 20 F_coord_Handle [.agg (buV ⟨e, g, p, ns, nb, op, keep, .ne f fs, fe, he, l, c⟩ b), .agg (encCf c), .agg (encMsg (kM m 21))] =
 gBuX1 ⟨e, g, p, ns, nb, op, keep, .ne f fs, fe, he, l, c⟩ b fun p ns ke F A B => gCon F_coord_desk_reset (A1 m) (hpB ⟨e, g, p, ns, nb, op, keep, .ne f fs, fe, he, l, c⟩ p ns [.bool fe, encMembers ke, F, .bool he] A B) (.tup []) ((RsO.an s1 b1 m1)).H (fin ((RsO.an s1 b1 m1)).H) := by
 obtain ⟨e1, g1, p1, ns1, nb1, op1, keep1, fz1, fe1, he1, l1, c1⟩ := s1
 cases l <;> cases b <;> cases b1 <;> cases fz1 <;> kernel_rfl
theorem h21 (O : RsO) (s : ES) (b : Bool) (m : Msg) (hf : s.fz ≠ .emp) : eqH21 O s b m := by
 obtain ⟨e, g, p, ns, nb, op, keep, fz, fe, he, l, c⟩ := s
 cases fz with
 | emp => exact absurd rfl hf
 | nil => cases O with
  | st sh R => cases R with
   | kp s1 => exact h21kn sh s1 e g p ns nb op keep fe he l c b m
   | en y => exact h21xn sh y e g p ns nb op keep fe he l c b m
  | an s1 b1 m1 => exact h21an s1 b1 m1 e g p ns nb op keep fe he l c b m
 | ne f fs => cases O with
  | st sh R => cases R with
   | kp s1 => exact h21ke sh s1 e g p ns nb op keep fe he l c f fs b m
   | en y => exact h21xe sh y e g p ns nb op keep fe he l c f fs b m
  | an s1 b1 m1 => exact h21ae s1 b1 m1 e g p ns nb op keep fe he l c f fs b m
def askOf (m : Msg) : Ask := (m.src, m.num)
def isAsk (m : Msg) (a : Ask) : Bool := decide (a.1 = m.src) && decide (a.2 = m.num)
def afS (s : ES) (m : Msg) : ES := bif decide (s.p.phase = 1) && s.p.fresh then { s with p := rsP1 s.p m } else beginS { s with p := rsP1 s.p m } true
def askS (s : ES) (m : Msg) : ES := bif s.l.any (isAsk m) then s else { s with l := s.l ++ [askOf m] }
def isNo (s : ES) (m : Msg) : Bool := !decide (s.p.reset < m.num) && s.l.isEmpty && !(decide (s.p.phase = 1) && s.p.fresh)
def h21P (s : ES) (m : Msg) : ES × List Msg :=
 bif isNo s m then (s, [wasMg (askOf m)])
 else bif decide (s.p.reset < m.num) then endQ (afS (askS s m) m) else (askS s m, [])
def RofE (s : ES) : RH := bif mayE s then .en (wrE s (endP s).1 (endP s).2) else .kp s
theorem SubB.trans {x y z : BS} (h : SubB x y) (h' : SubB y z) : SubB x z := ⟨h'.non.trans h.non, h'.lv.trans h.lv, h'.mt.trans h.mt, fun w I φ B o sz a => h'.rb w I φ B o sz (h.rb w I φ B o sz a)⟩
theorem SubH.trans {x y z : Heap} (h : SubH x y) (h' : SubH y z) : SubH x z := ⟨h.1.trans h'.1, fun b => (h.2 b).trans (h'.2 b)⟩
theorem SubH.dd {sh : Bool} {x y : List BS} (h : SubH x y) : SubH (dd sh x) (dd sh y) := by
 cases sh with
 | false => exact h
 | true => exact .cons (.refl _) h
def hpL (s : ES) (P W : List AV) (sh : Bool) (l : List Ask) : Heap := hpR s P W (.sl 31 (3 + sft sh) 0 l.length 0) .nils (dd sh [blkA l])
def QOk (q : AQ) (l : List Ask) : Prop := ∀ (sh : Bool) (s : ES) (P W : List AV), SubH (q.hp sh s P W) (hpL s P W sh l)
theorem hpR_sub {s : ES} {P W W' : List AV} {A A' O : AV} {B B' : List BS} (h1 : SubF A A') (h2 : SubFs W W') (h3 : SubH B B') : SubH (hpR s P W A O B) (hpR s P W' A' O B') := by
 refine .cons (.arr1 ?_) (.cons (.refl _) (.cons (.arr1 h2) h3))
 exact .cons (.refl _) (.cons (.refl _) (.cons (.refl _) (.cons (.refl _) (.cons (.refl _) (.cons (.refl _) (.cons h1 (.refl _)))))))
theorem aqL_ok (l : List Ask) : QOk (aqL l) l := fun sh s P W => .refl _
theorem aq1_ok (m : Msg) : QOk (aq1 m) [askOf m] := fun sh s P W => by
 refine hpR_sub .slack (.refl _) (.dd (.cons ?_ (.refl _)))
 exact .arr_seq rfl rfl
theorem aqN_B (l : List Ask) (m : Msg) : (aqN l m).B = blkA (l ++ [askOf m]) := by
 have e : (fun k => bif k.blt l.length then encAsk (l.getD k (0, 0)) else bif k.blt (l.length + 1) then [encAsk (m.src, m.num)].getD (k - l.length) [] else encAsk (l.getD l.length (0, 0))) = fun k => encAsk ((l ++ [askOf m]).getD k (0, 0)) := by
  funext k
  by_cases h : k < l.length
  ·rw [blt_true h, cond_true]
   simp [List.getD, List.getElem?_append_left h]
  ·rw [blt_false' h, cond_false]
   by_cases h' : k = l.length
   ·subst h'
    rw [blt_true (by omega), cond_true]
    simp [List.getD, askOf]
   ·rw [blt_false' (by omega), cond_false]
    have h2 : (l ++ [askOf m]).length <= k := by simp; omega
    simp only [List.getD, List.getElem?_eq_none h2, List.getElem?_eq_none (Nat.le_refl l.length)]
 unfold aqN blkA
 dsimp only
 rw [e, List.length_append]
 rfl
theorem aqN_ok (l : List Ask) (m : Msg) : QOk (aqN l m) (l ++ [askOf m]) := fun sh s P W => by
 have : (aqN l m).hp sh s P W = hpL s P W sh (l ++ [askOf m]) := by
  unfold AQ.hp hpL
  rw [aqN_B, List.length_append]
  rfl
 rw [this]; exact .refl _
theorem end_CG {s : ES} (h : EOk s) (hn : s.nb = false) (ho : s.op = .nil) (hl : s.l ≠ []) {H : Heap} (hs : SubH H (hpL s (encPlan s.p) (wkA s) false s.l)) : CG F_coord_desk_end A0 H (.bool (RofE s).t) ((RofE s).H false) := by
 have e0 : hpL s (encPlan s.p) (wkA s) false s.l = hpEE s false := by
  obtain ⟨e, g, p, ns, nb, op, keep, fz, fe, he, l, c⟩ := s
  cases hn; cases ho
  cases l with
  | nil => exact absurd rfl hl
  | cons a t => rfl
 have := end_con (s := s) (b := false) h
 unfold oEnd at this
 rw [<- e0] at this
 have er : (RofE s).t = mayE s := by
  unfold RofE
  cases mayE s <;> rfl
 have eH : (bif mayE s then outE (wrE s (endP s).1 (endP s).2) false else hpL s (encPlan s.p) (wkA s) false s.l) = (RofE s).H false := by
  unfold RofE
  cases mayE s with
  | false => obtain ⟨e, g, p, ns, nb, op, keep, fz, fe, he, l, c⟩ := s; cases hn; rfl
  | true =>
   obtain ⟨e, g, p, ns, nb, op, keep, fz, fe, he, l, c⟩ := s
   cases hn; cases ho
   cases l with
   | nil => exact absurd rfl hl
   | cons a t => rfl
 rw [er, <- eH]
 refine ⟨Contract.inH this.1 (.refl _) hs, ?_⟩
 rw [hs.1]; exact this.2
theorem EOk.l' {s : ES} (h : EOk s) {l : List Ask} (hl : l.length <= 1000) : EOk { s with l := l } := ⟨h.ch, h.ns, h.keep, h.fz, h.ver, h.c1, h.c2, hl⟩
theorem EOk.rs {s : ES} (h : EOk s) (m : Msg) : EOk { s with p := rsP1 s.p m } := ⟨h.ch, h.ns, h.keep, h.fz, h.ver, h.c1, h.c2, h.l⟩
theorem EOk.begin {s : ES} (h : EOk s) : EOk (beginS s true) := by
 unfold beginS
 cases decide (1099511627776 <= s.p.epoch) with
 | true => exact h
 | false => exact ⟨h.ch, h.ns, Nat.zero_le _, Nat.zero_le _, (fun f hf => by cases hf), h.c1, h.c2, h.l⟩
theorem EOk.af {s : ES} (h : EOk s) (m : Msg) : EOk (afS s m) := by
 unfold afS
 cases decide (s.p.phase = 1) && s.p.fresh with
 | true => exact h.rs m
 | false => exact (h.rs m).begin
theorem afS_kp (s : ES) (m : Msg) : (afS s m).nb = s.nb /\ (afS s m).op = s.op /\ (afS s m).l = s.l := by
 unfold afS beginS
 cases decide (s.p.phase = 1) && s.p.fresh with
 | true => exact ⟨rfl, rfl, rfl⟩
 | false =>
  rw [cond_false]
  dsimp only
  cases decide (1099511627776 <= (rsP1 s.p m).epoch) <;> exact ⟨rfl, rfl, rfl⟩
theorem rsA_ok {sh : Bool} {q : AQ} {s : ES} {m : Msg} {l : List Ask} (h : EOk s) (hn : s.nb = false) (ho : s.op = .nil) (hq : QOk q l) (hl : l ≠ []) (hl2 : l.length <= 1000) :
  ∃ H, rsA (RofE (afS { s with l := l } m)) sh q s m (decide (s.p.phase = 1)) = some (.tup [], H) /\ SubH H ((bif decide (s.p.reset < m.num) then RofE (afS { s with l := l } m) else .kp { s with l := l }).H sh) := by
 have h1 := h.l' hl2
 have h3 := h1.af m
 obtain ⟨k1, k2, k3⟩ := afS_kp { s with l := l } m
 have k1 : (afS { s with l := l } m).nb = false := k1.trans hn
 have k2 : (afS { s with l := l } m).op = .nil := k2.trans ho
 have k3 : (afS { s with l := l } m).l = l := k3
 unfold rsA
 cases decide (s.p.reset < m.num) with
 | false => exact ⟨_, rfl, hq sh s (encPlan s.p) (wkA s)⟩
 | true =>
  rw [Bool.not_true, cond_false, cond_true]
  have core : ∀ (p : Plan) (W : List AV), SubH (q.hp false s (encPlan p) W) (hpL (afS { s with l := l } m) (encPlan (afS { s with l := l } m).p) (wkA (afS { s with l := l } m)) false (afS { s with l := l } m).l) ->
    ∃ H, rsT (RofE (afS { s with l := l } m)) sh q s p W = some (.tup [], H) /\ SubH H ((RofE (afS { s with l := l } m)).H sh) := by
   intro p W hs
   have e := end_CG h3 k1 k2 (by rw [k3]; exact hl) hs
   unfold rsT
   rw [gCon_eq e]
   exact ⟨_, rfl, .refl _⟩
  have hS : ∀ (p : Plan) (W : List AV) (s3 : ES), s3.e = s.e -> s3.g = s.g -> s3.ns = s.ns -> s3.c = s.c -> s3.p = p -> s3.l = l -> SubFs W (wkA s3) -> SubH (q.hp false s (encPlan p) W) (hpL s3 (encPlan s3.p) (wkA s3) false s3.l) := by
   intro p W s3 a1 a2 a3 a4 a5 a6 a7
   refine (hq false s (encPlan p) W).trans ?_
   unfold hpL hpR
   rw [a1, a2, a3, a4, a5, a6]
   exact .cons (.refl _) (.cons (.refl _) (.cons (.arr1 a7) (.refl _)))
  have hB : (decide (s.p.phase = 1) && s.p.fresh) = false -> ∃ H, rsB (RofE (afS { s with l := l } m)) sh q s m = some (.tup [], H) /\ SubH H ((RofE (afS { s with l := l } m)).H sh) := by
   intro hf
   have ea : afS { s with l := l } m = beginS { s with l := l, p := rsP1 s.p m } true := by
    unfold afS
    have : (decide (({ s with l := l } : ES).p.phase = 1) && ({ s with l := l } : ES).p.fresh) = false := hf
    rw [this]; rfl
   unfold rsB
   cases hM : decide (1099511627776 <= s.p.epoch) with
   | true =>
    have ea2 : afS { s with l := l } m = { s with l := l, p := rsP1 s.p m } := by
     rw [ea]; unfold beginS
     have : decide (1099511627776 <= ({ s with l := l, p := rsP1 s.p m } : ES).p.epoch) = true := hM
     rw [this]; rfl
    refine core _ _ (hS _ _ _ ?_ ?_ ?_ ?_ ?_ ?_ ?_) <;> rw [ea2]
    exact .refl _
   | false =>
    have ea2 : afS { s with l := l } m = wkS { s with l := l, p := rsP1 s.p m } (begP (rsP1 s.p m) true) [] := by
     rw [ea]; unfold beginS
     have : decide (1099511627776 <= ({ s with l := l, p := rsP1 s.p m } : ES).p.epoch) = false := hM
     rw [this]; rfl
    refine core _ _ (hS _ _ _ ?_ ?_ ?_ ?_ ?_ ?_ ?_) <;> rw [ea2]
    ·rfl
    ·rfl
    ·rfl
    ·rfl
    ·rfl
    ·rfl
    ·exact wk0_subF _ _
  have hT : (decide (s.p.phase = 1) && s.p.fresh) = true -> ∃ H, rsT (RofE (afS { s with l := l } m)) sh q s (rsP1 s.p m) (wkA s) = some (.tup [], H) /\ SubH H ((RofE (afS { s with l := l } m)).H sh) := by
   intro hf
   have ea2 : afS { s with l := l } m = { s with l := l, p := rsP1 s.p m } := by
    unfold afS
    have : (decide (({ s with l := l } : ES).p.phase = 1) && ({ s with l := l } : ES).p.fresh) = true := hf
    rw [this]; rfl
   refine core _ _ (hS _ _ _ ?_ ?_ ?_ ?_ ?_ ?_ ?_) <;> rw [ea2]
   exact .refl _
  cases hp : decide (s.p.phase = 1) with
  | false =>
   rw [hp] at hB
   exact hB rfl
  | true =>
   rw [hp] at hB hT
   rw [cond_true]
   unfold rsE
   cases hfr : s.p.fresh with
   | false => rw [hfr] at hB; exact hB rfl
   | true => rw [hfr] at hT; exact hT rfl
def shO (s : ES) (b : Bool) (m : Msg) : Bool := bif s.l.isEmpty then b else !s.l.any (isAsk m)
def h21O (s : ES) (b : Bool) (m : Msg) : RsO := bif isNo s m then .an s b m else .st (shO s b m) (bif decide (s.p.reset < m.num) then RofE (afS (askS s m) m) else .kp (askS s m))
theorem reset_0 {s : ES} {b : Bool} {m : Msg} (h : EOk s) (hn : s.nb = false) (ho : s.op = .nil) (hl : s.l = []) : CG F_coord_desk_reset (A1 m) (hpR s (encPlan s.p) (wkA s) (qE b 3) .nils (bE b)) (.tup []) (h21O s b m).H := by
 have ha : askS s m = { s with l := [askOf m] } := by
  unfold askS; rw [hl]; rfl
 obtain ⟨H, r1, r2⟩ := rsA_ok (sh := b) h hn ho (aq1_ok m) (List.cons_ne_nil _ _) (by simp)
 rw [<- ha] at r1 r2
 have e := rs_0 (RofE (afS (askS s m) m)) s b m
 have hsh : shO s b m = b := by unfold shO; rw [hl]; rfl
 have k1 : isNo s m = false -> (h21O s b m).H = (bif decide (s.p.reset < m.num) then RofE (afS (askS s m) m) else .kp (askS s m)).H b := by
  intro hi
  unfold h21O
  rw [hi, hsh]; rfl
 have k2 : isNo s m = true -> (h21O s b m).H = hpN1 s b m := by
  intro hi
  unfold h21O
  rw [hi]; rfl
 have fin1 : isNo s m = false -> callH (envK2 (kn52 (RofE (afS (askS s m) m)))) 20 F_coord_desk_reset (A1 m) (hpR s (encPlan s.p) (wkA s) (qE b 3) .nils (bE b)) = some (.tup [], H) -> CG F_coord_desk_reset (A1 m) (hpR s (encPlan s.p) (wkA s) (qE b 3) .nils (bE b)) (.tup []) (h21O s b m).H := by
  intro hi he
  have := conK2H (kn52_ok _) he
  rw [k1 hi]
  exact ⟨Contract.outH this.1 r2, by rw [<- r2.1]; exact this.2⟩
 have fin2 : isNo s m = true -> callH (envK2 (kn52 (RofE (afS (askS s m) m)))) 20 F_coord_desk_reset (A1 m) (hpR s (encPlan s.p) (wkA s) (qE b 3) .nils (bE b)) = rsN s b m -> CG F_coord_desk_reset (A1 m) (hpR s (encPlan s.p) (wkA s) (qE b 3) .nils (bE b)) (.tup []) (h21O s b m).H := by
  intro hi he
  have := conK2H (kn52_ok _) he
  rw [k2 hi]
  exact this
 have hN : isNo s m = (!decide (s.p.reset < m.num) && !(decide (s.p.phase = 1) && s.p.fresh)) := by
  unfold isNo; rw [hl]
  cases decide (s.p.reset < m.num) <;> rfl
 cases hp : decide (s.p.phase = 1) with
 | true =>
  rw [hp, cond_true] at e
  rw [hp] at r1
  cases hab : decide (s.p.reset < m.num) with
  | true =>
   rw [hab] at e
   exact fin1 (by rw [hN, hab]; rfl) (e.trans r1)
  | false =>
   rw [hab] at e
   cases hfr : s.p.fresh with
   | false =>
    rw [hfr] at e
    exact fin2 (by rw [hN, hab, hp, hfr]; rfl) e
   | true =>
    rw [hfr] at e
    exact fin1 (by rw [hN, hab, hp, hfr]; rfl) (e.trans r1)
 | false =>
  rw [hp, cond_false] at e
  rw [hp] at r1
  cases hab : decide (s.p.reset < m.num) with
  | true =>
   rw [hab] at e
   exact fin1 (by rw [hN, hab]; rfl) (e.trans r1)
  | false =>
   rw [hab] at e
   exact fin2 (by rw [hN, hab, hp]; rfl) e
theorem rs_run (R : RH) (N : Nat) (s : ES) (m : Msg) (hl : s.l.length <= 1000) : ∀ d i j (sm : Bool), i + d = s.l.length -> d < j -> LRs R N s m j true sm (i : Nat) = rsZ R s m (sm || (s.l.drop i).any (isAsk m)) := by
 intro d
 induction d with
 | zero =>
  intro i j sm hi hj
  obtain ⟨j, rfl⟩ : ∃ k, j = k + 1 := ⟨j - 1, by omega⟩
  rw [rs_st, decide_eq_false (by omega), cond_false, List.drop_eq_nil_of_le (by omega), List.any_nil, Bool.or_false]
 | succ d ih =>
  intro i j sm hi hj
  obtain ⟨j, rfl⟩ : ∃ k, j = k + 1 := ⟨j - 1, by omega⟩
  have hil : i < s.l.length := by omega
  rw [rs_st, decide_eq_true (by omega), cond_true, rg_eq hil, Int.toNat_natCast, Nat.zero_add, blt_true hil, cond_true, wrapS (by omega), drop_cons (z := (0, 0)) hil, List.any_cons]
  have i1 := fun sm => ih (i + 1) j sm (by omega) (by omega)
  cases sm with
  | true => rw [cond_true, i1, Bool.true_or, Bool.true_or]
  | false =>
   rw [cond_false, Bool.false_or]
   unfold isAsk at i1 ⊢
   cases decide ((s.l.getD i (0, 0)).1 = m.src) with
   | false => rw [cond_false, i1, Bool.false_and]
   | true => rw [cond_true, i1, Bool.true_and]
theorem rs_run0 (R : RH) (N : Nat) (s : ES) (m : Msg) (hl : s.l.length <= 1000) (hne : s.l ≠ []) (hN : s.l.length <= N) : callH (envK2 (kn52 R)) (N + 10) F_coord_desk_reset (A1 m) (hpQ2 s) = rsW R s m (s.l.any (isAsk m)) (decide (s.p.phase = 1)) := by
 have hp : 0 < s.l.length := List.length_pos_iff.2 hne
 have hz : ∀ sm, rsZ R s m sm = rsW R s m sm (decide (s.p.phase = 1)) := by
  intro sm
  unfold rsZ
  cases decide (s.p.phase = 1) <;> cases decide (s.p.reset < m.num) <;> rfl
 have h0 : s.l.any (isAsk m) = (isAsk m (s.l.getD 0 (0, 0)) || (s.l.drop 1).any (isAsk m)) := by
  have := drop_cons (z := (0, 0)) hp
  rw [List.drop_zero] at this
  conv => lhs; rw [this]
  rw [List.any_cons]
 have r := fun sm => rs_run R N s m hl (s.l.length - 1) 1 (N + 8) sm (by omega) (by omega)
 have e1 : IntKind.i64.wrap ((0 : Int) + 1) = ((1 : Nat) : Int) := by decide
 rw [rs_in, rs_st0, decide_eq_true (by omega), cond_true]
 have e2 : ∀ K : Option (AV × Heap), rg (0 : Int) s.l.length K = K := fun K => rg_eq (i := 0) hp
 rw [e2, show (0 + (0 : Int).toNat) = 0 from rfl, blt_true hp, cond_true, e1, r, r, hz, hz, h0]
 unfold isAsk
 cases decide ((s.l.getD 0 (0, 0)).1 = m.src) with
 | false => rw [cond_false, Bool.false_and]
 | true => rw [cond_true, Bool.true_and]
theorem reset_n {s : ES} {b : Bool} {m : Msg} (h : EOk s) (hn : s.nb = false) (ho : s.op = .nil) (hl : s.l ≠ []) (hlt : s.l.length < 1000) : CG F_coord_desk_reset (A1 m) (hpQ2 s) (.tup []) (h21O s b m).H := by
 have he : s.l.isEmpty = false := by cases hx : s.l with
  | nil => exact absurd hx hl
  | cons a t => rfl
 have hi : isNo s m = false := by unfold isNo; rw [he, Bool.and_false, Bool.false_and]
 have hO : (h21O s b m).H = (bif decide (s.p.reset < m.num) then RofE (afS (askS s m) m) else .kp (askS s m)).H (!s.l.any (isAsk m)) := by
  unfold h21O shO
  rw [hi, he]; rfl
 have e := rs_run0 (RofE (afS (askS s m) m)) 1000 s m (by omega) hl (by omega)
 rw [hO]
 unfold rsW at e
 cases hsm : s.l.any (isAsk m) with
 | true =>
  have ha : askS s m = s := by unfold askS; rw [hsm]; rfl
  obtain ⟨H, r1, r2⟩ := rsA_ok (sh := false) (m := m) h hn ho (aqL_ok s.l) hl (by omega)
  have es : ({ s with l := s.l } : ES) = s := rfl
  rw [hsm, ha] at e
  have := conK2H (kn52_ok _) (e.trans r1)
  rw [ha]
  exact ⟨Contract.outH this.1 r2, by rw [show (!true) = false from rfl, <- r2.1]; exact this.2⟩
 | false =>
  have ha : askS s m = { s with l := s.l ++ [askOf m] } := by unfold askS; rw [hsm]; rfl
  obtain ⟨H, r1, r2⟩ := rsA_ok (sh := true) (m := m) h hn ho (aqN_ok s.l m) (by simp) (by rw [List.length_append]; simp; omega)
  rw [hsm, ha, Bool.not_false, cond_true, room1_eq (by omega) (by omega)] at e
  have := conK2H (kn52_ok _) (e.trans r1)
  rw [ha]
  exact ⟨Contract.outH this.1 r2, by rw [show (!false) = true from rfl, <- r2.1]; exact this.2⟩
theorem fin_kpE (s : ES) (sh : Bool) : fin ((RH.kp s).H sh) = bif gU0 s.l.length && true && true then some (.tup [.agg [.int .i64 s.e, .int .i64 s.g, .trl 8 [encPlan s.p], encAlives s.ns, .trl 4 [wkA s], .nils, encAsks s.l], .nils]) else none := by
 obtain ⟨e, g, p, ns, nb, op, keep, fz, fe, he, l, c⟩ := s
 cases sh <;> cases fz <;> rfl
theorem fin_kp (s : ES) (sh : Bool) : ∃ v, fin ((RH.kp s).H sh) = some v /\ SubV v (ansB (s, [])) := by
 have e := fin_kpE s sh
 rw [gU0_eq] at e
 exact ⟨_, e, .tup (.cons (.refl _) (.cons nilsL .nil))⟩
theorem fin_enE (y : WR) (sh : Bool) : fin ((RH.en y).H sh) = bif true && (gUL (y.l.length + 1) && true) then some (.tup [.agg [.int .i64 y.e, .int .i64 y.g, .trl 8 [encPlan y.p], encAlives y.ns, .trl 4 [wk0], .nils, .tr 31 0 fun i => bif (i + 0).blt (0 + y.l.length) then zMsgC else encAsk (y.l.getD (i + 0) (0, 0))], .tr 31 (y.l.length + 1) fun i => canF idC [] (actC y.p :: y.l.map ansC) (i + 0)]) else none := by
 obtain ⟨e, g, p, ns, nb, op, l, c⟩ := y
 cases sh <;> rfl
theorem fin_en (s : ES) (g : Int) (p : Plan) (sh : Bool) : ∃ v, fin ((RH.en (wrE s g p)).H sh) = some v /\ SubV v (ansB ({ s with g := g, p := p, fe := false, keep := [], fz := .nil, he := false, l := [] }, outMs p s.l)) := by
 have e := fin_enE (wrE s g p) sh
 rw [gUL_eq] at e
 have hw : SubV (.trl 4 [wk0]) (.trl 4 [wkA { s with g := g, p := p, fe := false, keep := [], fz := .nil, he := false, l := [] }]) := one_trl (wk0_sub _ rfl rfl rfl rfl)
 refine ⟨_, e, .tup (.cons (.agg (.cons (.refl _) (.cons (.refl _) (.cons (.refl _) (.cons (.refl _) (.cons hw (.cons (.refl _) (.cons ?_ .nil)))))))) (.cons (outs_sub p s.l) .nil))⟩
 exact SubV.trs fun i hi => absurd hi (Nat.not_lt_zero i)
theorem fin_an {s : ES} {b : Bool} {m : Msg} (hl : s.l = []) : ∃ v, fin (hpN1 s b m) = some v /\ SubV v (ansB (s, [wasMg (askOf m)])) := by
 refine ⟨.tup [.agg [.int .i64 s.e, .int .i64 s.g, .trl 8 [encPlan s.p], encAlives s.ns, .trl 4 [wkA s], .nils, aqV b], .trl 31 [ansC (askOf m)]], ?_, ?_⟩
 ·obtain ⟨e, g, p, ns, nb, op, keep, fz, fe, he, l, c⟩ := s
  cases b <;> cases fz <;> rfl
 ·have hq : SubV (aqV b) (encAsks s.l) := by rw [hl]; exact aqV_ask b
  refine .tup (.cons (.agg (.cons (.refl _) (.cons (.refl _) (.cons (.refl _) (.cons (.refl _) (.cons (.refl _) (.cons (.refl _) (.cons hq .nil)))))))) (.cons ?_ .nil))
  exact SubV.trans (one_trl (was_sub _)) (SubV.trl_encL (e := encMsg) (z := default) [wasMg (askOf m)])
theorem fin_O21 {s : ES} {b : Bool} {m : Msg} : ∃ v, fin (h21O s b m).H = some v /\ SubV v (ansB (h21P s m)) := by
 unfold h21O h21P
 cases hi : isNo s m with
 | true =>
  have hl : s.l = [] := by
   unfold isNo at hi
   rw [Bool.and_eq_true, Bool.and_eq_true] at hi
   exact List.isEmpty_iff.1 hi.1.2
  exact fin_an hl
 | false =>
  rw [cond_false, cond_false]
  cases decide (s.p.reset < m.num) with
  | false => exact fin_kp _ _
  | true =>
   rw [cond_true, cond_true]
   unfold RofE endQ
   cases mayE (afS (askS s m) m) with
   | false => exact fin_kp _ _
   | true => exact fin_en _ _ _ _
theorem gBuX1_eq {R : Type} {s : ES} {b : Bool} {K : Plan -> List Alive -> List Member -> AV -> AV -> List BS -> Option R} (h : HOk s) : gBuX1 s b K = match s.l with
  | [] => K s.p s.ns s.keep (fzV s.fz) (qE b 3) (bE b)
  | _ :: _ => K s.p s.ns s.keep (fzV s.fz) (.sl 31 3 0 s.l.length 0) [blkA s.l] := by
 have h1 := h.eok.ch
 have h2 := h.val
 have h3 := h.eok.ns
 have h4 := h.eok.keep
 unfold gBuX1
 rw [gMs_eq _ (by unfold shortL LB; omega), gMs_eq _ (by unfold shortL LB; omega), gAls_eq h3, gMs_eq _ (by unfold shortL LB; omega), gFzV_eq h.eok.fz h.cp]
 unfold gAkX
 cases hx : s.l with
 | nil => rfl
 | cons a t =>
  have hl := h.eok.l
  rw [hx] at hl
  have hp : pAk (a :: t) := ⟨Nat.le_trans hl (by omega), List.cons_ne_nil _ _⟩
  exact qAk (k := fun y => K s.p s.ns s.keep (fzV s.fz) (.sl 31 3 0 y.length 0) [blkA y]) hp
theorem h21_con {s : ES} {m : Msg} (h : HOk s) (hf : s.fz ≠ .emp) (hl : s.l.length < 1000) : Contract PG F_coord_Handle [.agg (buT s), .agg (encCf s.c), .agg (encMsg (kM m 21))] [] (ansB (h21P s m)) [] := con_bu fun b => by
 have e := h21 (h21O s b m) s b m hf
 unfold eqH21 at e
 obtain ⟨v, f1, f2⟩ := fin_O21 (s := s) (b := b) (m := m)
 rw [gBuX1_eq h] at e
 cases hx : s.l with
 | nil =>
  have c := reset_0 (b := b) (m := m) h.eok h.nb h.op hx
  rw [hx] at e
  have e : callT (env53 (kn53 (h21O s b m))) 20 F_coord_Handle [.agg (buV s b), .agg (encCf s.c), .agg (encMsg (kM m 21))] = gCon F_coord_desk_reset (A1 m) (hpR s (encPlan s.p) (wkA s) (qE b 3) .nils (bE b)) (.tup []) (h21O s b m).H (fin (h21O s b m).H) := e
  rw [gCon_eq c, f1] at e
  exact (con53 (kn53_ok _) e).res f2
 | cons a t =>
  have hne : s.l ≠ [] := by rw [hx]; exact List.cons_ne_nil _ _
  have c := reset_n (b := b) (m := m) h.eok h.nb h.op hne hl
  have e : callT (env53 (kn53 (h21O s b m))) 20 F_coord_Handle [.agg (buV s b), .agg (encCf s.c), .agg (encMsg (kM m 21))] = gCon F_coord_desk_reset (A1 m) (hpQ2 s) (.tup []) (h21O s b m).H (fin (h21O s b m).H) := by
   rw [e]
   have : ∀ (A B : Option AV), (match s.l with | [] => A | _ :: _ => B) = B := by rw [hx]; exact fun A B => rfl
   exact this _ _
  rw [gCon_eq c, f1] at e
  exact (con53 (kn53_ok _) e).res f2
def kMsgBX : Known := { f := F_twin_Msgs, ans := fun args hp => match isEmpT (args.getD 0 .undef) with
 | true => match args, hp with
  | [_], [] => some { X := Unit, g := true, a := (), r := fun _ => (.sl 31 0 0 0 0, [.arr true 31 []]) }
  | _, _ => none
 | false => kMsgs.ans args hp }
theorem kMsgBX_ok : kMsgBX.Ok PG := by
 intro args hp A e hg
 unfold kMsgBX at e
 simp only [] at e
 cases hE : isEmpT (args.getD 0 .undef) with
 | true =>
  rw [hE] at e
  simp only [] at e
  split at e
  ·rename_i v
   cases e
   have : v = .trl 31 [] := isEmpT_eq hE
   subst this
   exact conC2H ank emp_blk
  ·cases e
 | false => rw [hE] at e; exact kMsgs_ok args hp A e hg
def knX2 : List Known := [kMsgBX, kCloA, kCloN]
theorem knX2_ok : ∀ k ∈ knX2, k.Ok PG := ak kMsgBX_ok (ak kCloA_ok (ak kCloN_ok ank))
def knX3 : List Known := [kMsgBX, kCloN]
theorem knX3_ok : ∀ k ∈ knX3, k.Ok PG := ak kMsgBX_ok (ak kCloN_ok ank)
def gA2X {R : Type} (l : List Ask) (b : Bool) (q : Nat) (K : AV -> List BS -> Option R) : Option R := match l with
 | [] => K (qE b q) (bE b)
 | a :: t => gC dAk pAk eAk [encAsks (a :: t)] fun y => K (.sl 31 q 0 y.length 0) [blkA y]
def gB2X {R : Type} (d : ND) (s : ES) (b : Bool) (K : AV -> List BS -> AV -> List BS -> AV -> List BS -> AV -> List BS -> AV -> List BS -> AV -> List BS -> Option R) : Option R :=
 gB2 s.p.chain 1 fun c C => gB2 s.p.valid (1 + oM s.p.chain) fun v V => gN2 d s.ns (1 + oM s.p.chain + oM s.p.valid) fun N Nb => gB2 s.keep (1 + oM s.p.chain + oM s.p.valid + oD d + 1) fun k Kb =>
  gF2 s.fz (1 + oM s.p.chain + oM s.p.valid + oD d + 1 + oM s.keep) fun F Fb => gA2X s.l b (1 + oM s.p.chain + oM s.p.valid + oD d + 1 + oM s.keep + oF s.fz) fun A Ab => K c C v V N Nb k Kb F Fb A Ab
theorem bx_blk (s : ES) (b : Bool) (hne : s.ns ≠ []) (hf : s.fz ≠ .emp) : callH (envN2 knX2) 20 F_twin_Bureau [.agg (buD .blk s b)] [] = gB2X .blk s b (oB2s .blk s) := by
 obtain ⟨e, g, p, ns, nb, op, keep, fz, fe, he, l, cf⟩ := s
 obtain ⟨p1, p2, p3, p4, p5, p6, ch, va⟩ := p
 cases ns with
 | nil => exact absurd rfl hne
 | cons n0 nt => cases fz with
  | emp => exact absurd rfl hf
  | nil => cases ch <;> cases va <;> cases keep <;> cases l <;> cases b <;> kernel_rfl
  | ne f fs => cases ch <;> cases va <;> cases keep <;> cases l <;> cases b <;> kernel_rfl
theorem bx_emp (n : Bool) (s : ES) (b : Bool) (hf : s.fz ≠ .emp) : callH (envN3 knX3) 20 F_twin_Bureau [.agg (buD (.emp n) s b)] [] = gB2X (.emp n) s b (oB2s (.emp n) s) := by
 obtain ⟨e, g, p, ns, nb, op, keep, fz, fe, he, l, cf⟩ := s
 obtain ⟨p1, p2, p3, p4, p5, p6, ch, va⟩ := p
 cases fz with
 | emp => exact absurd rfl hf
 | nil => cases n <;> cases ch <;> cases va <;> cases keep <;> cases l <;> cases b <;> kernel_rfl
 | ne f fs => cases n <;> cases ch <;> cases va <;> cases keep <;> cases l <;> cases b <;> kernel_rfl
def aCX (q : Nat) (b : Bool) : List Ask -> AV
 | [] => qE b q
 | a :: t => .sl 31 q 0 (a :: t).length 0
def aBlX (b : Bool) : List Ask -> List BS
 | [] => bE b
 | a :: t => [blkA (a :: t)]
def aBsX (b : Bool) : List Ask -> BS
 | [] => bif b then .arr true 31 [] else .none
 | a :: t => blkA (a :: t)
theorem gA2X_eq {R : Type} {l : List Ask} {b : Bool} {q : Nat} {K : AV -> List BS -> Option R} (h : l.length <= 1000) : gA2X l b q K = K (aCX q b l) (aBlX b l) := by
 cases l with
 | nil => rfl
 | cons a t => exact qAk ⟨Nat.le_trans h (by omega), List.cons_ne_nil _ _⟩
def resX (d : ND) (s : ES) (b : Bool) : AV := .agg [.int .i64 s.e, .int .i64 s.g, .sl 8 0 0 1 1, nC d 3 s.ns, .sl 4 4 0 1 1, .nils, aCX 7 b s.l]
def hpX8 (d : ND) (s : ES) (b : Bool) : Heap := [.arr true 8 [plC2 s.p (mC 1 s.p.chain) (mC 2 s.p.valid)], mBs s.p.chain, mBs s.p.valid, nBs d s.ns, .arr true 4 [[.bool s.fe, mC 5 s.keep, fC 6 s.fz, .bool s.he]], mBs s.keep, fBs s.fz, aBsX b s.l]
def isAX (b : Bool) : List Ask -> Bool
 | [] => b
 | _ => true
def idsX (d : ND) (s : ES) (b : Bool) : List Nat := idB [] 0 [true, isMm s.p.chain, isMm s.p.valid, isDd d, true, isMm s.keep, isFf s.fz, isAX b s.l]
def flX (d : ND) (s : ES) (b : Bool) : AV × Heap :=
 (.agg [.int .i64 s.e, .int .i64 s.g, .sl 8 0 0 1 1, nC d (1 + oM s.p.chain + oM s.p.valid) s.ns, .sl 4 (1 + oM s.p.chain + oM s.p.valid + oD d) 0 1 1, .nils, aCX (1 + oM s.p.chain + oM s.p.valid + oD d + 1 + oM s.keep + oF s.fz) b s.l],
  .arr true 8 [plC2 s.p (mC 1 s.p.chain) (mC (1 + oM s.p.chain) s.p.valid)] :: (mBl s.p.chain ++ (mBl s.p.valid ++ (nBl d s.ns ++ (.arr true 4 [[.bool s.fe, mC (1 + oM s.p.chain + oM s.p.valid + oD d + 1) s.keep, fC (1 + oM s.p.chain + oM s.p.valid + oD d + 1 + oM s.keep) s.fz, .bool s.he]] :: (mBl s.keep ++ (fBl s.fz ++ aBlX b s.l)))))))
theorem flX_eq (s : ES) (b : Bool) : distB (idsX .blk s b) = true /\ reB (idsX .blk s b) (flX .blk s b) = (resX .blk s b, hpX8 .blk s b) := by
 obtain ⟨e, g, p, ns, nb, op, keep, fz, fe, he, l, cf⟩ := s
 obtain ⟨p1, p2, p3, p4, p5, p6, ch, va⟩ := p
 cases ch <;> cases va <;> cases keep <;> cases fz <;> cases l <;> cases b <;> exact ⟨by kernel_rfl, by kernel_rfl⟩
theorem flX_eqE (n : Bool) (s : ES) (b : Bool) : distB (idsX (.emp n) s b) = true /\ reB (idsX (.emp n) s b) (flX (.emp n) s b) = (resX (.emp n) s b, hpX8 (.emp n) s b) := by
 obtain ⟨e, g, p, ns, nb, op, keep, fz, fe, he, l, cf⟩ := s
 obtain ⟨p1, p2, p3, p4, p5, p6, ch, va⟩ := p
 cases n <;> cases ch <;> cases va <;> cases keep <;> cases fz <;> cases l <;> cases b <;> exact ⟨by kernel_rfl, by kernel_rfl⟩
theorem burX_con {d : ND} {s : ES} {b : Bool} (h : BOk d s) (hf : s.fz ≠ .emp) : Contract PG F_twin_Bureau [.agg (buD d s b)] [] (resX d s b) (hpX8 d s b) := by
 have h1 := h.eok.ch
 have h2 := h.val
 have h3 := h.eok.ns
 have h4 := h.eok.keep
 have hc : Contract PG F_twin_Bureau [.agg (buD d s b)] [] (flX d s b).1 (flX d s b).2 /\ distB (idsX d s b) = true /\ reB (idsX d s b) (flX d s b) = (resX d s b, hpX8 d s b) := by
  cases d with
  | blk =>
   have hne : s.ns ≠ [] := by
    rcases h.nd with x | x
    ·exact x.2
    ·exact absurd rfl x.1
   have e := bx_blk s b hne hf
   unfold gB2X at e
   rw [gB2_eq (by omega), gB2_eq h2, gN2_eq h3 (fun _ => hne), gB2_eq (by omega), gF2_eq h.eok.fz h.cp, gA2X_eq h.eok.l] at e
   exact ⟨(conN2H knX2_ok e).1, flX_eq s b⟩
  | emp n =>
   have e := bx_emp n s b hf
   unfold gB2X at e
   rw [gB2_eq (by omega), gB2_eq h2, gN2_eq h3 (fun x => by cases x), gB2_eq (by omega), gF2_eq h.eok.fz h.cp, gA2X_eq h.eok.l] at e
   exact ⟨(conN3H knX3_ok e).1, flX_eqE n s b⟩
 obtain ⟨c1, c2, c3⟩ := hc
 have := c1.renum (distB_ok c2)
 have e1 : ren (fun i => indexOf i (idsX d s b) 0) (flX d s b).1 = resX d s b := congrArg Prod.fst c3
 have e2 : reheap (idsX d s b) (hget (flX d s b).2) = hpX8 d s b := congrArg Prod.snd c3
 rwa [e1, e2] at this
def mkN : AV -> AV
 | .tup [.agg [_, _, _, N, _, _, _], _] => .tup [.agg [.undef, .undef, .undef, N, .undef, .undef, .undef], .undef]
 | _ => .undef
def kN0 (r : AV) (h : Heap) : Option (AV × Heap) := hnK 0 (mkN r) h
def finN (H : Heap) : Option (AV × Heap) := kN0 (.tup [.agg ((cell0 H 0).take 7), (cell0 H 0).getD 22 .undef]) H
def bdH : Code := bodyOf (env53 []) F_coord_Handle
def CH0 : Code := sub bdH [.L]
def CH1 : Code := sub bdH [.R, .L]
def CHr : Code := sub bdH [.R, .R]
theorem bdH_eq : bdH = .seq CH0 (.seq CH1 CHr) := by kernel_rfl
def S0H (d : ND) (s : ES) (b : Bool) (m : Msg) : St := { fr := mkFrame 0 [.agg (buD d s b), .agg (encCf s.c), .agg (encMsg (kM m 21))], hp := [] }
def S1H (d : ND) (s : ES) (b : Bool) (m : Msg) : St := { fr := [(3, .ptr 0 0 0), (4, .ptr 1 0 0), (5, .ptr 2 0 0), (6, .ptr 3 0 0), (7, .nils)], hp := [.arr true 7 [buD d s b], .arr true 15 [encCf s.c], .arr true 31 [encMsg (kM m 21)], .arr true 7 [z7]] }
theorem hd_p0 (d : ND) (s : ES) (b : Bool) (m : Msg) : evC (env53 []) (evFn (env53 []) 0) F_coord_Handle 36 0 0 0 CH0 (kSel [3, 4, 5, 6, 7]) (S0H d s b m) = some (S1H d s b m) := by
 obtain ⟨e, g, p, ns, nb, op, keep, fz, fe, he, l, cf⟩ := s
 kernel_rfl
def S2H (d : ND) (s : ES) (b : Bool) (m : Msg) : St := { fr := [(5, .ptr 2 0 0), (6, .ptr 3 0 0), (7, .nils), (8, .ptr 12 0 0)], hp := [.arr true 7 [buD d s b], .arr true 15 [encCf s.c], .arr true 31 [encMsg (kM m 21)], .arr true 7 [z7],
 .arr true 8 [plC2 s.p (mC 5 s.p.chain) (mC 6 s.p.valid)], mBs s.p.chain, mBs s.p.valid, nBs d s.ns, .arr true 4 [[.bool s.fe, mC 9 s.keep, fC 10 s.fz, .bool s.he]], mBs s.keep, fBs s.fz, aBsX b s.l,
 .arr true 23 [dsk s.e s.g (.sl 8 4 0 1 1) (nC d 7 s.ns) (.sl 4 8 0 1 1) .nils (aCX 11 b s.l) s.c .nils]] }
theorem hd_p1 (d : ND) (s : ES) (b : Bool) (m : Msg) : evC (env53 [kCon F_twin_Bureau (resX d s b) (hpX8 d s b)]) (evFn (env53 [kCon F_twin_Bureau (resX d s b) (hpX8 d s b)]) 0) F_coord_Handle 36 0 0 0 CH1 (kSel [5, 6, 7, 8]) (S1H d s b m) =
  gCon F_twin_Bureau [.agg (buD d s b)] [] (resX d s b) (hpX8 d s b) (some (S2H d s b m)) := by
 obtain ⟨e, g, p, ns, nb, op, keep, fz, fe, he, l, cf⟩ := s
 obtain ⟨p1, p2, p3, p4, p5, p6, ch, va⟩ := p
 rcases d with _ | n
 ·cases ch <;> cases va <;> cases keep <;> cases fz <;> cases l <;> cases b <;> kernel_rfl
 ·cases n <;> cases ch <;> cases va <;> cases keep <;> cases fz <;> cases l <;> cases b <;> kernel_rfl
def S3H (s : ES) (b : Bool) (m : Msg) : St := { fr := [(5, .ptr 2 0 0), (6, .ptr 3 0 0), (7, .nils), (8, .ptr 12 0 0)], hp := [.dead, .dead, .arr true 31 [encMsg (kM m 21)], .arr true 7 [z7],
 .arr true 8 [encPlan s.p], .dead, .dead, .dead, .arr true 4 [wkA s], .dead, .dead, aBsX b s.l,
 .arr true 23 [dsk s.e s.g (.sl 8 4 0 1 1) (encAlives s.ns) (.sl 4 8 0 1 1) .nils (aCX 11 b s.l) s.c .nils]] }
def finKN (e : AX) (s : St) : Option (AV × Heap) := finK (env53 []) F_coord_Handle kN0 e s
def rhsH (O : RsO) (s : ES) (b : Bool) (m : Msg) : Option (AV × Heap) := match s.l with
 | [] => gCon F_coord_desk_reset (A1 m) (hpR s (encPlan s.p) (wkA s) (qE b 3) .nils (bE b)) (.tup []) O.H (finN O.H)
 | _ :: _ => gCon F_coord_desk_reset (A1 m) (hpQ2 s) (.tup []) O.H (finN O.H)
theorem hrkn (sh : Bool) (s1 : ES) (e g : Int) (p : Plan) (ns : List Alive) (nb : Bool) (op : LN Opn) (keep : List Member) (fe he : Bool) (l : List Ask) (c : CConf) (b : Bool) (m : Msg) : evC (env53 (kn53 (RsO.st sh (.kp s1)))) (evFn (env53 (kn53 (RsO.st sh (.kp s1)))) 19) F_coord_Handle 36 19 0 0 CHr finKN (S3H ⟨e, g, p, ns, nb, op, keep, .nil, fe, he, l, c⟩ b m) = rhsH (RsO.st sh (.kp s1)) ⟨e, g, p, ns, nb, op, keep, .nil, fe, he, l, c⟩ b m := by
 obtain ⟨e1, g1, p1, ns1, nb1, op1, keep1, fz1, fe1, he1, l1, c1⟩ := s1
 cases sh <;> cases l <;> cases b <;> cases fz1 <;> kernel_rfl
theorem hrxn (sh : Bool) (y : WR) (e g : Int) (p : Plan) (ns : List Alive) (nb : Bool) (op : LN Opn) (keep : List Member) (fe he : Bool) (l : List Ask) (c : CConf) (b : Bool) (m : Msg) : evC (env53 (kn53 (RsO.st sh (.en y)))) (evFn (env53 (kn53 (RsO.st sh (.en y)))) 19) F_coord_Handle 36 19 0 0 CHr finKN (S3H ⟨e, g, p, ns, nb, op, keep, .nil, fe, he, l, c⟩ b m) = rhsH (RsO.st sh (.en y)) ⟨e, g, p, ns, nb, op, keep, .nil, fe, he, l, c⟩ b m := by
 cases sh <;> cases l <;> cases b <;> kernel_rfl
theorem hran (s1 : ES) (b1 : Bool) (m1 : Msg) (e g : Int) (p : Plan) (ns : List Alive) (nb : Bool) (op : LN Opn) (keep : List Member) (fe he : Bool) (l : List Ask) (c : CConf) (b : Bool) (m : Msg) : evC (env53 (kn53 (RsO.an s1 b1 m1))) (evFn (env53 (kn53 (RsO.an s1 b1 m1))) 19) F_coord_Handle 36 19 0 0 CHr finKN (S3H ⟨e, g, p, ns, nb, op, keep, .nil, fe, he, l, c⟩ b m) = rhsH (RsO.an s1 b1 m1) ⟨e, g, p, ns, nb, op, keep, .nil, fe, he, l, c⟩ b m := by
 obtain ⟨e1, g1, p1, ns1, nb1, op1, keep1, fz1, fe1, he1, l1, c1⟩ := s1
 cases l <;> cases b <;> cases b1 <;> cases fz1 <;> kernel_rfl
theorem hrke (sh : Bool) (s1 : ES) (e g : Int) (p : Plan) (ns : List Alive) (nb : Bool) (op : LN Opn) (keep : List Member) (fe he : Bool) (l : List Ask) (c : CConf) (f : Msg) (fs : List Msg) (b : Bool) (m : Msg) : evC (env53 (kn53 (RsO.st sh (.kp s1)))) (evFn (env53 (kn53 (RsO.st sh (.kp s1)))) 19) F_coord_Handle 36 19 0 0 CHr finKN (S3H ⟨e, g, p, ns, nb, op, keep, .ne f fs, fe, he, l, c⟩ b m) = rhsH (RsO.st sh (.kp s1)) ⟨e, g, p, ns, nb, op, keep, .ne f fs, fe, he, l, c⟩ b m := by
 obtain ⟨e1, g1, p1, ns1, nb1, op1, keep1, fz1, fe1, he1, l1, c1⟩ := s1
 cases sh <;> cases l <;> cases b <;> cases fz1 <;> kernel_rfl
theorem hrxe (sh : Bool) (y : WR) (e g : Int) (p : Plan) (ns : List Alive) (nb : Bool) (op : LN Opn) (keep : List Member) (fe he : Bool) (l : List Ask) (c : CConf) (f : Msg) (fs : List Msg) (b : Bool) (m : Msg) : evC (env53 (kn53 (RsO.st sh (.en y)))) (evFn (env53 (kn53 (RsO.st sh (.en y)))) 19) F_coord_Handle 36 19 0 0 CHr finKN (S3H ⟨e, g, p, ns, nb, op, keep, .ne f fs, fe, he, l, c⟩ b m) = rhsH (RsO.st sh (.en y)) ⟨e, g, p, ns, nb, op, keep, .ne f fs, fe, he, l, c⟩ b m := by
 cases sh <;> cases l <;> cases b <;> kernel_rfl
theorem hrae (s1 : ES) (b1 : Bool) (m1 : Msg) (e g : Int) (p : Plan) (ns : List Alive) (nb : Bool) (op : LN Opn) (keep : List Member) (fe he : Bool) (l : List Ask) (c : CConf) (f : Msg) (fs : List Msg) (b : Bool) (m : Msg) : evC (env53 (kn53 (RsO.an s1 b1 m1))) (evFn (env53 (kn53 (RsO.an s1 b1 m1))) 19) F_coord_Handle 36 19 0 0 CHr finKN (S3H ⟨e, g, p, ns, nb, op, keep, .ne f fs, fe, he, l, c⟩ b m) = rhsH (RsO.an s1 b1 m1) ⟨e, g, p, ns, nb, op, keep, .ne f fs, fe, he, l, c⟩ b m := by
 obtain ⟨e1, g1, p1, ns1, nb1, op1, keep1, fz1, fe1, he1, l1, c1⟩ := s1
 cases l <;> cases b <;> cases b1 <;> cases fz1 <;> kernel_rfl
theorem hr (O : RsO) (s : ES) (b : Bool) (m : Msg) (hf : s.fz ≠ .emp) : evC (env53 (kn53 O)) (evFn (env53 (kn53 O)) 19) F_coord_Handle 36 19 0 0 CHr finKN (S3H s b m) = rhsH O s b m := by
 obtain ⟨e, g, p, ns, nb, op, keep, fz, fe, he, l, c⟩ := s
 cases fz with
 | emp => exact absurd rfl hf
 | nil => cases O with
  | st sh R => cases R with
   | kp s1 => exact hrkn sh s1 e g p ns nb op keep fe he l c b m
   | en y => exact hrxn sh y e g p ns nb op keep fe he l c b m
  | an s1 b1 m1 => exact hran s1 b1 m1 e g p ns nb op keep fe he l c b m
 | ne f fs => cases O with
  | st sh R => cases R with
   | kp s1 => exact hrke sh s1 e g p ns nb op keep fe he l c f fs b m
   | en y => exact hrxe sh y e g p ns nb op keep fe he l c f fs b m
  | an s1 b1 m1 => exact hrae s1 b1 m1 e g p ns nb op keep fe he l c f fs b m
theorem mkN_ok (w : World) (I : Nat -> Prop) (φ : Phi) (v : AV) (u : Value) (h : RV w I φ v u) : RV w I φ (mkN v) u := by
 unfold mkN
 split
 ·cases h with
  | tup _ vs hl hr =>
   refine .tup _ vs (by simpa using hl) fun k c x e e' => ?_
   match k with
   | 0 =>
    simp at e; subst e
    have hx := hr 0 _ x rfl e'
    cases hx with
    | agg _ us hl2 h1 hr2 =>
     refine .agg _ us (by simpa using hl2) h1 fun k c y e e' => ?_
     match k with
     | 0 => simp at e; subst e; exact .undef _
     | 1 => simp at e; subst e; exact .undef _
     | 2 => simp at e; subst e; exact .undef _
     | 3 => simp at e; subst e; exact hr2 3 _ y rfl e'
     | 4 => simp at e; subst e; exact .undef _
     | 5 => simp at e; subst e; exact .undef _
     | 6 => simp at e; subst e; exact .undef _
     | k + 7 => simp at e
   | 1 => simp at e; subst e; exact .undef _
   | k + 2 => simp at e
 ·exact .undef _
theorem nC_tree {w : World} {I : Nat -> Prop} {φ : Phi} {rd : Nat -> BS} {q : Nat} {d : ND} {l : List Alive} {u : Value} {L : List Nat} (hh : AM.RH w I φ rd) (hq : rd q = nBs d l) (hL : q ∈ L) (hd : (d = .blk /\ l ≠ []) \/ (d ≠ .blk /\ l = [])) (h : RV w I φ (nC d q l) u) : RV w (InL φ L) φ (encAlives l) u := by
 cases d with
 | emp n =>
  have hl : l = [] := by
   rcases hd with x | x
   ·cases x.1
   ·exact x.2
  subst hl
  have h0 : RV w I φ (nA n) u := h
  have h1 : RV w I Phi.no (encAlives []) u := nA_sub n w I u (h0.free (by cases n <;> rfl))
  exact (h1.jf (InL φ L) rfl).mono (fun B hB => ⟨hB, rfl⟩) (fun _ => Nat.le_refl _) (Phi.no_le _)
 | blk =>
  have hne : l ≠ [] := by
   rcases hd with x | x
   ·exact x.2
   ·exact absurd rfl x.1
  have hq : rd q = .seq true 3 l.length fun i => encAlive (l.getD i default) := hq
  obtain ⟨B, o, sz, e, r⟩ := hh.blk q (by rw [hq]; rfl)
  rw [hq] at r
  have hs : sz = 3 := r.1.symm
  subst hs
  exact h.toTree (List.length_pos_iff.2 hne) e rfl r (Nat.le_refl _) ⟨q, hL, _, _, e⟩ fun i _ => alive_jf _
theorem aCX_jf (q : Nat) (b : Bool) (l : List Ask) : jf (aCX q b l) = true := by
 cases l with
 | nil => cases b <;> rfl
 | cons a t => rfl
theorem shrH {d : ND} {s : ES} {b : Bool} {m : Msg} (hd : (d = .blk /\ s.ns ≠ []) \/ (d ≠ .blk /\ s.ns = [])) (hn : ∀ m ∈ s.fz.l, NoL m) (hm : NoL m) : Shr (S2H d s b m) (S3H s b m) := by
 intro w0 w I φ a hs hnew
 have hh := hs.hh
 have h5 : mBs s.p.chain = .none \/ mutable (mBs s.p.chain) = true := by cases s.p.chain; exact .inl rfl; exact .inr rfl
 have h6 : mBs s.p.valid = .none \/ mutable (mBs s.p.valid) = true := by cases s.p.valid; exact .inl rfl; exact .inr rfl
 have h7 : nBs d s.ns = .none \/ mutable (nBs d s.ns) = true := by cases d; exact .inr rfl; exact .inl rfl
 have h9 : mBs s.keep = .none \/ mutable (mBs s.keep) = true := by cases s.keep; exact .inl rfl; exact .inr rfl
 have h10 : fBs s.fz = .none \/ mutable (fBs s.fz) = true := by cases s.fz; exact .inl rfl; exact .inl rfl; exact .inr rfl
 have hL : ∀ x ∈ [5, 6, 7, 9, 10], (hget (S2H d s b m).hp x = .none \/ mutable (hget (S2H d s b m).hp x) = true) /\ live (hget (S3H s b m).hp x) = false := by
  intro x hx
  simp only [List.mem_cons, List.mem_nil_iff, or_false] at hx
  rcases hx with rfl | rfl | rfl | rfl | rfl
  ·exact ⟨h5, rfl⟩
  ·exact ⟨h6, rfl⟩
  ·exact ⟨h7, rfl⟩
  ·exact ⟨h9, rfl⟩
  ·exact ⟨h10, rfl⟩
 refine ⟨InL φ [5, 6, 7, 9, 10], φ, ⟨hh.shrink [5, 6, 7, 9, 10] (hget (S3H s b m).hp) hL ?_ ?_, fun t => ?_⟩, fun B hB => ?_, fun B hB => ?_⟩
 ·intro x hx
  match x with
  | 0 => cases hx
  | 1 => cases hx
  | 2 => cases hx
  | 3 => cases hx
  | 4 => cases hx
  | 5 => cases hx
  | 6 => cases hx
  | 7 => cases hx
  | 8 => cases hx
  | 9 => cases hx
  | 10 => cases hx
  | 11 => exact hx
  | 12 => cases hx
  | x + 13 => exact hx
 ·intro x hx
  match x with
  | 0 => cases hx
  | 1 => cases hx
  | 2 => exact ⟨rfl, rfl, fun B o sz e r => by
    have hsz : sz = 31 := r.1.symm
    subst hsz
    exact RB.same1 r _ (noL_jf (m := kM m 21) hm) (Phi.le_refl _)⟩
  | 3 => exact ⟨rfl, rfl, fun B o sz e r => by
    have hsz : sz = 7 := r.1.symm
    subst hsz
    exact RB.same1 r _ rfl (Phi.le_refl _)⟩
  | 4 => exact ⟨rfl, rfl, fun B o sz e r => by
    have hsz : sz = 8 := r.1.symm
    subst hsz
    refine RB.cells1 (cs := plC2 s.p (mC 5 s.p.chain) (mC 6 s.p.valid)) r rfl fun k c c' e e' u hu => ?_
    match k with
    | 0 => cases e; cases e'; exact hu.jf _ rfl
    | 1 => cases e; cases e'; exact hu.jf _ rfl
    | 2 => cases e; cases e'; exact hu.jf _ rfl
    | 3 => cases e; cases e'; exact hu.jf _ rfl
    | 4 => cases e; cases e'; exact hu.jf _ rfl
    | 5 => cases e; cases e'; exact hu.jf _ rfl
    | 6 => cases e; cases e'; exact mC_tree hh rfl (by simp) hu
    | 7 => cases e; cases e'; exact mC_tree hh rfl (by simp) hu
    | k + 8 => cases e⟩
  | 5 => cases hx
  | 6 => cases hx
  | 7 => cases hx
  | 8 => exact ⟨rfl, rfl, fun B o sz e r => by
    have hsz : sz = 4 := r.1.symm
    subst hsz
    refine RB.cells1 (cs := [.bool s.fe, mC 9 s.keep, fC 10 s.fz, .bool s.he]) r rfl fun k c c' e e' u hu => ?_
    match k with
    | 0 => cases e; cases e'; exact hu.jf _ rfl
    | 1 => cases e; cases e'; exact mC_tree hh rfl (by simp) hu
    | 2 => cases e; cases e'; exact fC_tree hh rfl (by simp) hn hu
    | 3 => cases e; cases e'; exact hu.jf _ rfl
    | k + 4 => cases e⟩
  | 9 => cases hx
  | 10 => cases hx
  | 11 =>
   have hx : live (aBsX b s.l) = true := hx
   cases hl : s.l with
   | nil =>
    rw [hl] at hx
    cases b with
    | false => cases hx
    | true =>
     have e1 : hget (S2H d s true m).hp 11 = .arr true 31 [] := by show aBsX true s.l = _; rw [hl]; rfl
     have e2 : hget (S3H s true m).hp 11 = .arr true 31 [] := by show aBsX true s.l = _; rw [hl]; rfl
     rw [e1, e2]
     exact ⟨rfl, rfl, fun B o sz e r => ⟨r.1, r.2.1, (fun i cs e => by simp at e), (fun i cs k c e => by simp at e)⟩⟩
   | cons a t =>
    have e1 : hget (S2H d s b m).hp 11 = blkA (a :: t) := by show aBsX b s.l = _; rw [hl]; rfl
    have e2 : hget (S3H s b m).hp 11 = blkA (a :: t) := by show aBsX b s.l = _; rw [hl]; rfl
    rw [e1, e2]
    exact ⟨rfl, rfl, fun B o sz e r => AM.RB.seq_jf r _ fun i _ => ask_jf _⟩
  | 12 => exact ⟨rfl, rfl, fun B o sz e r => by
    have hsz : sz = 23 := r.1.symm
    subst hsz
    refine RB.cells1 (cs := dsk s.e s.g (.sl 8 4 0 1 1) (nC d 7 s.ns) (.sl 4 8 0 1 1) .nils (aCX 11 b s.l) s.c .nils) r rfl fun k c c' e e' u hu => ?_
    match k with
    | 0 => cases e; cases e'; exact hu.jf _ rfl
    | 1 => cases e; cases e'; exact hu.jf _ rfl
    | 2 => cases e; cases e'; exact hu.jf _ rfl
    | 3 => cases e; cases e'; exact nC_tree hh rfl (by simp) hd hu
    | 4 => cases e; cases e'; exact hu.jf _ rfl
    | 5 => cases e; cases e'; exact hu.jf _ rfl
    | 6 => cases e; cases e'; exact hu.jf _ (aCX_jf _ _ _)
    | 7 => cases e; cases e'; exact hu.jf _ rfl
    | 8 => cases e; cases e'; exact hu.jf _ rfl
    | 9 => cases e; cases e'; exact hu.jf _ rfl
    | 10 => cases e; cases e'; exact hu.jf _ rfl
    | 11 => cases e; cases e'; exact hu.jf _ rfl
    | 12 => cases e; cases e'; exact hu.jf _ rfl
    | 13 => cases e; cases e'; exact hu.jf _ rfl
    | 14 => cases e; cases e'; exact hu.jf _ rfl
    | 15 => cases e; cases e'; exact hu.jf _ rfl
    | 16 => cases e; cases e'; exact hu.jf _ rfl
    | 17 => cases e; cases e'; exact hu.jf _ rfl
    | 18 => cases e; cases e'; exact hu.jf _ rfl
    | 19 => cases e; cases e'; exact hu.jf _ rfl
    | 20 => cases e; cases e'; exact hu.jf _ rfl
    | 21 => cases e; cases e'; exact hu.jf _ rfl
    | 22 => cases e; cases e'; exact hu.jf _ rfl
    | k + 23 => cases e⟩
  | x + 13 => cases hx
 ·have := hs.fr t
  have e : fget (S3H s b m).fr t = fget (S2H d s b m).fr t := rfl
  rw [e]
  match t with
  | 5 => exact this.jf _ rfl
  | 6 => exact this.jf _ rfl
  | 7 => exact this.jf _ rfl
  | 8 => exact this.jf _ rfl
  | 0 => exact .undef _
  | 1 => exact .undef _
  | 2 => exact .undef _
  | 3 => exact .undef _
  | 4 => exact .undef _
  | t + 9 => exact .undef _
 ·obtain ⟨x, hx, o, sz, e⟩ := hB
  refine hnew B ⟨x, o, sz, ?_, e⟩
  exact (hL x hx).1.resolve_left fun hno => by rw [hh.none x hno] at e; cases e
 ·obtain ⟨x, o, sz, hm, e⟩ := hB
  refine hnew B ⟨x, o, sz, ?_, e⟩
  match x with
  | 0 => cases hm
  | 1 => cases hm
  | 2 => rfl
  | 3 => rfl
  | 4 => rfl
  | 5 => cases hm
  | 6 => cases hm
  | 7 => cases hm
  | 8 => rfl
  | 9 => cases hm
  | 10 => cases hm
  | 11 => exact hm
  | 12 => rfl
  | x + 13 => cases hm
def rN (v : AV) : AV := .tup [.agg [.undef, .undef, .undef, v, .undef, .undef, .undef], .undef]
theorem finN_eq (e g : Int) (Sh Wk Op Aq O : AV) (ns : List Alive) (c : CConf) (r : Heap) : finN (.arr true 23 [dsk e g Sh (encAlives ns) Wk Op Aq c O] :: r) = some (rN (encAlives ns), []) := by kernel_rfl
theorem finN_O (s : ES) (b : Bool) (m : Msg) : finN (h21O s b m).H = some (rN (encAlives s.ns), []) := by
 have hns : (askS s m).ns = s.ns := by
  unfold askS
  cases s.l.any (isAsk m) <;> rfl
 have hb : ∀ s1 fr, (beginS s1 fr).ns = s1.ns := fun s1 fr => by
  unfold beginS
  cases decide (1099511627776 <= s1.p.epoch) <;> rfl
 have ha : ∀ s1 m, (afS s1 m).ns = s1.ns := fun s1 m => by
  unfold afS
  cases decide (s1.p.phase = 1) && s1.p.fresh with
  | true => rfl
  | false => exact hb _ _
 unfold h21O
 cases isNo s m with
 | true => exact finN_eq ..
 | false =>
  rw [cond_false]
  cases decide (s.p.reset < m.num) with
  | false => rw [cond_false, <- hns]; exact finN_eq ..
  | true =>
   rw [cond_true]
   unfold RofE
   rw [<- hns, <- ha (askS s m) m]
   cases mayE (afS (askS s m) m) with
   | false => exact finN_eq ..
   | true => exact finN_eq ..
theorem okH : okCode CH0 = true /\ okCode CH1 = true := by
 have h : okCode bdH = true := by kernel_rfl
 rw [bdH_eq] at h
 obtain ⟨a, b⟩ := and_true' (show (okCode CH0 && okCode (.seq CH1 CHr)) = true from h)
 exact ⟨a, (and_true' (show (okCode CH1 && okCode CHr) = true from b)).1⟩
theorem hd_new {d : ND} {s : ES} {b : Bool} {m : Msg} (h : HOk s) (hd : (d = .blk /\ s.ns ≠ []) \/ (d ≠ .blk /\ s.ns = [])) (hf : s.fz ≠ .emp) (hl : s.l.length < 1000) (hn : ∀ m ∈ s.fz.l, NoL m) (hm : NoL m) :
  NewC PG F_coord_Handle [.agg (buD d s b), .agg (encCf s.c), .agg (encMsg (kM m 21))] (rN (encAlives s.ns)) [] := by
 have h0 : EnvOk PG (env53 []) := env53_ok ank
 have h1 : EnvOk PG (env53 [kCon F_twin_Bureau (resX d s b) (hpX8 d s b)]) := env53_ok (ak (kCon_ok _ _ _) ank)
 have h2 : EnvOk PG (env53 (kn53 (h21O s b m))) := env53_ok (kn53_ok _)
 have e1 := (hd_p1 d s b m).trans (gCon_eq ⟨burX_con ⟨h.eok, h.val, h.cp, hd⟩ hf, Nat.zero_le _⟩)
 have e2 : evC (env53 (kn53 (h21O s b m))) (evFn (env53 (kn53 (h21O s b m))) 19) F_coord_Handle 36 19 0 0 CHr finKN (S3H s b m) = some (rN (encAlives s.ns), []) := by
  refine (hr (h21O s b m) s b m hf).trans ?_
  unfold rhsH
  cases hx : s.l with
  | nil =>
   have c := reset_0 (b := b) (m := m) h.eok h.nb h.op hx
   exact (gCon_eq c).trans (finN_O s b m)
  | cons a t =>
   have hne : s.l ≠ [] := by rw [hx]; exact List.cons_ne_nil _ _
   have c := reset_n (b := b) (m := m) h.eok h.nb h.op hne hl
   exact (gCon_eq c).trans (finN_O s b m)
 exact cut_new (env0 := env53 []) mixed (codeOf_ok rfl) bdH_eq (by kernel_rfl) (leads_sel h0 (ev_ok h0 (codeOf_ok rfl) mixed 0) mixed okH.1 (hd_p0 d s b m)) (leads_sel h1 (ev_ok h1 (codeOf_ok rfl) mixed 0) mixed okH.2 e1)
  (shrH hd hn hm) h0 h2 rfl (ev_ok h2 (codeOf_ok rfl) mixed 19) mkN_ok e2
def nK : List Alive -> AV
 | [] => encAlives []
 | a :: t => .sl 3 0 0 (a :: t).length 0
def hpNd : List Alive -> Heap
 | [] => []
 | a :: t => [.seq true 3 (a :: t).length fun i => encAlive ((a :: t).getD i default)]
theorem RV.rN_get {w : World} {I : Nat -> Prop} {φ : Phi} {v : AV} {u : Value} (h : RV w I φ (rN v) u) : ∃ uv, RV w I φ v uv /\ ∀ I' φ' v', RV w I' φ' v' uv -> RV w I' φ' (rN v') u := by
 cases h with
 | tup _ vs hl hr =>
  have hs : vs.size = 2 := by simpa using hl.symm
  have g0 : vs[0]? = some vs[0] := Array.getElem?_eq_getElem (by omega)
  have hx := hr 0 _ vs[0] rfl g0
  generalize hu : vs[0] = u0 at hx g0
  cases hx with
  | agg _ us hl2 h1 hr2 =>
   have hs2 : us.size = 7 := by simpa using hl2.symm
   have g3 : us[3]? = some us[3] := Array.getElem?_eq_getElem (by omega)
   refine ⟨us[3], hr2 3 _ _ rfl g3, fun I' φ' v' hv => .tup _ vs (by simpa using hl) fun k c x e e' => ?_⟩
   match k with
   | 0 =>
    simp at e; subst e
    rw [g0] at e'; cases e'
    refine .agg _ us (by simpa using hl2) h1 fun k c y e e' => ?_
    match k with
    | 0 => simp at e; subst e; exact .undef _
    | 1 => simp at e; subst e; exact .undef _
    | 2 => simp at e; subst e; exact .undef _
    | 3 => simp at e; subst e; rw [g3] at e'; cases e'; exact hv
    | 4 => simp at e; subst e; exact .undef _
    | 5 => simp at e; subst e; exact .undef _
    | 6 => simp at e; subst e; exact .undef _
    | k + 7 => simp at e
   | 1 => simp at e; subst e; exact .undef _
   | k + 2 => simp at e
theorem new_nodes {f : Nat} {args : List AV} {l : List Alive} (h : NewC PG f args (rN (encAlives l)) []) : Contract PG f args [] (rN (nK l)) (hpNd l) := by
 intro w I φ ra hh hx
 have hφ := phi_nil hh
 subst hφ
 refine (h w I ra hh.lt hx).mono fun u w' ⟨φ', J, a1, a2, a3, a4, a5⟩ => ?_
 have hI : ∀ B, I B -> B < w.heap.size := hh.lt
 have hext : Ext (Mut Phi.no (hget [])) w w' := a5.weaken fun B h => h.elim
 obtain ⟨uv, b1, b2⟩ := RV.rN_get a1
 cases l with
 | nil =>
  refine ⟨Phi.no, I, b2 I Phi.no _ ?_, RH.empty w' I fun B hB => Nat.lt_of_lt_of_le (hI B hB) a5.size, ⟨fun b q hlt => absurd hlt (Nat.not_lt_zero b), fun B hB => hB, fun B hB => .inl hB, fun B hB => absurd hB not_mut_nil, hext⟩⟩
  exact (b1.free rfl).jf I rfl
 | cons a t =>
  obtain ⟨B1, o1, g1, g2⟩ := RV.thaw b1 (by simp) (by omega) a5 a3 fun i _ => alive_jf _
  have hnew1 : w.heap.size <= B1 := a3 B1 g1
  refine ⟨fun b => match b with | 0 => some (B1, o1, 3) | _ => none, I, b2 I _ _ (g2 _ 0 I rfl).1, ⟨fun b e => ?_, fun b hl => ?_, fun b b' B o sz o' sz' hm hm' e e' => ?_, fun b B o sz hm e hB => ?_, fun b B o sz hl hm e => ?_, fun B hB => Nat.lt_of_lt_of_le (hI B hB) a5.size⟩,
   ⟨fun b q hlt => absurd hlt (Nat.not_lt_zero b), fun B hB => hB, fun B hB => .inl hB, fun B hB => ?_, hext⟩⟩
  ·match b with
   | 0 => cases e
   | b + 1 => rfl
  ·match b with
   | 0 => exact ⟨B1, o1, 3, rfl, (g2 _ 0 I rfl).2⟩
   | b + 1 => cases hl
  ·match b, b' with
   | 0, 0 => rfl
   | 0, b' + 1 => cases e'
   | b + 1, _ => cases e
  ·match b with
   | 0 => cases e; have := hI B1 hB; omega
   | b + 1 => cases e
  ·match b with
   | 0 => cases hm
   | b + 1 => cases e
  ·obtain ⟨b, o, sz, hm, e⟩ := hB
   match b with
   | 0 => cases e; exact .inr hnew1
   | b + 1 => cases e
theorem hdK_asks {s : ES} {d : ND} {m : Msg} {r : AV} {H : Heap} (h : ∀ b, Contract PG F_coord_Handle [.agg (buD d s b), .agg (encCf s.c), .agg (encMsg (kM m 21))] [] r H) : Contract PG F_coord_Handle [.agg [.int .i64 s.e, .int .i64 s.g, .trl 8 [encPlan s.p], nV d s.ns, .trl 4 [wkA s], .nils, encAsks s.l], .agg (encCf s.c), .agg (encMsg (kM m 21))] [] r H := by
 by_cases hl : s.l = []
 ·refine Contract.split (args1 := [.agg (buD d s false), .agg (encCf s.c), .agg (encMsg (kM m 21))]) (args2 := [.agg (buD d s true), .agg (encCf s.c), .agg (encMsg (kM m 21))]) ?_ (h false) (h true)
  unfold buD akAV
  rw [hl]
  exact OrC.of [] [.agg (encCf s.c), .agg (encMsg (kM m 21))] (.agg (OrC.of [.int .i64 s.e, .int .i64 s.g, .trl 8 [encPlan s.p], nV d s.ns, .trl 4 [wkA s], .nils] [] .nil))
 ·have : encAsks s.l = akAV s.l false := by
   unfold akAV
   cases h : s.l with
   | nil => exact absurd h hl
   | cons a t => rfl
  rw [this]
  exact h false
theorem hdK_con {s : ES} {m : Msg} (h : HOk s) (hf : s.fz ≠ .emp) (hl : s.l.length < 1000) (hn : ∀ m ∈ s.fz.l, NoL m) (hm : NoL m) : Contract PG F_coord_Handle [.agg (buT s), .agg (encCf s.c), .agg (encMsg (kM m 21))] [] (rN (nK s.ns)) (hpNd s.ns) := by
 by_cases hns : s.ns = []
 ·have h0 := hdK_asks (d := .emp false) (s := s) fun b => new_nodes (hd_new (b := b) h (.inr ⟨(fun e => by cases e), hns⟩) hf hl hn hm)
  have h1 := hdK_asks (d := .emp true) (s := s) fun b => new_nodes (hd_new (b := b) h (.inr ⟨(fun e => by cases e), hns⟩) hf hl hn hm)
  refine Contract.split ?_ h0 h1
  unfold buT
  rw [hns]
  exact OrC.of [] [.agg (encCf s.c), .agg (encMsg (kM m 21))] (.agg (OrC.of [.int .i64 s.e, .int .i64 s.g, .trl 8 [encPlan s.p]] [.trl 4 [wkA s], .nils, encAsks s.l] .nil))
 ·exact hdK_asks (d := .blk) fun b => new_nodes (hd_new (b := b) h (.inl ⟨rfl, hns⟩) hf hl hn hm)
end Go.Wk
end
noncomputable section
open Go Go.AM Go.Md Go.Fl
namespace Go.Wk
def KindW (m : Msg) : Prop := m.kind = 10 \/ m.kind = 11 \/ m.kind = 12 \/ m.kind = 13 \/ m.kind = 14
theorem acks_kind (r : Rep) : ∀ m ∈ acksP r, KindW m := by
 intro m hm
 unfold acksP at hm
 split at hm
 ·cases hm
 ·simp only [List.mem_singleton] at hm
  subst hm; exact .inr (.inr (.inr (.inr rfl)))
theorem forws_kind (r : Rep) : ∀ m ∈ forwsP r, KindW m := by
 intro m hm
 unfold forwsP at hm
 split at hm
 ·cases hm
 ·simp only [List.mem_singleton] at hm
  subst hm; exact .inr (.inr (.inr (.inl rfl)))
theorem insts_kind (r : Rep) : ∀ (l : List Member) (s : List Bool), ∀ m ∈ instsP r l s, KindW m
 | [], s => fun m hm => by simp [instsP] at hm
 | a :: l, [] => fun m hm => by simp [instsP] at hm
 | a :: l, b :: s => fun m hm => by
  have ih := insts_kind r l s
  unfold instsP at hm
  cases b with
  | true => exact ih m hm
  | false =>
   rw [cond_false] at hm
   rcases List.mem_cons.1 hm with e | e
   ·subst e; exact .inr (.inl rfl)
   ·exact ih m e
theorem again_kind (r : Rep) : ∀ m ∈ againP r, KindW m := by
 intro m hm
 unfold againP at hm
 cases h1 : syncsP r with
 | true => rw [h1] at hm; exact insts_kind r _ _ m hm
 | false =>
  rw [h1, cond_false] at hm
  cases h2 : worksP r with
  | true =>
   rw [h2, cond_true] at hm
   rcases List.mem_append.1 hm with e | e
   ·exact forws_kind r m e
   ·exact acks_kind r m e
  | false => rw [h2] at hm; cases hm
theorem hand_kind {r : Rep} {m : Msg} (h : m.kind ≠ 8) : ∀ x ∈ (handP r m).2, KindW x := by
 intro x hx
 unfold handP at hx
 cases ht : toMe r m with
 | false => rw [ht] at hx; cases hx
 | true =>
  rw [ht, cond_true] at hx
  unfold handK at hx
  rw [decide_eq_false h, cond_false] at hx
  revert hx
  cases decide (m.kind = 10) with
  | true =>
   unfold actP
   cases actG r m with
   | true => exact fun hx => again_kind _ x hx
   | false => exact fun hx => by cases hx
  | false =>
   cases decide (m.kind = 11) with
   | true =>
    simp only [cond_true, cond_false]
    unfold insP
    cases decide (0 < idx m.chain r.self) with
    | false => exact fun hx => by cases hx
    | true =>
     simp only [cond_true]
     cases liveP (insR r m) && decide (m.epoch = (insR r m).view.epoch) with
     | false => exact fun hx => by cases hx
     | true =>
      intro hx
      simp only [cond_true, List.mem_singleton] at hx
      subst hx; exact .inr (.inr (.inl rfl))
   | false =>
    cases decide (m.kind = 12) with
    | true =>
     simp only [cond_true, cond_false]
     unfold indP
     cases syncsP r && (decide (m.epoch = r.view.epoch) && decide (0 <= idx r.view.chain (who m))) <;> exact fun hx => by cases hx
    | false =>
     cases decide (m.kind = 13) with
     | true =>
      simp only [cond_true, cond_false]
      unfold fwdP
      cases nextG r m (-1) with
      | true => exact fun hx => again_kind _ x hx
      | false => exact fun hx => by cases hx
     | false =>
      cases decide (m.kind = 14) with
      | true =>
       simp only [cond_true, cond_false]
       unfold ackP
       cases nextG r m 1 with
       | true => exact fun hx => acks_kind _ x hx
       | false => exact fun hx => by cases hx
      | false => exact fun hx => by cases hx
end Go.Wk
end
noncomputable section
open Go Go.AM Go.Md
namespace Go.Wk
set_option maxRecDepth 100000
set_option maxHeartbeats 400000
structure Bu where
 e : Int
 g : Int
 p : Plan
 ns : List Alive
 keep : List Member
 fz : LN Msg
 fe : Bool
 he : Bool
 l : List Ask
def Bu.es (b : Bu) (c : CConf) : ES := ⟨b.e, b.g, b.p, b.ns, false, .nil, b.keep, b.fz, b.fe, b.he, b.l, c⟩
def ES.bu (s : ES) : Bu := ⟨s.e, s.g, s.p, s.ns, s.keep, s.fz, s.fe, s.he, s.l⟩
def encBu (b : Bu) : List AV := [.int .i64 b.e, .int .i64 b.g, .trl 8 [encPlan b.p], encAlives b.ns, .trl 4 [[.bool b.fe, encMembers b.keep, fzV b.fz, .bool b.he]], .nils, encAsks b.l]
def trl0 : AV -> List AV
 | .trl _ [c] => c
 | _ => []
def decBu (a : List AV) : Bu := ⟨getI a 0, getI a 1, decPlan (trl0 (a.getD 2 .undef)), getL decAlive a 3, getL decMember (trl0 (a.getD 4 .undef)) 1, dLN decMsg ((trl0 (a.getD 4 .undef)).getD 2 .undef), getB (trl0 (a.getD 4 .undef)) 0, getB (trl0 (a.getD 4 .undef)) 3, getL decAsk a 6⟩
theorem dec_encBu (b : Bu) (r : List AV) : decBu (encBu b ++ r) = b := by
 obtain ⟨e, g, p, ns, keep, fz, fe, he, l⟩ := b
 have hA : decL decAsk (encAsks l) = l := decL_encL (e := encAsk) (d := decAsk) (z := (0, 0)) (sz := 31) (fun _ => rfl) l
 show (⟨e, g, decPlan (encPlan p), decL decAlive (encAlives ns), decL decMember (encMembers keep), dLN decMsg (fzV fz), fe, he, decL decAsk (encAsks l)⟩ : Bu) = _
 rw [dec_encPlan, decAlives, decMembers, hA]
 have hF : dLN decMsg (fzV fz) = fz := dLN_eq dec_encMsg fz
 rw [hF]
structure PlayB where
 b : Bu
 fe : Int
 reps : List Rep
 way : List Msg
 safe : Ver
 reset : Int
def stV (fe : Int) : AV := .trl 3 [[.int .i64 fe, .cplx .f64 0 0, .nils]]
def encPB (p : PlayB) : List AV := encBu p.b ++ [stV p.fe, encReps p.reps, encMsgs p.way, eV p.safe, .int .i64 p.reset]
def plC (p : PlayB) (W : AV) : List AV := encBu p.b ++ [stV p.fe, encReps p.reps, W, eV p.safe, .int .i64 p.reset]
def plB (p : PlayB) (W : AV) : AV := .agg (plC p W)
def layB (p : PlayB) (l : List Msg) : PlayB := { p with way := p.way ++ l }
def wayB (p : PlayB) (l : List Msg) : PlayB := { p with way := l }
def decPB (a : List AV) : PlayB := ⟨decBu a, getI (trl0 (a.getD 7 .undef)) 0, getL decRep a 8, getL decMsg a 9, ⟨(getC a 10).1, (getC a 10).2⟩, getI a 11⟩
theorem dec_encPB (p : PlayB) : decPB (encPB p) = p := by
 obtain ⟨b, fe, reps, way, safe, reset⟩ := p
 have hb := dec_encBu b [stV fe, encReps reps, encMsgs way, eV safe, .int .i64 reset]
 show (⟨decBu (encBu b ++ [stV fe, encReps reps, encMsgs way, eV safe, .int .i64 reset]), fe, decL decRep (encReps reps), decL decMsg (encMsgs way), safe, reset⟩ : PlayB) = _
 rw [hb, decReps, decMsgs]
theorem plC_sub {p : PlayB} {W : AV} {l : List Msg} (h : SubV W (encMsgs l)) : SubC (plC p W) (encPB (wayB p l)) :=
 .cons (.refl _) (.cons (.refl _) (.cons (.refl _) (.cons (.refl _) (.cons (.refl _) (.cons (.refl _) (.cons (.refl _) (.cons (.refl _) (.cons (.refl _) (.cons h (.refl _))))))))))
def mF (l : List Msg) : Nat -> List AV := fun i => encMsg (l.getD i default)
def laid {R : Type} (w o : List Msg) (E : Option R) (S : Nat -> (Nat -> List AV) -> Option R) : Option R :=
 bif Nat.ble ((0 + w.length) * 392) 140737488355328 && Nat.ble (0 + w.length) 140737488355328 then
  bif Nat.beq w.length 0 then
   bif Nat.ble ((0 + o.length) * 392) 140737488355328 && Nat.ble (0 + o.length) 140737488355328 then
    bif Nat.beq o.length 0 then E else S o.length (mF o)
   else none
  else
   bif Nat.beq w.length 0 || Nat.ble w.length w.length then
    bif Nat.ble ((w.length + o.length) * 392) 140737488355328 && Nat.ble (w.length + o.length) 140737488355328 then
     bif Nat.beq o.length 0 then S w.length (mF w) else S (w.length + o.length) (appF w.length (mF w) o.length (mF o))
    else none
   else none
 else none
theorem laid_eq {R : Type} {w o : List Msg} {E : Option R} {S : Nat -> (Nat -> List AV) -> Option R} (hw : w.length <= 100000) (ho : o.length <= 100000) :
  laid w o E S = match w ++ o with
   | [] => E
   | l => S l.length (mF l) := by
 unfold laid
 rw [roomV (n := 0 + w.length) (b := 392) (by omega) (by omega), cond_true]
 cases w with
 | nil =>
  rw [show Nat.beq ([] : List Msg).length 0 = true from rfl, cond_true, roomV (n := 0 + o.length) (b := 392) (by omega) (by omega), cond_true]
  cases o with
  | nil => rfl
  | cons b o => rw [AM.beq_false (by simp), cond_false]; rfl
 | cons a w =>
  rw [AM.beq_false (by simp), cond_false, ble_true (Nat.le_refl _), Bool.or_true, cond_true, roomV (b := 392) (by omega) (by omega), cond_true]
  cases o with
  | nil =>
   rw [show Nat.beq ([] : List Msg).length 0 = true from rfl, cond_true, List.append_nil]
  | cons b o =>
   rw [AM.beq_false (by simp), cond_false]
   have e : appF (a :: w).length (mF (a :: w)) (b :: o).length (mF (b :: o)) = mF ((a :: w) ++ (b :: o)) := appF_enc encMsg default (a :: w) (b :: o)
   rw [e, <- List.length_append]
   rfl
theorem msgs_nil : SubV (.trl 31 []) (encMsgs []) := SubV.trl_of [] rfl
def gW (n : Nat) (k : Option AV) : Option AV := bif (Nat.beq n 0 || Nat.ble n n) && true then k else none
theorem gW_eq {n : Nat} {k : Option AV} : gW n k = k := by unfold gW; rw [orU]; rfl
theorem lay_eq (p : PlayB) (l : List Msg) : callT env0 5 F_lockgatelaw21_lay [.agg (encPB p), encMsgs l] = laid p.way l (some (plB p (.trl 31 []))) (fun n f => gW n (some (plB p (.tr 31 n f)))) := by kernel_rfl
theorem lay_con (x : PlayB × List Msg) (h : x.1.way.length <= 100000 /\ x.2.length <= 100000) : Contract PG F_lockgatelaw21_lay [.agg (encPB x.1), encMsgs x.2] [] (.agg (encPB (layB x.1 x.2))) [] := by
 obtain ⟨p, l⟩ := x
 have e := lay_eq p l
 rw [laid_eq h.1 h.2] at e
 have key : ∃ v, callT env0 5 F_lockgatelaw21_lay [.agg (encPB p), encMsgs l] = some v /\ SubV v (.agg (encPB (layB p l))) := by
  show ∃ v, _ /\ SubV v (.agg (encPB (wayB p (p.way ++ l))))
  cases hw : p.way ++ l with
  | nil =>
   rw [hw] at e
   exact ⟨_, e, .agg (plC_sub msgs_nil)⟩
  | cons a t =>
   rw [hw] at e
   simp only [] at e
   rw [gW_eq] at e
   exact ⟨_, e, .agg (plC_sub (.refl _))⟩
 obtain ⟨v, e1, e2⟩ := key
 exact (con0 e1).res e2
def dLay (a : List AV) : PlayB × List Msg := (decPB (argC a 0), decL decMsg (a.getD 1 .undef))
def eLay (x : PlayB × List Msg) : List AV := [.agg (encPB x.1), encMsgs x.2]
def pLay (x : PlayB × List Msg) : Prop := x.1.way.length <= 100000 /\ x.2.length <= 100000
def kLay : Known := .spec F_lockgatelaw21_lay dLay pLay eLay (fun x => .agg (encPB (layB x.1 x.2)))
theorem kLay_ok : kLay.Ok PG := Known.spec_ok lay_con
theorem qLay {R : Type} {p : PlayB} {l : List Msg} {A : List AV} {K : PlayB × List Msg -> Option R} (h : p.way.length <= 100000) (h' : l.length <= 100000) (hd : dLay A = (p, l)) (hs : SubC A (eLay (p, l))) : gC dLay pLay eLay A K = K (p, l) := gC_eq (p, l) hd ⟨h, h'⟩ hs
def kns71 : List Known := [kMsgE, kCloneAlive, kCloneMember]
theorem kns71_ok : ∀ k ∈ kns71, k.Ok PG := ak kMsgE_ok (ak kCloneAlive_ok (ak kCloneMember_ok ank))
theorem con71 {n f : Nat} {xs : List AV} {r : AV} (e : callT (envO kns71) n f xs = some r) : Contract PG f xs [] r [] := con_of (md := fun _ => none) kns71_ok e
def fncMg (fe : Int) : Msg := { msgZ with kind := 20, src := 0, dst := 1, epoch := fe }
def maxI (a b : Int) : Int := bif decide (a < b) then b else a
def fncC (fe : Int) : List AV := [.int .i64 20, .int .i64 0, .int .i64 1, .int .i64 0, .int .i64 0, .int .i64 0, .int .i64 fe, .int .i64 0, .int .i64 0, .int .i64 0, .int .i64 0, .int .i64 0, .bool false, .bool false, .str [], .str [], .cplx .f64 0 0, .cplx .f64 0 0, .int .i64 0, .str [], .str [], .str [], .bool false, .nils, .nils, .nils, .cplx .f64 0 0, .cplx .f64 0 0, .int .i64 0, .nils, .nils]
theorem fnc_sub (fe : Int) : SubC (fncC fe) (encMsg (fncMg fe)) := subC_all (by repeat' (first | exact trivial | exact nilsL | exact SubV.refl _ | refine ⟨?_, ?_⟩))
theorem do10_eq (fe ep : Int) : callT (envO kns71) 20 F_lockgateref10_Do [stV fe, .agg (encMsg (fenMg ep))] =
  bif decide (fe < ep) then some (.tup [stV ep, .agg (fncC ep), .bool true]) else some (.tup [stV fe, .agg (fncC fe), .bool true]) := by kernel_rfl
def dD10 (a : List AV) : Int × Int := (getI (trl0 (a.getD 0 .undef)) 0, getI (argC a 1) 6)
def eD10 (x : Int × Int) : List AV := [stV x.1, .agg (encMsg (fenMg x.2))]
def oD10 (x : Int × Int) : AV := .tup [stV (maxI x.1 x.2), .agg (encMsg (fncMg (maxI x.1 x.2))), .bool true]
theorem do10_con (x : Int × Int) (_ : True) : Contract PG F_lockgateref10_Do (eD10 x) [] (oD10 x) [] := by
 obtain ⟨fe, ep⟩ := x
 have e := do10_eq fe ep
 unfold oD10 maxI
 dsimp only
 cases h : decide (fe < ep) with
 | true =>
  rw [h] at e
  exact (con71 e).res (.tup (.cons (.refl _) (.cons (.agg (fnc_sub _)) (.refl _))))
 | false =>
  rw [h] at e
  exact (con71 e).res (.tup (.cons (.refl _) (.cons (.agg (fnc_sub _)) (.refl _))))
def kDo10 : Known := .spec F_lockgateref10_Do dD10 (fun _ => True) eD10 oD10
theorem kDo10_ok : kDo10.Ok PG := Known.spec_ok do10_con
def liveB (r : Rep) : Bool := !decide (r.view.phase = 0) && decide (r.frozen <= r.view.epoch)
def beatMg (r : Rep) : Msg := { msgZ with kind := 7, src := r.self.node, dst := 1, sboot := r.self.boot, views := bif liveB r then [⟨0, r.view.epoch, 0, r.view.phase, []⟩] else [] }
def btC (r : Rep) (V : AV) : List AV := [.int .i64 7, .int .i64 r.self.node, .int .i64 1, .int .i64 0, .int .i64 r.self.boot, .int .i64 0, .int .i64 0, .int .i64 0, .int .i64 0, .int .i64 0, .int .i64 0, .int .i64 0, .bool false, .bool false, .str [], .str [], .cplx .f64 0 0, .cplx .f64 0 0, .int .i64 0, .str [], .str [], .str [], .bool false, .nils, .nils, V, .cplx .f64 0 0, .cplx .f64 0 0, .int .i64 0, .nils, .nils]
theorem beat_eq (r : Rep) : callT (envO kns71) 20 F_lockgateref21_Beat [.agg (encRep r)] =
  bif !decide (r.view.phase = 0) then bif decide (r.frozen <= r.view.epoch) then some (.agg (btC r (.trl 5 [[.int .i64 0, .int .i64 r.view.epoch, .int .i64 0, .int .i64 r.view.phase, .nils]]))) else some (.agg (btC r .nils)) else some (.agg (btC r .nils)) := by kernel_rfl
theorem bt_sub (r : Rep) {V : AV} (h : SubV V (encViews (beatMg r).views)) : SubC (btC r V) (encMsg (beatMg r)) := subC_all (by repeat' (first | exact trivial | exact h | exact nilsL | exact SubV.refl _ | refine ⟨?_, ?_⟩))
theorem beat_con (r : Rep) (_ : True) : Contract PG F_lockgateref21_Beat [.agg (encRep r)] [] (.agg (encMsg (beatMg r))) [] := by
 have e := beat_eq r
 have hn : liveB r = false -> SubV .nils (encViews (beatMg r).views) := fun h => by
  show SubV .nils (encViews (bif liveB r then _ else []))
  rw [h]; exact nilsL
 have hv : liveB r = true -> SubV (.trl 5 [[.int .i64 0, .int .i64 r.view.epoch, .int .i64 0, .int .i64 r.view.phase, .nils]]) (encViews (beatMg r).views) := fun h => by
  show SubV _ (encViews (bif liveB r then [⟨0, r.view.epoch, 0, r.view.phase, []⟩] else []))
  rw [h]
  exact SubV.trans (one_trl (.cons (.refl _) (.cons (.refl _) (.cons (.refl _) (.cons (.refl _) (.cons nilsL .nil)))))) (SubV.trl_encL (e := encView) (z := default) [⟨0, r.view.epoch, 0, r.view.phase, []⟩])
 unfold liveB at hn hv
 cases h1 : decide (r.view.phase = 0) with
 | true =>
  rw [h1] at e hn
  exact (con71 e).res (.agg (bt_sub r (hn rfl)))
 | false =>
  rw [h1] at e hn hv
  cases h2 : decide (r.frozen <= r.view.epoch) with
  | true =>
   rw [h2] at e hv
   exact (con71 e).res (.agg (bt_sub r (hv rfl)))
  | false =>
   rw [h2] at e hn
   exact (con71 e).res (.agg (bt_sub r (hn rfl)))
def kBeat : Known := .spec F_lockgateref21_Beat (fun a => decRep (argC a 0)) (fun _ => True) (fun r => [.agg (encRep r)]) (fun r => .agg (encMsg (beatMg r)))
theorem kBeat_ok : kBeat.Ok PG := Known.spec_ok beat_con
theorem cnew_eq (a b : Int) : callT (envO kns71) 30 F_chain_New [.int .i64 0, .agg [.int .i64 a, .int .i64 b]] =
 some (.agg [.int .i64 0, .int .i64 a, .int .i64 b, .int .i64 0, .int .i64 0, .int .i64 0, .int .i64 0, .nils, .int .i64 0, .cplx .f64 0 0, .cplx .f64 0 0, .nils, .nils, .cplx .f64 0 0, .nils]) := by kernel_rfl
theorem cnew_con (m : Member) (_ : True) : Contract PG F_chain_New [.int .i64 0, .agg (encMember m)] [] (.agg (encRep (rep0 m))) [] :=
 (con71 (cnew_eq m.node m.boot)).res (.agg (subC_all (by repeat' (first | exact trivial | exact nilsL | exact SubV.refl _ | refine ⟨?_, ?_⟩))))
def kCNew : Known := .spec F_chain_New (fun a => decMember (argC a 1)) (fun _ => True) (fun m => [.int .i64 0, .agg (encMember m)]) (fun m => .agg (encRep (rep0 m)))
theorem kCNew_ok : kCNew.Ok PG := Known.spec_ok cnew_con
structure Bk where
 e : Int
 g : Int
 p : Plan
def encBk (k : Bk) : List AV := [.int .i64 k.e, .int .i64 k.g, .trl 8 [encPlan k.p]]
def decBk (a : List AV) : Bk := ⟨getI a 0, getI a 1, decPlan (trl0 (a.getD 2 .undef))⟩
def openB (k : Bk) : Bu := ⟨k.e, k.g, k.p, [], [], .nil, false, false, []⟩
theorem open_eq (e g : Int) (p : Plan) : callT (envO kns71) 20 F_coord_Open [.agg [.int .i64 e, .int .i64 g, .trl 8 [encPlan p]]] =
 gMs p.chain fun y0 => gMs p.valid fun y1 => some (.agg [.int .i64 e, .int .i64 g, .trl 8 [encPlan { p with chain := y0, valid := y1 }], .nils, .trl 4 [[.bool false, .nils, .nils, .bool false]], .nils, .nils]) := by kernel_rfl
theorem open_con (k : Bk) (h : k.p.chain.length <= 1000 /\ k.p.valid.length <= 1000) : Contract PG F_coord_Open [.agg (encBk k)] [] (.agg (encBu (openB k))) [] := by
 obtain ⟨e, g, p⟩ := k
 have h1 : p.chain.length <= 1000 := h.1
 have h2 : p.valid.length <= 1000 := h.2
 have k := open_eq e g p
 rw [gMs_eq _ (by unfold shortL LB; omega), gMs_eq _ (by unfold shortL LB; omega)] at k
 refine (con71 k).res (.agg ?_)
 exact .cons (.refl _) (.cons (.refl _) (.cons (.refl _) (.cons nilsL (.cons (one_trl (.cons (.refl _) (.cons nilsL (.refl _)))) (.cons (.refl _) (.cons nilsL .nil))))))
def kOpen : Known := .spec F_coord_Open (fun a => decBk (argC a 0)) (fun k => k.p.chain.length <= 1000 /\ k.p.valid.length <= 1000) (fun k => [.agg (encBk k)]) (fun k => .agg (encBu (openB k)))
theorem kOpen_ok : kOpen.Ok PG := Known.spec_ok open_con
theorem dec_encBk (k : Bk) : decBk (encBk k) = k := by
 obtain ⟨e, g, p⟩ := k
 show (⟨e, g, decPlan (encPlan p)⟩ : Bk) = _
 rw [dec_encPlan]
structure BC2 where
 b : Bu
 c : CConf
def decCf (a : List AV) : CConf := ⟨getI a 1, getI a 12, getI a 11⟩
def encBC2 (x : BC2) : List AV := [.agg (encBu x.b), .agg (encCf x.c)]
def decBC2 (a : List AV) : BC2 := ⟨decBu (argC a 0), decCf (argC a 1)⟩
theorem dec_encBC2 (x : BC2) : decBC2 (encBC2 x) = x := by
 obtain ⟨b, c⟩ := x
 have := dec_encBu b []
 rw [List.append_nil] at this
 show (⟨decBu (encBu b), c⟩ : BC2) = _
 rw [this]
def ansU (x : ES × List Msg) : AV := .tup [.agg (encBu x.1.bu), encMsgs x.2]
def kTick : Known := .spec F_coord_Tick decBC2 (fun x => KOk (x.b.es x.c)) encBC2 (fun x => ansU (tickQ (x.b.es x.c)))
theorem kTick_ok : kTick.Ok PG := Known.spec_ok fun x h => tick_con h
theorem qTick {R : Type} {b : Bu} {c : CConf} {K : BC2 -> Option R} (h : KOk (b.es c)) : gC decBC2 (fun x => KOk (x.b.es x.c)) encBC2 [.agg (encBu b), .agg (encCf c)] K = K ⟨b, c⟩ := gC_eq (⟨b, c⟩ : BC2) (dec_encBC2 ⟨b, c⟩) h (.refl _)
theorem SubV.tr1 {sz : Nat} {f : Nat -> List AV} : SubV (.tr sz 1 f) (.trl sz [f 0]) := by
 intro w I u hv
 cases hv with
 | tr _ _ _ B o cap uf hI hn hcp hlen hc h1 hr =>
  have e : ∀ i, i < 1 -> ([f 0] : List (List AV)).getD i [] = f i := fun i hi => by
   have : i = 0 := by omega
   subst this; rfl
  refine .trl _ _ _ (.tr sz 1 _ B o cap uf hI hn hcp (fun i hi => ?_) (fun i k c hi he => ?_) (fun i k c hi he => ?_) (fun i k c hi he => ?_)) (fun h => by cases h)
  ·rw [e i hi]; exact hlen i hi
  ·rw [e i hi] at he; exact hc i k c hi he
  ·rw [e i hi] at he; exact h1 i k c hi he
  ·rw [e i hi] at he; exact hr i k c hi he
def vfOf (m : Msg) : VF := match m.views with
 | [] => .nil
 | v :: _ => .one v
def hdS (s : ES) (m : Msg) : ES × List Msg :=
 bif decide (m.kind = 20) then h20P s m else bif decide (m.kind = 9) then h9P s m else bif decide (m.kind = 21) then h21P s m else (h7P s m (vfOf m), [])
structure HdOk (s : ES) (m : Msg) : Prop where
 h : HOk s
 ne : s.fz ≠ .emp
 lt : s.fz.l.length < 1000
 l : s.l.length < 1000
 sh : m.shard = 0
 k : m.kind = 20 \/ (m.kind = 9 /\ CpOk m /\ VNum m.ver) \/ m.kind = 21 \/ (m.kind = 7 /\ (m.views = [] \/ ∃ v, m.views = [v] /\ v.shard = 0))
theorem kM_eq {m : Msg} {k : Int} (h : m.kind = k) (hs : m.shard = 0) : kM m k = m := by
 obtain ⟨⟩ := m
 simp only at h hs
 subst h hs
 rfl
theorem handle7 {s : ES} {m : Msg} (h : HOk s) (hk : m.kind = 7) (hv : m.views = [] \/ ∃ v, m.views = [v] /\ v.shard = 0) : Contract PG F_coord_Handle [.agg (buT s), .agg (encCf s.c), .agg (encMsg m)] [] (ansB (h7P s m (vfOf m), [])) [] := by
 obtain ⟨k, src, dst, boot, sboot, shard, epoch, gen, sess, num, a, code, has, fresh, key, val, ver, floor, op, entries, chain, views, image⟩ := m
 simp only at hk hv
 subst hk
 rcases hv with hv | ⟨v, hv, hs⟩
 ·subst hv
  have c1 := h7_all (m := ⟨7, src, dst, boot, sboot, shard, epoch, gen, sess, num, a, code, has, fresh, key, val, ver, floor, op, entries, chain, [], image⟩) (x := .nil) h
  have c2 := h7_all (m := ⟨7, src, dst, boot, sboot, shard, epoch, gen, sess, num, a, code, has, fresh, key, val, ver, floor, op, entries, chain, [], image⟩) (x := .emp) h
  refine Contract.split ?_ c1 c2
  exact OrC.of [.agg (buT s), .agg (encCf s.c)] [] (.agg (OrC.of ((encMsg ⟨7, src, dst, boot, sboot, shard, epoch, gen, sess, num, a, code, has, fresh, key, val, ver, floor, op, entries, chain, [], image⟩).take 25) ((encMsg ⟨7, src, dst, boot, sboot, shard, epoch, gen, sess, num, a, code, has, fresh, key, val, ver, floor, op, entries, chain, [], image⟩).drop 26) .nil))
 ·subst hv
  have c1 := h7_all (m := ⟨7, src, dst, boot, sboot, shard, epoch, gen, sess, num, a, code, has, fresh, key, val, ver, floor, op, entries, chain, [v], image⟩) (x := .one v) h
  refine c1.args (.cons (.refl _) (.cons (.refl _) (.cons (.agg ?_) (.refl _))))
  have hve : ({ v with shard := 0 } : Md.View) = v := by
   obtain ⟨⟩ := v
   simp only at hs
   subst hs; rfl
  have h1 : SubV (encViews [v]) (.trl 5 [encView { v with shard := 0 }]) := by
   rw [hve]; exact SubV.tr1
  exact subC_all (by repeat' (first | exact trivial | exact SubV.refl _ | exact h1 | refine ⟨?_, ?_⟩))
theorem handle_all {s : ES} {m : Msg} (h : HdOk s m) : Contract PG F_coord_Handle [.agg (buT s), .agg (encCf s.c), .agg (encMsg m)] [] (ansB (hdS s m)) [] := by
 unfold hdS
 rcases h.k with k | ⟨k, k1, k2⟩ | k | ⟨k, kv⟩
 ·have c := h20_con (m := m) h.h
  rw [kM_eq k h.sh] at c
  rw [decide_eq_true k]; exact c
 ·have c := h9_con (m := m) ⟨h.h, h.ne, h.lt, by rw [kM_eq k h.sh]; exact k1, k2⟩
  rw [kM_eq k h.sh] at c
  rw [decide_eq_false (by omega), decide_eq_true k]; exact c
 ·have c := h21_con (m := m) h.h h.ne h.l
  rw [kM_eq k h.sh] at c
  rw [decide_eq_false (by omega), decide_eq_false (by omega), decide_eq_true k]; exact c
 ·rw [decide_eq_false (by omega), decide_eq_false (by omega), decide_eq_false (by omega)]
  exact handle7 h.h k kv
structure HX where
 b : Bu
 c : CConf
 m : Msg
def encHX (x : HX) : List AV := [.agg (encBu x.b), .agg (encCf x.c), .agg (encMsg x.m)]
def decHX (a : List AV) : HX := ⟨decBu (argC a 0), decCf (argC a 1), decMsg (argC a 2)⟩
theorem dec_encHX (x : HX) : decHX (encHX x) = x := by
 obtain ⟨b, c, m⟩ := x
 have := dec_encBu b []
 rw [List.append_nil] at this
 show (⟨decBu (encBu b), c, decMsg (encMsg m)⟩ : HX) = _
 rw [this, dec_encMsg]
def pHX (x : HX) : Prop := HdOk (x.b.es x.c) x.m
def oHX (x : HX) : AV := ansU (hdS (x.b.es x.c) x.m)
def kHd : Known := .spec F_coord_Handle decHX pHX encHX oHX
theorem kHd_ok : kHd.Ok PG := Known.spec_ok fun x h => handle_all h
theorem qHd {R : Type} {b : Bu} {c : CConf} {m : Msg} {K : HX -> Option R} (h : HdOk (b.es c) m) : gC decHX pHX encHX [.agg (encBu b), .agg (encCf c), .agg (encMsg m)] K = K ⟨b, c, m⟩ := gC_eq (⟨b, c, m⟩ : HX) (dec_encHX ⟨b, c, m⟩) h (.refl _)
def kns72 : List Known := [kDo10, kHd, kHandle, kLay]
theorem kns72_ok : ∀ k ∈ kns72, k.Ok PG := ak kDo10_ok (ak kHd_ok (ak kHandle_ok (ak kLay_ok ank)))
theorem con72 {n f : Nat} {xs : List AV} {r : AV} (e : callT (envO kns72) n f xs = some r) : Contract PG f xs [] r [] := con_of (md := fun _ => none) kns72_ok e
def zPB : List AV := [.int .i64 0, .int .i64 0, .nils, .nils, .nils, .nils, .nils, .nils, .nils, .nils, .cplx .f64 0 0, .int .i64 0]
def SGv (p : PlayB) (m : Msg) (i : Int) : St := { fr := [(3, .ptr 0 0 0), (5, .ptr 1 0 0), (6, .ptr 2 0 0), (12, .int .i64 i)], hp := [.arr true 12 [encPB p], .arr true 31 [encMsg m], .arr true 12 [zPB]] }
def LGv (N j : Nat) (S : St) : Option AV := LP (envO kns72) N 0 F_lockgatelaw21_give snK 0 [] j S
theorem give_eq (N : Nat) (p : PlayB) (c : CConf) (m : Msg) : callT (envO kns72) (N + 1) F_lockgatelaw21_give [.agg (encPB p), .agg (encCf c), .agg (encMsg m)] =
 bif decide (m.dst = 0) then gC dD10 (fun _ => True) eD10 [stV p.fe, .agg (encMsg m)] fun y0 => gC dLay pLay eLay [.agg (encPB { p with fe := maxI y0.1 y0.2 }), .trl 31 [encMsg (fncMg (maxI y0.1 y0.2))]] fun y1 => some (.agg (encPB (layB y1.1 y1.2)))
 else bif decide (m.dst = 1) then gC decHX pHX encHX [.agg (encBu p.b), .agg (encCf c), .agg (encMsg m)] fun y2 => gC dLay pLay eLay [.agg (encPB { p with b := (hdS (y2.b.es y2.c) y2.m).1.bu }), encMsgs (hdS (y2.b.es y2.c) y2.m).2] fun y3 => some (.agg (encPB (layB y3.1 y3.2)))
 else LGv N N (SGv p m 0) := by kernel_rfl
def setRs (l : List Rep) (k : Nat) (r : Rep) : AV := .tr 15 l.length fun i => bif Nat.beq i (0 + k) then encRep r else encRep (l.getD i default)
theorem setRs_sub (l : List Rep) (k : Nat) (r : Rep) : SubV (setRs l k r) (encReps (l.set k r)) := by
 unfold setRs encReps encL
 rw [List.length_set]
 refine SubV.trs fun i hi => ?_
 rw [Nat.zero_add]
 by_cases e : i = k
 ·subst e
  rw [AM.beq_true rfl, cond_true]
  have : (l.set i r).getD i default = r := by simp [List.getD, hi]
  rw [this]; exact .refl _
 ·rw [AM.beq_false e, cond_false]
  have : (l.set k r).getD i default = l.getD i default := by
   unfold List.getD
   rw [List.getElem?_set_ne (fun x => e x.symm)]
  rw [this]; exact .refl _
theorem setRs_dec (l : List Rep) (k : Nat) (r : Rep) : decL decRep (setRs l k r) = l.set k r := by
 show (List.range l.length).map (fun i => decRep (bif Nat.beq i (0 + k) then encRep r else encRep (l.getD i default))) = l.set k r
 refine List.ext_getElem (by simp) fun i h1 h2 => ?_
 have hi : i < l.length := by simpa using h1
 simp only [List.getElem_map, List.getElem_range]
 rw [Nat.zero_add]
 by_cases e : i = k
 ·subst e
  rw [AM.beq_true rfl, cond_true, dec_encRep]
  simp
 ·rw [AM.beq_false e, cond_false, dec_encRep, List.getElem_set_ne (fun x => e x.symm)]
  simp [List.getD, hi]
def plR (p : PlayB) (R : AV) : List AV := encBu p.b ++ [stV p.fe, R, encMsgs p.way, eV p.safe, .int .i64 p.reset]
def gvHit (p : PlayB) (m : Msg) (i : Int) : Option AV :=
 rg i p.reps.length <| gC dRMs pRMs eRMs [.agg (encRep (p.reps.getD i.toNat default)), .agg (encMsg m)] fun y0 =>
 bif Nat.ble ((0 + p.reps.length) * 208) 140737488355328 && Nat.ble (0 + p.reps.length) 140737488355328 then
  bif Nat.beq p.reps.length 0 then bif decide (0 <= i) && decide (i < ((0 : Nat) : Int)) then none else none else
  rg i p.reps.length <| bif Nat.blt (0 + i.toNat) p.reps.length && true then bif (Nat.beq p.reps.length 0 || Nat.ble p.reps.length p.reps.length) && true && true then
   gC dLay pLay eLay [.agg (plR p (setRs p.reps i.toNat (handP y0.1 y0.2).1)), encMsgs (handP y0.1 y0.2).2] fun y1 => some (.agg (encPB (layB y1.1 y1.2))) else none else none
 else none
theorem give_st (N j : Nat) (p : PlayB) (m : Msg) (i : Int) : LGv N (j + 1) (SGv p m i) =
 bif decide (i < (p.reps.length : Int)) then rg i p.reps.length <| bif decide ((p.reps.getD i.toNat default).self.node = m.dst) then gvHit p m i else LGv N j (SGv p m (IntKind.i64.wrap (i + 1)))
 else some (.agg (encPB p)) := by kernel_rfl
def rpB (p : PlayB) (i : Nat) : Rep := p.reps.getD i default
def putB (p : PlayB) (i : Nat) (r : Rep) : PlayB := { p with reps := p.reps.set i r }
def giveR (m : Msg) : Nat -> Nat -> PlayB -> PlayB
 | 0, _, p => p
 | d + 1, i, p => bif decide ((rpB p i).self.node = m.dst) then layB (putB p i (handP (rpB p i) m).1) (handP (rpB p i) m).2 else giveR m d (i + 1) p
def giveB (c : CConf) (p : PlayB) (m : Msg) : PlayB :=
 bif decide (m.dst = 0) then layB { p with fe := maxI p.fe m.epoch } [fncMg (maxI p.fe m.epoch)]
 else bif decide (m.dst = 1) then layB { p with b := (hdS (p.b.es c) m).1.bu } (hdS (p.b.es c) m).2
 else giveR m p.reps.length 0 p
structure GvOk (p : PlayB) (c : CConf) (m : Msg) : Prop where
 d0 : m.dst = 0 -> ∃ ep, m = fenMg ep
 d1 : m.dst = 1 -> HdOk (p.b.es c) m /\ (hdS (p.b.es c) m).2.length <= 10000
 d2 : ∀ i, i < p.reps.length -> (rpB p i).self.node = m.dst -> m.dst ≠ 0 -> m.dst ≠ 1 -> HandOk (rpB p i) m /\ Kinds m /\ (handP (rpB p i) m).2.length <= 10000
 way : p.way.length <= 10000
 rl : p.reps.length <= 100
theorem hit_eq {p : PlayB} {m : Msg} {i : Nat} (hi : i < p.reps.length) (hl : p.reps.length <= 100) (hw : p.way.length <= 10000) (h1 : HandOk (rpB p i) m) (h2 : Kinds m) (h3 : (handP (rpB p i) m).2.length <= 10000) :
  gvHit p m (i : Nat) = some (.agg (encPB (layB (putB p i (handP (rpB p i) m).1) (handP (rpB p i) m).2))) := by
 unfold gvHit
 rw [rg_eq hi, Int.toNat_natCast]
 have e0 : p.reps.getD i default = rpB p i := rfl
 have q : ∀ K : Rep × Msg -> Option AV, gC dRMs pRMs eRMs [.agg (encRep (rpB p i)), .agg (encMsg m)] K = K (rpB p i, m) := fun K => qRMs h1 h2
 rw [e0, q, roomV (n := 0 + p.reps.length) (b := 208) (by omega) (by omega), cond_true, AM.beq_false (by omega), cond_false, rg_eq hi, Nat.zero_add, blt_true hi, Bool.and_true, cond_true, ble_true (Nat.le_refl _), Bool.or_true, Bool.and_true, Bool.and_true, cond_true]
 dsimp only
 refine gC_eq (putB p i (handP (rpB p i) m).1, (handP (rpB p i) m).2) ?_ ⟨Nat.le_trans hw (by omega), Nat.le_trans h3 (by omega)⟩ (.cons (.agg ?_) (.refl _))
 ·refine Prod.ext ?_ (decMsgs _)
  have hb := dec_encBu p.b [stV p.fe, setRs p.reps i (handP (rpB p i) m).1, encMsgs p.way, eV p.safe, .int .i64 p.reset]
  show (⟨decBu (encBu p.b ++ [stV p.fe, setRs p.reps i (handP (rpB p i) m).1, encMsgs p.way, eV p.safe, .int .i64 p.reset]), p.fe, decL decRep (setRs p.reps i (handP (rpB p i) m).1), decL decMsg (encMsgs p.way), p.safe, p.reset⟩ : PlayB) = _
  rw [hb, setRs_dec, decMsgs]; rfl
 ·exact .cons (.refl _) (.cons (.refl _) (.cons (.refl _) (.cons (.refl _) (.cons (.refl _) (.cons (.refl _) (.cons (.refl _) (.cons (.refl _) (.cons (setRs_sub _ _ _) (.refl _)))))))))
theorem give_run {M : Nat} {p : PlayB} {c : CConf} {m : Msg} (h : GvOk p c m) (n0 : m.dst ≠ 0) (n1 : m.dst ≠ 1) : ∀ d i j, i + d = p.reps.length -> d < j -> LGv M j (SGv p m (i : Nat)) = some (.agg (encPB (giveR m d i p))) := by
 have hl := h.rl
 intro d
 induction d with
 | zero =>
  intro i j hi hj
  obtain ⟨j, rfl⟩ : ∃ k, j = k + 1 := ⟨j - 1, by omega⟩
  rw [give_st, decide_eq_false (by omega), cond_false]; rfl
 | succ d ih =>
  intro i j hi hj
  obtain ⟨j, rfl⟩ : ∃ k, j = k + 1 := ⟨j - 1, by omega⟩
  have hil : i < p.reps.length := by omega
  rw [give_st, decide_eq_true (by omega), cond_true, rg_eq hil, Int.toNat_natCast, wrapS (by omega), ih (i + 1) j (by omega) (by omega)]
  show (bif decide ((rpB p i).self.node = m.dst) then gvHit p m (i : Nat) else _) = some (.agg (encPB (bif decide ((rpB p i).self.node = m.dst) then _ else _)))
  cases hd : decide ((rpB p i).self.node = m.dst) with
  | false => rfl
  | true =>
   obtain ⟨a1, a2, a3⟩ := h.d2 i hil (of_decide_eq_true hd) n0 n1
   exact hit_eq hil hl h.way a1 a2 a3
structure GX3 where
 p : PlayB
 c : CConf
 m : Msg
def encGX3 (x : GX3) : List AV := [.agg (encPB x.p), .agg (encCf x.c), .agg (encMsg x.m)]
def decGX3 (a : List AV) : GX3 := ⟨decPB (argC a 0), decCf (argC a 1), decMsg (argC a 2)⟩
theorem give_con (x : GX3) (h : GvOk x.p x.c x.m) : Contract PG F_lockgatelaw21_give (encGX3 x) [] (.agg (encPB (giveB x.c x.p x.m))) [] := by
 obtain ⟨p, c, m⟩ := x
 have h : GvOk p c m := h
 have e := give_eq (p.reps.length + 1) p c m
 have hw := h.way
 show Contract PG _ (encGX3 ⟨p, c, m⟩) [] (.agg (encPB (giveB c p m))) []
 unfold giveB
 cases h0 : decide (m.dst = 0) with
 | true =>
  obtain ⟨ep, hm⟩ := h.d0 (of_decide_eq_true h0)
  subst hm
  have q0 : ∀ K : Int × Int -> Option AV, gC dD10 (fun _ => True) eD10 [stV p.fe, .agg (encMsg (fenMg ep))] K = K (p.fe, ep) := fun K => gC_eq (p.fe, ep) rfl trivial (.refl _)
  have q1 : ∀ K : PlayB × List Msg -> Option AV, gC dLay pLay eLay [.agg (encPB { p with fe := maxI p.fe ep }), .trl 31 [encMsg (fncMg (maxI p.fe ep))]] K = K ({ p with fe := maxI p.fe ep }, [fncMg (maxI p.fe ep)]) := fun K =>
   qLay (by show p.way.length <= 100000; omega) (by simp) (Prod.ext (dec_encPB _) (by show [decMsg (encMsg (fncMg (maxI p.fe ep)))] = _; rw [dec_encMsg])) (.cons (.refl _) (.cons (SubV.trl_encL (e := encMsg) (z := default) [fncMg (maxI p.fe ep)]) .nil))
  rw [h0, cond_true, q0] at e
  dsimp only at e
  rw [q1] at e
  exact con72 e
 | false =>
  have n0 := of_decide_eq_false h0
  rw [h0, cond_false] at e
  rw [cond_false]
  cases h1 : decide (m.dst = 1) with
  | true =>
   obtain ⟨a1, a2⟩ := h.d1 (of_decide_eq_true h1)
   have q1 : ∀ K : PlayB × List Msg -> Option AV, gC dLay pLay eLay [.agg (encPB { p with b := (hdS (p.b.es c) m).1.bu }), encMsgs (hdS (p.b.es c) m).2] K = K ({ p with b := (hdS (p.b.es c) m).1.bu }, (hdS (p.b.es c) m).2) := fun K =>
    qLay (by show p.way.length <= 100000; omega) (by omega) (Prod.ext (dec_encPB _) (decMsgs _)) (.refl _)
   rw [h1, cond_true, qHd a1] at e
   dsimp only at e
   rw [q1] at e
   exact con72 e
  | false =>
   have n1 := of_decide_eq_false h1
   have r := give_run (M := p.reps.length + 1) h n0 n1 p.reps.length 0 (p.reps.length + 1) (by omega) (by omega)
   rw [Int.natCast_zero] at r
   rw [h1, cond_false, r] at e
   exact con72 e
def kGive : Known := .spec F_lockgatelaw21_give decGX3 (fun x => GvOk x.p x.c x.m) encGX3 (fun x => .agg (encPB (giveB x.c x.p x.m)))
theorem kGive_ok : kGive.Ok PG := Known.spec_ok give_con
def kns74 : List Known := [kGive, kLay, kTick, kOpen, kBeat, kAgain, kCNew, kPush2, kREntry, kNext]
theorem kns74_ok : ∀ k ∈ kns74, k.Ok PG := ak kGive_ok (ak kLay_ok (ak kTick_ok (ak kOpen_ok (ak kBeat_ok (ak kAgain_ok (ak kCNew_ok (ak kPush2_ok (ak kREntry_ok (ak kNext_ok ank)))))))))
theorem con74 {n f : Nat} {xs : List AV} {r : AV} (e : callT (envO kns74) n f xs = some r) : Contract PG f xs [] r [] := con_of (md := fun _ => none) kns74_ok e
def slK {R : Type} (i n : Int) (k : Option R) : Option R := bif decide (0 <= i) && decide (i <= n) then k else none
def nz {R : Type} (n : Int) (k : Option R) : Option R := bif decide (n = 0) then none else k
def tmI (i n : Int) : Int := (IntKind.i64.wrap i).tmod n
def room {R : Type} (n b : Nat) (k : Option R) : Option R := bif Nat.ble (n * b) 140737488355328 && Nat.ble n 140737488355328 then k else none
def subF (w : List Msg) (o n : Nat) : Nat -> List AV := fun i => bif Nat.blt i n then encMsg (w.getD (o + i) default) else encMsg (w.getD w.length default)
def takW (w : List Msg) (t : Int) (E : Option AV) (S : Nat -> (Nat -> List AV) -> Option AV) : Option AV :=
 nz w.length <| slK t w.length <| room (0 + t.toNat) 392 <| bif Nat.beq t.toNat 0 then
  nz w.length <| slK (IntKind.i64.wrap (t + 1)) w.length <| room (0 + (w.length - (IntKind.i64.wrap (t + 1)).toNat)) 392 <| bif Nat.beq (w.length - (IntKind.i64.wrap (t + 1)).toNat) 0 then E else S (w.length - (IntKind.i64.wrap (t + 1)).toNat) (subF w (IntKind.i64.wrap (t + 1)).toNat (w.length - (IntKind.i64.wrap (t + 1)).toNat))
 else nz w.length <| slK (IntKind.i64.wrap (t + 1)) w.length <| bif Nat.beq t.toNat 0 || Nat.ble t.toNat t.toNat then room (t.toNat + (w.length - (IntKind.i64.wrap (t + 1)).toNat)) 392 <|
  bif Nat.beq (w.length - (IntKind.i64.wrap (t + 1)).toNat) 0 then S t.toNat (subF w 0 t.toNat) else S (t.toNat + (w.length - (IntKind.i64.wrap (t + 1)).toNat)) (appF t.toNat (subF w 0 t.toNat) (w.length - (IntKind.i64.wrap (t + 1)).toNat) (subF w (IntKind.i64.wrap (t + 1)).toNat (w.length - (IntKind.i64.wrap (t + 1)).toNat)))
  else none
def gW2 (n : Nat) (k : Option AV) : Option AV := bif (Nat.beq n 0 || Nat.ble n n) && true && true then k else none
theorem gW2_eq {n : Nat} {k : Option AV} : gW2 n k = k := by unfold gW2; rw [orU]; rfl
def outL (y : PlayB × List Msg) : Option AV := some (.agg (encPB (layB y.1 y.2)))
def dupL (p : PlayB) (x : Msg) : Option AV := gC dLay pLay eLay [.agg (encPB p), .trl 31 [encMsg x]] outL
def gvL (p : PlayB) (c : CConf) (x : Msg) (W : AV) : Option AV := gC decGX3 (fun x => GvOk x.p x.c x.m) encGX3 [plB p W, .agg (encCf c), .agg (encMsg x)] fun y => some (.agg (encPB (giveB y.c y.p y.m)))
def wayK (p : PlayB) (c : CConf) (K i : Int) : Option AV :=
 bif decide ((p.way.length : Int) = 0) then some (.agg (encPB p)) else nz p.way.length <| rg (tmI i p.way.length) p.way.length <|
  bif decide (K = 5) then dupL p (p.way.getD (tmI i p.way.length).toNat default) else
  takW p.way (tmI i p.way.length)
   (bif decide (K = 4) then some (plB p (.trl 31 [])) else gvL p c (p.way.getD (tmI i p.way.length).toNat default) (.trl 31 []))
   (fun n f => bif decide (K = 4) then gW n <| some (plB p (.tr 31 n f)) else gW2 n <| gvL p c (p.way.getD (tmI i p.way.length).toNat default) (.tr 31 n f))
def tickK (p : PlayB) (c : CConf) : Option AV := gC decBC2 (fun x => KOk (x.b.es x.c)) encBC2 [.agg (encBu p.b), .agg (encCf c)] fun y => gC dLay pLay eLay [.agg (encPB { p with b := (tickQ (y.b.es y.c)).1.bu }), encMsgs (tickQ (y.b.es y.c)).2] outL
def openK (p : PlayB) : Option AV := gC (fun a => decBk (argC a 0)) (fun k => k.p.chain.length <= 1000 /\ k.p.valid.length <= 1000) (fun k => [.agg (encBk k)]) [.agg [.int .i64 p.b.e, .int .i64 p.b.g, .trl 8 [encPlan p.b.p]]] fun y => some (.agg (encPB { p with b := openB y }))
def resC (n : Int) : List AV := [.int .i64 21, .int .i64 100, .int .i64 1, .int .i64 0, .int .i64 0, .int .i64 0, .int .i64 0, .int .i64 0, .int .i64 0, .int .i64 n, .int .i64 0, .int .i64 0, .bool false, .bool false, .str [], .str [], .cplx .f64 0 0, .cplx .f64 0 0, .int .i64 0, .str [], .str [], .str [], .bool false, .nils, .nils, .nils, .cplx .f64 0 0, .cplx .f64 0 0, .int .i64 0, .nils, .nils]
def resK (p : PlayB) : Option AV := gC dLay pLay eLay [.agg (encPB { p with reset := IntKind.i64.wrap (p.reset + 1) }), .trl 31 [resC (IntKind.i64.wrap (p.reset + 1))]] outL
def beatK (p : PlayB) (t : Int) : Option AV := gC (fun a => decRep (argC a 0)) (fun _ => True) (fun r => [.agg (encRep r)]) [.agg (encRep (p.reps.getD t.toNat default))] fun y0 => gC dLay pLay eLay [.agg (encPB p), .trl 31 [encMsg (beatMg y0)]] fun y1 =>
 gC dRep1 RepAg eRep1 [.agg (encRep (p.reps.getD t.toNat default))] fun y2 => gC dLay pLay eLay [.agg (encPB (layB y1.1 y1.2)), encMsgs (againP y2)] outL
def SPu (p : PlayB) (n : Nat) (f : Nat -> List AV) (j : Int) : St := { fr := [(3, .ptr 0 0 0), (6, .ptr 2 0 0), (15, .int .i64 j)], hp := [.arr true 12 [plR p (.sl 15 1 0 n 0)], .seq true 15 n f, .arr true 12 [zPB]] }
def SPe (p : PlayB) : St := { fr := [(3, .ptr 0 0 0), (6, .ptr 2 0 0), (15, .int .i64 0)], hp := [.arr true 12 [plR p (.sl 15 1 0 0 0)], .arr true 15 [], .arr true 12 [zPB]] }
def LPu (N j : Nat) (S : St) : Option AV := LP (envO kns74) N 0 F_lockgatelaw21_do snK 0 [] j S
def ro {R : Type} (n : Nat) (E K : Option R) : Option R := bif Nat.ble ((0 + n) * 208) 140737488355328 && Nat.ble (0 + n) 140737488355328 then bif Nat.beq n 0 then E else K else none
def cnG (p : PlayB) (t : Int) (K : Member -> Option AV) : Option AV := gC (fun a => decMember (argC a 1)) (fun _ => True) (fun m => [.int .i64 0, .agg (encMember m)]) [.int .i64 0, .agg [.int .i64 (p.reps.getD t.toNat default).self.node, .int .i64 (IntKind.i64.wrap ((p.reps.getD t.toNat default).self.boot + 1))]] K
def ix {R : Type} (i : Int) (n : Nat) (K : Option R) : Option R := rg i n <| bif (0 + i.toNat).blt n then K else none
def pshG (r : Rep) (K : RE -> Option AV) : Option AV := gC dVI pVI eVI [eV r.tail.last, .int .i64 r.view.epoch] fun y4 => gC dV1 VNum eV1 [eV (vr y4.2 (nu y4.1 + 1))] fun y5 => gC dRE pRE2 eRE [.agg (encRep r), .agg (encEntry (entP y5))] K
theorem pu_st (N j : Nat) (p : PlayB) (n : Nat) (g : Nat -> Rep) (i : Int) : LPu N (j + 1) (SPu p n (fun k => encRep (g k)) i) =
 bif decide (i < (n : Int)) then ix i n <| ix i n <| ix i n <| pshG (g (0 + i.toNat)) fun y => bif (headPush y).2 then rg i n <| bif (0 + i.toNat).blt n && true then
   LPu N j (SPu p n (fun k => bif k.beq (0 + i.toNat) then encRep (headPush y).1 else encRep (g k)) (IntKind.i64.wrap (i + 1))) else none
  else LPu N j (SPu p n (fun k => encRep (g k)) (IntKind.i64.wrap (i + 1)))
 else bif (n.beq 0 || (n + 0).ble n) && true then some (.agg (plR p (.tr 15 n fun k => encRep (g k)))) else none := by kernel_rfl
def doK (N : Nat) (p : PlayB) (c : CConf) (K i : Int) : Option AV :=
 bif decide (K <= 5) then wayK p c K i else bif decide (K = 6) then tickK p c else bif decide (K = 10) then openK p else bif decide (K = 11) then resK p else
 nz p.reps.length <| rg (tmI i p.reps.length) p.reps.length <| bif decide (K = 7) then beatK p (tmI i p.reps.length) else
  ro p.reps.length (bif decide (K = 8) then cnG p (tmI i p.reps.length) fun _ => bif decide (0 <= tmI i p.reps.length) && decide (tmI i p.reps.length < ((0 : Nat) : Int)) then none else none else LPu N N (SPe p))
   (bif decide (K = 8) then cnG p (tmI i p.reps.length) fun y => rg (tmI i p.reps.length) p.reps.length <| bif Nat.blt (0 + (tmI i p.reps.length).toNat) p.reps.length && true then bif (Nat.beq p.reps.length 0 || Nat.ble p.reps.length p.reps.length) && true then some (.agg (plR p (setRs p.reps (tmI i p.reps.length).toNat (rep0 y)))) else none else none
    else LPu N N (SPu p p.reps.length (fun k => encRep (p.reps.getD k default)) 0))
theorem do_eq (N : Nat) (p : PlayB) (c : CConf) (kd i : Int) : callT (envO kns74) (N + 1) F_lockgatelaw21_do [.agg (encPB p), .agg (encCf c), .agg [.int .u8 kd, .int .u8 i]] = doK N p c (tmI kd 12) i := by kernel_rfl
end Go.Wk
end
noncomputable section
open Go Go.AM Go.Md Go.Fl
namespace Go.Wk
set_option maxRecDepth 100000
set_option maxHeartbeats 400000
def ToIs (r : Rep) (x : Msg) : Prop := KindW x /\ 2 <= x.dst /\ x.src = r.self.node
theorem acks_to {E : Int} {N : Nat} {r : Rep} (h : RepIs E N r) : ∀ x ∈ acksP r, ToIs r x := by
 intro x hx
 have hk := acks_kind r x hx
 unfold acksP at hx
 split at hx
 ·cases hx
 ·rename_i m hs
  simp only [List.mem_singleton] at hx
  subst hx
  exact ⟨hk, (h.chain.2.2 _ (sideP_mem hs)).1, rfl⟩
theorem forws_to {E : Int} {N : Nat} {r : Rep} (h : RepIs E N r) : ∀ x ∈ forwsP r, ToIs r x := by
 intro x hx
 have hk := forws_kind r x hx
 unfold forwsP at hx
 split at hx
 ·cases hx
 ·rename_i m hs
  simp only [List.mem_singleton] at hx
  subst hx
  exact ⟨hk, (h.chain.2.2 _ (sideP_mem hs)).1, rfl⟩
theorem insts_to (r : Rep) : ∀ (l : List Member) (s : List Bool), (∀ m ∈ l, MemIs m) -> ∀ x ∈ instsP r l s, ToIs r x
 | [], s, _ => fun m hm => by simp [instsP] at hm
 | a :: l, [], _ => fun m hm => by simp [instsP] at hm
 | a :: l, b :: s, hl => fun m hm => by
  have ih := insts_to r l s (fun m hm => hl m (List.mem_cons_of_mem _ hm))
  unfold instsP at hm
  cases b with
  | true => exact ih m hm
  | false =>
   rw [cond_false] at hm
   rcases List.mem_cons.1 hm with e | e
   ·subst e; exact ⟨.inr (.inl rfl), (hl a (List.mem_cons_self ..)).1, rfl⟩
   ·exact ih m e
theorem again_to {E : Int} {N : Nat} {r : Rep} (h : RepIs E N r) : ∀ x ∈ againP r, ToIs r x := by
 intro m hm
 unfold againP at hm
 cases h1 : syncsP r with
 | true => rw [h1] at hm; exact insts_to r _ _ h.chain.2.2 m hm
 | false =>
  rw [h1, cond_false] at hm
  cases h2 : worksP r with
  | true =>
   rw [h2, cond_true] at hm
   rcases List.mem_append.1 hm with e | e
   ·exact forws_to h m e
   ·exact acks_to h m e
  | false => rw [h2] at hm; cases hm
def HdOut (r : Rep) (x : Msg) : Prop := (x.kind = 9 /\ x.dst = 1) \/ (KindW x /\ 2 <= x.dst /\ x.src = r.self.node)
theorem hand_to {E : Int} {N : Nat} {r : Rep} {m : Msg} (h : RepIs E N r) (hm : MsgIs E N m) (hEN : E <= N) (h8 : m.kind = 8 -> m.src = 1) (h11 : m.kind = 11 -> 2 <= m.src) : ∀ x ∈ (handP r m).2, HdOut r x := by
 intro x hx
 unfold handP at hx
 cases ht : toMe r m with
 | false => rw [ht] at hx; cases hx
 | true =>
  rw [ht, cond_true] at hx
  unfold handK at hx
  cases e8 : decide (m.kind = 8) with
  | true =>
   rw [e8, cond_true] at hx
   unfold freezeP at hx
   cases ha : aboveP r m with
   | false => rw [ha] at hx; cases hx
   | true =>
    rw [ha] at hx
    simp only [cond_true, List.mem_singleton] at hx
    subst hx
    exact .inl ⟨rfl, h8 (of_decide_eq_true e8)⟩
  | false =>
  rw [e8, cond_false] at hx
  right
  cases e10 : decide (m.kind = 10) with
  | true =>
   rw [e10, cond_true] at hx
   unfold actP at hx
   cases hg : actG r m with
   | false => rw [hg] at hx; cases hx
   | true =>
    rw [hg] at hx
    have hf : isFirst m.chain r.self = true := by unfold actG at hg; exact (and_true' (and_true' hg).2).1
    have hr := actR_is h hm hEN hf
    exact again_to hr x hx
  | false =>
  rw [e10, cond_false] at hx
  cases e11 : decide (m.kind = 11) with
  | true =>
   rw [e11, cond_true] at hx
   unfold insP at hx
   cases hi : decide (0 < idx m.chain r.self) with
   | false => rw [hi] at hx; cases hx
   | true =>
    have hself : (insR r m).self = r.self := by unfold insR; cases aboveP r m <;> rfl
    rw [hi] at hx
    simp only [cond_true] at hx
    cases hc : liveP (insR r m) && decide (m.epoch = (insR r m).view.epoch) with
    | false => rw [hc] at hx; cases hx
    | true =>
     rw [hc] at hx
     simp only [cond_true, List.mem_singleton] at hx
     subst hx
     exact ⟨.inr (.inr (.inl rfl)), h11 (of_decide_eq_true e11), by show (insR r m).self.node = _; rw [hself]⟩
  | false =>
  rw [e11, cond_false] at hx
  cases e12 : decide (m.kind = 12) with
  | true =>
   rw [e12, cond_true] at hx
   unfold indP at hx
   cases hc : syncsP r && (decide (m.epoch = r.view.epoch) && decide (0 <= idx r.view.chain (who m))) with
   | false => rw [hc] at hx; cases hx
   | true => rw [hc] at hx; cases hx
  | false =>
  rw [e12, cond_false] at hx
  cases e13 : decide (m.kind = 13) with
  | true =>
   rw [e13, cond_true] at hx
   unfold fwdP at hx
   cases hc : nextG r m (-1) with
   | false => rw [hc] at hx; cases hx
   | true =>
    rw [hc] at hx
    have := again_to (fwdR_is h hm) x hx
    exact ⟨this.1, this.2.1, by rw [this.2.2, (fwdR_self r m).self]⟩
  | false =>
  rw [e13, cond_false] at hx
  cases e14 : decide (m.kind = 14) with
  | true =>
   rw [e14, cond_true] at hx
   unfold ackP at hx
   cases hc : nextG r m 1 with
   | false => rw [hc] at hx; cases hx
   | true =>
    rw [hc] at hx
    have := acks_to (ackR_is h hm) x hx
    exact ⟨this.1, this.2.1, by rw [this.2.2]; unfold ackR; cases vlt r.tail.last m.ver <;> rfl⟩
  | false => rw [e14] at hx; cases hx
def resMg (n : Int) : Msg := { msgZ with kind := 21, src := 100, dst := 1, num := n }
inductive WyM (N : Nat) : Msg -> Prop
 | fence (ep : Int) : WyM N (fenMg ep)
 | fenced (ep : Int) : WyM N (fncMg ep)
 | beat (r : Rep) (h : MemIs r.self) (h1 : r.self.boot <= N) : WyM N (beatMg r)
 | froze (m : Msg) (h : MsgIs N N m) (hk : m.kind = 9) (hd : m.dst = 1) : WyM N m
 | reset (n : Int) : WyM N (resMg n)
 | chain (m : Msg) (h : MsgIs N N m) (hk : Kinds m) (hd : 2 <= m.dst) (h8 : m.kind = 8 -> m.src = 1) (h11 : m.kind = 11 -> 2 <= m.src) : WyM N m
 | was (a : Ask) (h : a.1 = 100) : WyM N (wasMg a)
theorem WyM.mono {N M : Nat} {m : Msg} (h : WyM N m) (hm : N <= M) : WyM M m := by
 cases h with
 | fence ep => exact .fence ep
 | fenced ep => exact .fenced ep
 | beat r h h1 => exact .beat r h (by omega)
 | froze _ h hk hd => exact .froze m (h.mono (by omega) hm) hk hd
 | reset n => exact .reset n
 | chain _ h hk hd h8 h11 => exact .chain m (h.mono (by omega) hm) hk hd h8 h11
 | was a h => exact .was a h
theorem KindW.kinds {m : Msg} (h : KindW m) : Kinds m := .inr h
theorem KindW.n8 {m : Msg} (h : KindW m) : m.kind ≠ 8 := by
 rcases h with h | h | h | h | h <;> rw [h] <;> decide
theorem WyM.to {N : Nat} {r : Rep} {x : Msg} (h : ToIs r x) (hr : MemIs r.self) (hx : MsgIs N N x) : WyM N x :=
 .chain x hx h.1.kinds h.2.1 (fun e => absurd e h.1.n8) (fun _ => by rw [h.2.2]; exact hr.1)
theorem WyM.hd {N : Nat} {r : Rep} {x : Msg} (h : HdOut r x) (hr : MemIs r.self) (hx : MsgIs N N x) : WyM N x := by
 rcases h with ⟨h1, h2⟩ | h
 ·exact .froze x hx h1 h2
 ·exact .to h hr hx
theorem MsgIs.cp {E : Int} {N : Nat} {m : Msg} (h : MsgIs E N m) (hN : N <= 1000) : CpOk m := by
 have h1 := h.elen
 have h2 := h.chain.1
 have h3 := h.img.len
 have h4 := (h.img.la.le hN).2
 have h5 := h.iseen.1
 have h3 : m.image.log.length <= nu m.image.last := h3
 have h4 : nu m.image.last <= N := h4
 exact ⟨by unfold shortL LB; omega, by unfold shortL LB; omega, h.views, by unfold shortL LB; omega, by unfold shortL LB; omega⟩
def MemL (l : List Member) : Prop := l.length <= 3 /\ l.Nodup /\ ∀ m ∈ l, MemIs m
theorem MemL.nil : MemL [] := ⟨Nat.zero_le _, List.nodup_nil, fun m hm => by cases hm⟩
theorem MemL.chain {l : List Member} (h : MemL l) : ChainIs l := ⟨by have := h.1; omega, h.2.1, h.2.2⟩
theorem isM_eq {m x : Member} : isM m x = true ↔ x = m := by
 obtain ⟨a, b⟩ := m
 obtain ⟨c, d⟩ := x
 unfold isM
 simp
theorem dropM_sub (m : Member) : ∀ l, (dropM m l).Sublist l
 | [] => .slnil
 | x :: r => by
  unfold dropM
  cases isM m x with
  | true => exact List.sublist_cons_self x r
  | false => exact (dropM_sub m r).cons_cons x
theorem dropM_not {m : Member} : ∀ {l : List Member}, l.Nodup -> m ∉ dropM m l
 | [], _ => by unfold dropM; simp
 | x :: r, h => by
  have h2 := List.nodup_cons.1 h
  unfold dropM
  cases hx : isM m x with
  | true =>
   have := isM_eq.1 hx
   subst this; exact h2.1
  | false =>
   rw [cond_false]
   intro hm
   rcases List.mem_cons.1 hm with e | e
   ·rw [isM_eq.2 e.symm] at hx; cases hx
   ·exact dropM_not h2.2 e
theorem dropM_lenA {m : Member} : ∀ {l : List Member}, l.any (isM m) = true -> (dropM m l).length + 1 = l.length
 | [], h => by simp at h
 | x :: r, h => by
  unfold dropM
  cases hx : isM m x with
  | true => simp
  | false =>
   rw [List.any_cons, hx, Bool.false_or] at h
   have := dropM_lenA h
   simp only [cond_false, List.length_cons]; omega
theorem leadP_is {l : List Member} {m : Member} (h : MemL l) : MemL (leadP l m) := by
 unfold leadP
 cases ha : l.any (isM m) with
 | false => exact h
 | true =>
  obtain ⟨x, hx, hm⟩ := List.any_eq_true.1 ha
  have := isM_eq.1 hm
  subst this
  have hd := dropM_lenA ha
  exact ⟨by have := h.1; simp only [cond_true, List.length_cons]; omega, List.nodup_cons.2 ⟨dropM_not h.2.1, (dropM_sub _ _).nodup h.2.1⟩, fun y hy => by
   rcases List.mem_cons.1 hy with e | e
   ·subst e; exact h.2.2 _ hx
   ·exact h.2.2 _ ((dropM_sub _ _).subset e)⟩
theorem chainL_is (keep : List Member) (c : Int) : ∀ (up out : List Member), up.Nodup -> (∀ m ∈ up, MemIs m) -> out.Nodup -> (∀ m ∈ out, MemIs m) -> (∀ m ∈ up, m ∈ out -> hasNode keep m.node = true) -> (chainL keep c up out).Nodup /\ ∀ m ∈ chainL keep c up out, MemIs m
 | [], out, _, _, h3, h4, _ => ⟨h3, h4⟩
 | m :: r, out, h1, h2, h3, h4, h5 => by
  obtain ⟨n1, n2⟩ := List.nodup_cons.1 h1
  unfold chainL
  cases decide (c <= (out.length : Int)) with
  | true => exact ⟨h3, h4⟩
  | false =>
   rw [cond_false]
   cases hk : hasNode keep m.node with
   | true => exact chainL_is keep c r out n2 (fun x hx => h2 x (List.mem_cons_of_mem _ hx)) h3 h4 (fun x hx => h5 x (List.mem_cons_of_mem _ hx))
   | false =>
    rw [cond_false]
    have hm : m ∉ out := fun e => by
     have := h5 m (List.mem_cons_self ..) e
     rw [hk] at this; cases this
    refine chainL_is keep c r (out ++ [m]) n2 (fun x hx => h2 x (List.mem_cons_of_mem _ hx)) ?_ ?_ ?_
    ·exact List.nodup_append.2 ⟨h3, by simp, fun a ha b hb => by
      have : b = m := by simpa using hb
      subst this
      exact fun e => hm (e ▸ ha)⟩
    ·intro x hx
     rcases List.mem_append.1 hx with e | e
     ·exact h4 x e
     ·have : x = m := by simpa using e
      subst this; exact h2 _ (List.mem_cons_self ..)
    ·intro x hx hxo
     rcases List.mem_append.1 hxo with e | e
     ·exact h5 x (List.mem_cons_of_mem _ hx) e
     ·have : x = m := by simpa using e
      subst this; exact absurd hx n1
theorem hasNode_mem {l : List Member} {m : Member} (h : m ∈ l) : hasNode l m.node = true := List.any_eq_true.2 ⟨m, h, decide_eq_true rfl⟩
theorem chainP_is {keep up : List Member} {c : Int} (hk : MemL keep) (hu : up.Nodup) (hm : ∀ m ∈ up, MemIs m) (hc : c <= 3) : MemL (chainP keep up c) := by
 have := chainL_is keep c up keep hu hm hk.2.1 hk.2.2 (fun m _ h => hasNode_mem h)
 exact ⟨chainL_len keep c up keep 3 hk.1 (by omega), this.1, this.2⟩
structure NsIs (N : Nat) (ns : List Alive) : Prop where
 len : ns.length <= N
 srt : ns.Pairwise fun a b => a.member.node < b.member.node
 mem : ∀ a ∈ ns, MemIs a.member
 mis : ∀ a ∈ ns, 0 <= a.missed /\ a.missed <= N
theorem upP_nodup {ns : List Alive} {s : Int} (h : ns.Pairwise fun a b => a.member.node < b.member.node) : (upP ns s).Nodup := by
 unfold upP
 refine List.Pairwise.filterMap _ (R := fun a b : Alive => a.member.node < b.member.node) (fun a b hab x hx y hy => ?_) h
 cases ha : decide (a.missed <= s) with
 | false => rw [ha] at hx; simp at hx
 | true =>
  cases hb : decide (b.missed <= s) with
  | false => rw [hb] at hy; simp at hy
  | true =>
   rw [ha] at hx; rw [hb] at hy
   simp at hx hy
   subst hx hy
   intro e
   rw [e] at hab
   omega
theorem upP_mem {ns : List Alive} {s : Int} {m : Member} (h : m ∈ upP ns s) : ∃ a ∈ ns, a.member = m := by
 obtain ⟨a, ha, he⟩ := List.mem_filterMap.1 h
 refine ⟨a, ha, ?_⟩
 cases hb : decide (a.missed <= s) with
 | false => rw [hb] at he; simp at he
 | true => rw [hb] at he; simpa using he
theorem srt_at {ns : List Alive} (h : ns.Pairwise fun a b => a.member.node < b.member.node) {i j : Nat} (hij : i < j) (hj : j < ns.length) : nodeAt ns i < nodeAt ns j := by
 have := List.pairwise_iff_getElem.1 h i j (by omega) hj hij
 unfold nodeAt
 simpa [List.getD, List.getElem?_eq_getElem hj, List.getElem?_eq_getElem (show i < ns.length by omega)] using this
theorem bsL_ok {ns : List Alive} {t : Int} (h : ns.Pairwise fun a b => a.member.node < b.member.node) : ∀ (k i j : Nat), j - i < k -> i <= j -> j <= ns.length -> (∀ q, q < i -> nodeAt ns q < t) -> (∀ q, j <= q -> q < ns.length -> t <= nodeAt ns q) ->
  (∀ q, q < bsL ns t k i j -> nodeAt ns q < t) /\ (∀ q, bsL ns t k i j <= q -> q < ns.length -> t <= nodeAt ns q)
 | 0, i, j, hk, _, _, _, _ => by omega
 | k + 1, i, j, hk, hij, hj, h1, h2 => by
  unfold bsL
  by_cases hlt : i < j
  ·rw [decide_eq_true hlt, cond_true]
   cases hd : decide (nodeAt ns ((i + j) / 2) < t) with
   | true =>
    have hd := of_decide_eq_true hd
    refine bsL_ok h k _ _ (by omega) (by omega) hj (fun q hq => ?_) h2
    by_cases e : q = (i + j) / 2
    ·rw [e]; exact hd
    ·have := srt_at h (i := q) (j := (i + j) / 2) (by omega) (by omega)
     omega
   | false =>
    have hd := of_decide_eq_false hd
    refine bsL_ok h k _ _ (by omega) (by omega) (by omega) h1 (fun q hq hql => ?_)
    by_cases e : q = (i + j) / 2
    ·rw [e]; omega
    ·have := srt_at h (i := (i + j) / 2) (j := q) (by omega) hql
     omega
  ·rw [decide_eq_false hlt, cond_false]
   have : i = j := by omega
   subst this
   exact ⟨h1, h2⟩
theorem bsP_ok {ns : List Alive} {t : Int} (h : ns.Pairwise fun a b => a.member.node < b.member.node) : (∀ q, q < bsP ns t -> nodeAt ns q < t) /\ (∀ q, bsP ns t <= q -> q < ns.length -> t <= nodeAt ns q) :=
 bsL_ok h (ns.length + 1) 0 ns.length (by omega) (by omega) (by omega) (fun q hq => by omega) (fun q hq hq2 => by omega)
theorem putNs_is {N : Nat} {ns : List Alive} {m : Msg} (h : NsIs N ns) (hm : MemIs ⟨m.src, m.sboot⟩) : NsIs (N + 1) (putNs ns m) := by
 obtain ⟨b1, b2⟩ := bsP_ok (t := m.src) h.srt
 have hle := bsP_le ns m.src
 have hA : MemIs (alM m).member := hm
 have hmis : 0 <= (alM m).missed /\ (alM m).missed <= ((N + 1 : Nat) : Int) := by show (0 : Int) <= 0 /\ (0 : Int) <= _; omega
 have hold : ∀ a ∈ ns, 0 <= a.missed /\ a.missed <= ((N + 1 : Nat) : Int) := fun a ha => by have := h.mis a ha; omega
 unfold putNs
 cases hi : isAt ns m.src (bsP ns m.src) with
 | true =>
  rw [cond_true]
  unfold isAt at hi
  rw [Bool.and_eq_true, Bool.and_eq_true] at hi
  have hlt : bsP ns m.src < ns.length := of_decide_eq_true hi.1
  have e1 : ¬ nodeAt ns (bsP ns m.src) < m.src := by simpa using hi.2.1
  have e2 : ¬ m.src < nodeAt ns (bsP ns m.src) := by simpa using hi.2.2
  have e : nodeAt ns (bsP ns m.src) = m.src := by omega
  have hmem : ∀ a ∈ ns.set (bsP ns m.src) (alM m), a ∈ ns \/ a = alM m := fun a ha => List.mem_or_eq_of_mem_set ha
  refine ⟨by rw [List.length_set]; have := h.len; omega, ?_, fun a ha => ?_, fun a ha => ?_⟩
  ·refine List.pairwise_iff_getElem.2 fun i j hi hj hij => ?_
   have hi' : i < ns.length := by simpa using hi
   have hj' : j < ns.length := by simpa using hj
   have hn : ∀ q (hq : q < (ns.set (bsP ns m.src) (alM m)).length) (hq' : q < ns.length), ((ns.set (bsP ns m.src) (alM m))[q]).member.node = nodeAt ns q := by
    intro q hq hq'
    rw [List.getElem_set]
    by_cases hx : bsP ns m.src = q
    ·rw [if_pos hx, <- hx, e]; rfl
    ·rw [if_neg hx]; unfold nodeAt; simp [List.getD, List.getElem?_eq_getElem hq']
   rw [hn i hi hi', hn j hj hj']
   exact srt_at h.srt hij hj'
  ·rcases hmem a ha with x | x
   ·exact h.mem a x
   ·subst x; exact hA
  ·rcases hmem a ha with x | x
   ·exact hold a x
   ·subst x; exact hmis
 | false =>
  rw [cond_false]
  have hlow : ∀ a ∈ ns.take (bsP ns m.src), a.member.node < m.src := by
   intro a ha
   obtain ⟨q, hq, he⟩ := List.getElem_of_mem ha
   have hq1 : q < bsP ns m.src := by simp at hq; omega
   have hq2 : q < ns.length := by simp at hq; omega
   have := b1 q hq1
   unfold nodeAt at this
   rw [<- he]
   simpa [List.getD, List.getElem?_eq_getElem hq2] using this
  have hhigh : ∀ a ∈ ns.drop (bsP ns m.src), m.src < a.member.node := by
   intro a ha
   obtain ⟨q, hq, he⟩ := List.getElem_of_mem ha
   have hq2 : bsP ns m.src + q < ns.length := by simp at hq; omega
   have h1 := b2 (bsP ns m.src + q) (by omega) hq2
   have hne : nodeAt ns (bsP ns m.src + q) ≠ m.src := by
    intro e
    by_cases hq0 : q = 0
    ·subst hq0
     have hlt : bsP ns m.src < ns.length := by omega
     have : isAt ns m.src (bsP ns m.src) = true := by
      unfold isAt
      rw [Nat.add_zero] at e
      rw [decide_eq_true hlt, e, decide_eq_false (by omega)]; rfl
     rw [this] at hi; cases hi
    ·have h2 := b2 (bsP ns m.src) (Nat.le_refl _) (by omega)
     have h3 := srt_at h.srt (i := bsP ns m.src) (j := bsP ns m.src + q) (by omega) hq2
     omega
   have h4 : nodeAt ns (bsP ns m.src + q) = a.member.node := by
    rw [<- he]
    unfold nodeAt
    simp [List.getD, List.getElem?_eq_getElem hq2]
   omega
  have hmem : ∀ a ∈ insL ns (bsP ns m.src) (alM m), a ∈ ns \/ a = alM m := by
   intro a ha
   unfold insL at ha
   rcases List.mem_append.1 ha with x | x
   ·exact .inl (List.mem_of_mem_take x)
   ·rcases List.mem_cons.1 x with x | x
    ·exact .inr x
    ·exact .inl (List.mem_of_mem_drop x)
  refine ⟨by rw [insL_len hle]; have := h.len; omega, ?_, fun a ha => ?_, fun a ha => ?_⟩
  ·unfold insL
   refine List.pairwise_append.2 ⟨h.srt.sublist (List.take_sublist _ _), List.pairwise_cons.2 ⟨hhigh, h.srt.sublist (List.drop_sublist _ _)⟩, fun a ha b hb => ?_⟩
   have h1 := hlow a ha
   rcases List.mem_cons.1 hb with x | x
   ·subst x; exact h1
   ·have := hhigh b x; omega
  ·rcases hmem a ha with x | x
   ·exact h.mem a x
   ·subst x; exact hA
  ·rcases hmem a ha with x | x
   ·exact hold a x
   ·subst x; exact hmis
theorem putNs_ne {ns : List Alive} {m : Msg} : putNs ns m = [] -> ns = [] := by
 unfold putNs
 cases isAt ns m.src (bsP ns m.src) with
 | true => intro h; simpa using h
 | false => intro h; unfold insL at h; simp at h
theorem NsIs.inc {N : Nat} {ns : List Alive} (h : NsIs N ns) (hN : N <= 1000) : NsIs (N + 1) (ns.map incA) := by
 refine ⟨by rw [List.length_map]; have := h.len; omega, ?_, fun a ha => ?_, fun a ha => ?_⟩
 ·exact List.pairwise_map.2 h.srt
 ·obtain ⟨x, hx, e⟩ := List.mem_map.1 ha
  subst e; exact h.mem x hx
 ·obtain ⟨x, hx, e⟩ := List.mem_map.1 ha
  subst e
  have := h.mis x hx
  show 0 <= IntKind.i64.wrap (x.missed + 1) /\ IntKind.i64.wrap (x.missed + 1) <= _
  rw [wrap64 (by omega)]
  omega
structure SI (N : Nat) (s : ES) : Prop where
 c1 : 1 <= s.c.chain
 c2 : s.c.chain <= 3
 op : s.op = .nil
 ep0 : 0 <= s.p.epoch
 ep : s.p.epoch <= N
 g0 : 0 <= s.g
 g : s.g <= N
 pg0 : 0 <= s.p.gen
 pg : s.p.gen <= N
 ch : MemL s.p.chain
 va : MemL s.p.valid
 ns : NsIs N s.ns
 ke : MemL s.keep
 fl : s.fz.l.length <= N
 fz : ∀ f ∈ s.fz.l, MsgIs N N f
 ne : s.fz ≠ .emp
 ll : s.l.length <= N
 l : ∀ a ∈ s.l, a.1 = 100
 kn : s.ns = [] -> s.keep = []
theorem NsIs.mono {N M : Nat} {ns : List Alive} (h : NsIs N ns) (hm : N <= M) : NsIs M ns := ⟨by have := h.len; omega, h.srt, h.mem, fun a ha => by have := h.mis a ha; omega⟩
theorem SI.mono {N M : Nat} {s : ES} (h : SI N s) (hm : N <= M) : SI M s :=
 { h with ep := by have := h.ep; omega, g := by have := h.g; omega, pg := by have := h.pg; omega, ns := h.ns.mono hm, fl := by have := h.fl; omega, fz := fun f hf => (h.fz f hf).mono (by omega) hm, ll := by have := h.ll; omega }
theorem SI.eok {N : Nat} {s : ES} (h : SI N s) (hN : N <= 1000) : EOk s where
 ch := by have := h.ch.1; omega
 ns := by have := h.ns.len; omega
 keep := h.ke.1
 fz := by have := h.fl; omega
 ver := fun f hf => (h.fz f hf).ver.num hN
 c1 := h.c1
 c2 := by have := h.c2; omega
 l := by have := h.ll; omega
theorem SI.hok {N : Nat} {s : ES} (h : SI N s) (hN : N <= 1000) (hn : s.nb = false) : HOk s := ⟨h.eok hN, hn, h.op, by have := h.va.1; omega, fun f hf => (h.fz f hf).cp hN⟩
theorem SI.kok {N : Nat} {s : ES} (h : SI N s) (hN : N <= 1000) (hn : s.nb = false) : KOk s := ⟨h.eok hN, hn, h.op, h.va.1, fun f hf => (h.fz f hf).cp hN, h.kn⟩
theorem SI.up {N : Nat} {s : ES} (h : SI N s) : (upP s.ns s.c.susp).Nodup /\ ∀ m ∈ upP s.ns s.c.susp, MemIs m := ⟨upP_nodup h.ns.srt, fun m hm => by
 obtain ⟨a, ha, e⟩ := upP_mem hm
 rw [<- e]; exact h.ns.mem a ha⟩
theorem MemL.take {l : List Member} (h : MemL l) (n : Nat) : MemL (l.take n) := ⟨by have := h.1; simp; omega, h.2.1.sublist (List.take_sublist _ _), fun m hm => h.2.2 m (List.mem_of_mem_take hm)⟩
theorem wrap_i {n : Int} {N : Nat} (h0 : 0 <= n) (h : n <= N) (hN : N <= 1000) : IntKind.i64.wrap (n + 1) = n + 1 := wrap64 (by omega)
structure PlIs (N : Nat) (g : Int) (p q : Plan) : Prop where
 g0 : 0 <= g
 g : g <= N
 ep : q.epoch = p.epoch
 pg0 : 0 <= q.gen
 pg : q.gen <= N
 ch : MemL q.chain
 va : MemL q.valid
theorem endP_is {N : Nat} {s : ES} (h : SI N s) (hN : N <= 999) : PlIs (N + 1) (endP s).1 s.p (endP s).2 := by
 obtain ⟨u1, u2⟩ := h.up
 have hg := h.g; have hg0 := h.g0; have hp := h.pg; have hp0 := h.pg0
 have hF : ∀ g gen : Int, 0 <= g -> g <= ((N + 1 : Nat) : Int) -> 0 <= gen -> gen <= ((N + 1 : Nat) : Int) -> PlIs (N + 1) (freshP s g gen).1 s.p (freshP s g gen).2 := fun g gen a1 a2 a3 a4 =>
  ⟨a1, a2, rfl, a3, a4, chainP_is .nil u1 u2 h.c2, (chainP_is .nil u1 u2 h.c2).take 1⟩
 unfold endP
 cases (bestP (wkE s) s.p.base).isSome && !s.p.fresh with
 | true => exact ⟨hg0, by show s.g <= _; omega, rfl, hp0, by show s.p.gen <= _; omega, chainP_is (leadP_is h.ke) u1 u2 h.c2, h.ke⟩
 | false =>
  rw [cond_false]
  cases s.p.fresh && decide (0 < s.p.chain.length) with
  | true =>
   rw [cond_true, wrap_i hg0 hg (by omega)]
   exact hF _ _ (by omega) (by omega) (by omega) (by omega)
  | false => exact hF _ _ hg0 (by omega) hp0 (by omega)
theorem getD_mem0 {l : List Member} (h : l ≠ []) : l.getD 0 default ∈ l := by
 cases l with
 | nil => exact absurd rfl h
 | cons a t => simp
theorem sm_of {n : Int} {N : Nat} (h0 : 0 <= n) (h : n <= N) (hN : N <= 1000) : Sm n := by unfold Sm; omega
theorem actMg_is {N : Nat} {p : Plan} (hc : MemL p.chain) (hne : p.chain ≠ []) (e0 : 0 <= p.epoch) (e : p.epoch <= N) (g0 : 0 <= p.gen) (g : p.gen <= N) (hN : N <= 1000) : MsgIs N N (actMg p) where
 kind := by unfold Sm actMg; simp
 src := by unfold Sm actMg; simp
 dst := (hc.2.2 _ (getD_mem0 hne)).sm.1
 boot := (hc.2.2 _ (getD_mem0 hne)).sm.2
 sboot := sm0
 shard := rfl
 ep0 := e0
 ep := e
 gen := sm_of g0 g hN
 sess := rfl
 num := sm0
 a := sm0
 code := rfl
 key := rfl
 val := rfl
 ver := .zero N
 floor := .zero N
 op := rfl
 elen := Nat.zero_le _
 ent := fun e he => by cases he
 chain := hc.chain
 views := rfl
 img := tailNil N
 igen := sm0
 iseen := seenNil N
theorem frzMg_is {N : Nat} {m : Member} {ep : Int} (hm : MemIs m) (e0 : 0 <= ep) (e : ep <= N) : MsgIs N N (frzMg m ep) where
 kind := by unfold Sm frzMg; simp
 src := by unfold Sm frzMg; simp
 dst := hm.sm.1
 boot := hm.sm.2
 sboot := sm0
 shard := rfl
 ep0 := e0
 ep := e
 gen := sm0
 sess := rfl
 num := sm0
 a := sm0
 code := rfl
 key := rfl
 val := rfl
 ver := .zero N
 floor := .zero N
 op := rfl
 elen := Nat.zero_le _
 ent := fun e he => by cases he
 chain := chainNil
 views := rfl
 img := tailNil N
 igen := sm0
 iseen := seenNil N
theorem WyM.act {N : Nat} {p : Plan} (hc : MemL p.chain) (hne : p.chain ≠ []) (e0 : 0 <= p.epoch) (e : p.epoch <= N) (g0 : 0 <= p.gen) (g : p.gen <= N) (hN : N <= 1000) : WyM N (actMg p) :=
 .chain _ (actMg_is hc hne e0 e g0 g hN) (.inr (.inl rfl)) (hc.2.2 _ (getD_mem0 hne)).1 (fun h => by cases h) (fun h => by cases h)
theorem WyM.frz {N : Nat} {m : Member} {ep : Int} (hm : MemIs m) (e0 : 0 <= ep) (e : ep <= N) : WyM N (frzMg m ep) :=
 .chain _ (frzMg_is hm e0 e) (.inl rfl) hm.1 (fun _ => rfl) (fun h => by cases h)
structure OutB (N : Nat) (s : ES) (x : ES × List Msg) : Prop where
 si : SI N x.1
 cc : x.1.c = s.c
 l : ∀ m ∈ x.2, WyM N m
 len : x.2.length <= N + 5
theorem endQ_is {N : Nat} {s : ES} (h : SI N s) (hN : N <= 999) : OutB (N + 1) s (endQ s) := by
 unfold endQ
 cases hm : mayE s with
 | false => exact ⟨h.mono (by omega), rfl, (fun m hm => by cases hm), Nat.zero_le _⟩
 | true =>
  have hp := endP_is h hN
  obtain ⟨k1, _⟩ := endP_chain (h.eok (by omega)) hm
  have he := h.ep; have he0 := h.ep0
  have hll := h.ll
  refine ⟨?_, rfl, fun m hx => ?_, ?_⟩
  ·exact ⟨h.c1, h.c2, h.op, by show 0 <= (endP s).2.epoch; rw [hp.ep]; exact he0, by show (endP s).2.epoch <= _; rw [hp.ep]; omega, hp.g0, hp.g, hp.pg0, hp.pg, hp.ch, hp.va, h.ns.mono (by omega), .nil, Nat.zero_le _, (fun f hf => by cases hf), (fun e => by cases e), Nat.zero_le _, (fun a ha => by cases ha), fun _ => rfl⟩
  ·rcases List.mem_cons.1 hx with e | e
   ·subst e
    exact .act hp.ch k1 (by rw [hp.ep]; exact he0) (by rw [hp.ep]; omega) hp.pg0 hp.pg (by omega)
   ·obtain ⟨a, ha, e⟩ := List.mem_map.1 e
    subst e
    exact .was a (h.l a ha)
  ·show (outMs _ s.l).length <= _
   unfold outMs
   simp only [List.length_cons, List.length_map]
   omega
theorem h20_is {N : Nat} {s : ES} {m : Msg} (h : SI N s) (hN : N <= 999) : OutB (N + 1) s (h20P s m) := by
 unfold h20P
 cases decide (s.p.phase = 1) && decide (s.p.epoch = m.epoch) with
 | false => exact ⟨h.mono (by omega), rfl, (fun m hm => by cases hm), Nat.zero_le _⟩
 | true =>
  have h' : SI N { s with fe := true } := { h with }
  have := endQ_is h' hN
  exact ⟨this.si, this.cc, this.l, this.len⟩
theorem kM9 {m : Msg} (hk : m.kind = 9) (hs : m.shard = 0) : kM m 9 = m := kM_eq hk hs
theorem h9_is {N : Nat} {s : ES} {m : Msg} (h : SI N s) (hm : MsgIs N N m) (hk : m.kind = 9) (hN : N <= 998) : OutB (N + 2) s (h9P s m) := by
 unfold h9P
 cases decide (s.p.phase = 1) && decide (s.p.epoch = m.epoch) with
 | false => exact ⟨h.mono (by omega), rfl, (fun m hm => by cases hm), Nat.zero_le _⟩
 | true =>
  have h' : SI (N + 1) (frzS s m) := by
   unfold frzS
   cases (frozenP (wkE s) ⟨m.src, m.sboot⟩).2 with
   | true => exact h.mono (by omega)
   | false =>
    rw [cond_false, kM9 hk hm.shard]
    have h1 := h.mono (show N <= N + 1 by omega)
    have hl : (lnApp s.fz m).l = s.fz.l ++ [m] := by
     cases s.fz <;> rfl
    have hf := h.fl
    exact { h1 with
     fl := by show (lnApp s.fz m).l.length <= _; rw [hl, List.length_append]; simp; omega
     fz := fun f hf => by
      have hf : f ∈ (lnApp s.fz m).l := hf
      rw [hl] at hf
      rcases List.mem_append.1 hf with e | e
      ·exact h1.fz f e
      ·have : f = m := by simpa using e
       subst this; exact hm.mono (by omega) (by omega)
     ne := by show lnApp s.fz m ≠ .emp; cases s.fz <;> (intro e; cases e) }
  have hc : (frzS s m).c = s.c := by unfold frzS; cases (frozenP (wkE s) ⟨m.src, m.sboot⟩).2 <;> rfl
  have := endQ_is h' (by omega)
  exact ⟨this.si, this.cc.trans hc, this.l, this.len⟩
theorem beginB_is {N : Nat} {s : ES} {fr : Bool} (h : SI N s) (hN : N <= 999) : SI (N + 1) (beginS s fr) := by
 have h1 := h.mono (show N <= N + 1 by omega)
 have he := h.ep; have he0 := h.ep0
 unfold beginS
 cases decide (1099511627776 <= s.p.epoch) with
 | true => exact h1
 | false =>
  rw [cond_false]
  have hke : MemL (bif fr then [] else bothP s.p.valid (upP s.ns s.c.susp)) := by
   cases fr with
   | true => exact .nil
   | false =>
    have hsub : (bothP s.p.valid (upP s.ns s.c.susp)).Sublist s.p.valid := by
     unfold bothP
     rw [show (fun m => bif inUp (upP s.ns s.c.susp) m then some m else none) = Option.guard (fun m => inUp (upP s.ns s.c.susp) m) from by
      funext m
      unfold Option.guard
      dsimp only
      by_cases hb : inUp (upP s.ns s.c.susp) m = true <;> simp [hb]]
     rw [List.filterMap_eq_filter]
     exact List.filter_sublist
    exact ⟨Nat.le_trans hsub.length_le h.va.1, h.va.2.1.sublist hsub, fun m hm => h.va.2.2 m (hsub.subset hm)⟩
  have hkn : s.ns = [] -> (bif fr then [] else bothP s.p.valid (upP s.ns s.c.susp)) = [] := by
   intro e
   cases fr with
   | true => rfl
   | false =>
    rw [e]
    show List.filterMap _ _ = []
    rw [List.filterMap_eq_nil_iff]
    intro a _
    rfl
  exact { h1 with
   ep0 := by show 0 <= IntKind.i64.wrap (s.p.epoch + 1); rw [wrap_i he0 he (by omega)]; omega
   ep := by show IntKind.i64.wrap (s.p.epoch + 1) <= _; rw [wrap_i he0 he (by omega)]; omega
   ke := hke
   fl := Nat.zero_le _
   fz := fun f hf => by cases hf
   ne := fun e => by cases e
   kn := hkn }
theorem begin_c (s : ES) (fr : Bool) : (beginS s fr).c = s.c := by unfold beginS; cases decide (1099511627776 <= s.p.epoch) <;> rfl
theorem h21_is {N : Nat} {s : ES} {m : Msg} (h : SI N s) (hs : m.src = 100) (hN : N <= 990) : OutB (N + 3) s (h21P s m) := by
 have ha : SI (N + 1) (askS s m) := by
  have h1 := h.mono (show N <= N + 1 by omega)
  have hl := h.ll
  unfold askS
  cases s.l.any (isAsk m) with
  | true => exact h1
  | false =>
   exact { h1 with
    ll := by show (s.l ++ [askOf m]).length <= _; rw [List.length_append]; simp; omega
    l := fun a hx => by
     rcases List.mem_append.1 hx with e | e
     ·exact h.l a e
     ·have : a = askOf m := by simpa using e
      subst this; exact hs }
 have hc : (askS s m).c = s.c := by unfold askS; cases s.l.any (isAsk m) <;> rfl
 unfold h21P
 cases isNo s m with
 | true =>
  exact ⟨h.mono (by omega), rfl, fun x hx => by
   have : x = wasMg (askOf m) := by simpa using hx
   subst this; exact .was _ hs, by simp⟩
 | false =>
  rw [cond_false]
  cases decide (s.p.reset < m.num) with
  | false => exact ⟨ha.mono (by omega), hc, (fun x hx => by cases hx), Nat.zero_le _⟩
  | true =>
   rw [cond_true]
   have hb : SI (N + 1) { askS s m with p := rsP1 (askS s m).p m } := { ha with }
   have h3 : SI (N + 2) (afS (askS s m) m) := by
    unfold afS
    cases decide ((askS s m).p.phase = 1) && (askS s m).p.fresh with
    | true => exact hb.mono (by omega)
    | false => exact beginB_is hb (by omega)
   have h3c : (afS (askS s m) m).c = s.c := by
    unfold afS
    cases decide ((askS s m).p.phase = 1) && (askS s m).p.fresh with
    | true => exact hc
    | false => rw [cond_false, begin_c]; exact hc
   have := endQ_is h3 (by omega)
   exact ⟨this.si, this.cc.trans h3c, this.l, this.len⟩
theorem h7_is {N : Nat} {s : ES} {m : Msg} {x : VF} (h : SI N s) (hm : MemIs ⟨m.src, m.sboot⟩) : SI (N + 1) (h7P s m x) /\ (h7P s m x).c = s.c := by
 have h1 := h.mono (show N <= N + 1 by omega)
 unfold h7P
 cases stale s.ns m with
 | true => exact ⟨h1, rfl⟩
 | false =>
  rw [cond_false]
  have hp : (vwP x s m).1 = s.p \/ (vwP x s m).1 = { s.p with valid := s.p.chain } := by
   cases x with
   | nil => exact .inl rfl
   | emp => exact .inl rfl
   | one v =>
    have e : vwP (.one v) s m = bif serves s m v then (bif decide (v.phase = 3) then { s.p with valid := s.p.chain } else s.p, true) else (s.p, s.he) := rfl
    rw [e]
    cases serves s m v with
    | false => exact .inl rfl
    | true =>
     cases decide (v.phase = 3) with
     | false => exact .inl rfl
     | true => exact .inr rfl
  refine ⟨?_, rfl⟩
  rcases hp with e | e
  ·exact { h1 with
    ep0 := by show 0 <= (vwP x s m).1.epoch; rw [e]; exact h1.ep0
    ep := by show (vwP x s m).1.epoch <= _; rw [e]; exact h1.ep
    pg0 := by show 0 <= (vwP x s m).1.gen; rw [e]; exact h1.pg0
    pg := by show (vwP x s m).1.gen <= _; rw [e]; exact h1.pg
    ch := by show MemL (vwP x s m).1.chain; rw [e]; exact h1.ch
    va := by show MemL (vwP x s m).1.valid; rw [e]; exact h1.va
    ns := putNs_is h.ns hm
    kn := fun hx => h.kn (putNs_ne hx) }
  ·exact { h1 with
    ep0 := by show 0 <= (vwP x s m).1.epoch; rw [e]; exact h1.ep0
    ep := by show (vwP x s m).1.epoch <= _; rw [e]; exact h1.ep
    pg0 := by show 0 <= (vwP x s m).1.gen; rw [e]; exact h1.pg0
    pg := by show (vwP x s m).1.gen <= _; rw [e]; exact h1.pg
    ch := by show MemL (vwP x s m).1.chain; rw [e]; exact h1.ch
    va := by show MemL (vwP x s m).1.valid; rw [e]; exact h1.ch
    ns := putNs_is h.ns hm
    kn := fun hx => h.kn (putNs_ne hx) }
theorem look_is {N : Nat} {s : ES} (h : SI N s) (hN : N <= 999) : SI (N + 1) (lookP s) /\ (lookP s).c = s.c := by
 rcases look_begin s with e | ⟨fr, e⟩
 ·rw [e]; exact ⟨h.mono (by omega), rfl⟩
 ·rw [e]; exact ⟨beginB_is h hN, begin_c s fr⟩
theorem agMs_is {N : Nat} {s : ES} (h : SI N s) (hN : N <= 1000) : (∀ m ∈ agMs s, WyM N m) /\ (agMs s).length <= 4 := by
 have hfr : ∀ l : List Member, MemL l -> (∀ m ∈ l.filterMap (agF s), WyM N m) /\ (l.filterMap (agF s)).length <= 3 := by
  intro l hl
  refine ⟨fun m hm => ?_, Nat.le_trans (List.length_filterMap_le _ _) hl.1⟩
  obtain ⟨a, ha, e⟩ := List.mem_filterMap.1 hm
  unfold agF at e
  cases hb : (frozenP (wkE s) a).2 with
  | true => rw [hb] at e; simp at e
  | false =>
   rw [hb] at e
   have : frzMg a s.p.epoch = m := by simpa using e
   rw [<- this]
   exact .frz (hl.2.2 a ha) h.ep0 h.ep
 unfold agMs
 cases decide (s.p.phase = 1) with
 | true =>
  rw [cond_true]
  have hl : MemL (bif s.p.fresh then s.p.chain else s.keep) := by
   cases s.p.fresh with
   | true => exact h.ch
   | false => exact h.ke
  obtain ⟨a1, a2⟩ := hfr _ hl
  cases s.fe with
  | true => exact ⟨fun m hm => a1 m (by simpa using hm), by simp; omega⟩
  | false =>
   refine ⟨fun m hm => ?_, by simp only [Bool.not_false, cond_true, List.length_append, List.length_cons, List.length_nil]; omega⟩
   rcases List.mem_append.1 hm with e | e
   ·have : m = fenMg s.p.epoch := by simpa using e
    subst this; exact .fence _
   ·exact a1 m e
 | false =>
  rw [cond_false]
  cases decide (s.p.phase = 3) && !s.he with
  | false => exact ⟨(fun m hm => by cases hm), Nat.zero_le _⟩
  | true =>
   rw [cond_true]
   by_cases h0 : 0 < s.p.chain.length
   ·rw [decide_eq_true h0, cond_true]
    refine ⟨fun m hm => ?_, by simp⟩
    have : m = actMg s.p := by simpa using hm
    subst this
    exact .act h.ch (List.length_pos_iff.1 h0) h.ep0 h.ep h.pg0 h.pg hN
   ·rw [decide_eq_false h0]
    exact ⟨(fun m hm => by cases hm), Nat.zero_le _⟩
theorem tick_is {N : Nat} {s : ES} (h : SI N s) (hN : N <= 990) : OutB (N + 3) s (tickQ s) := by
 have h0 : SI (N + 1) (blkS s) := by
  have h1 := h.mono (show N <= N + 1 by omega)
  exact { h1 with
   ns := h.ns.inc (by omega)
   kn := fun e => h.kn (by
    have e : s.ns.map incA = [] := e
    simpa using e) }
 obtain ⟨h2, h2c⟩ := look_is h0 (by omega)
 unfold tickQ againQ
 cases hm : mayE (lookP (blkS s)) with
 | true =>
  have := endQ_is h2 (by omega)
  unfold endQ at this
  rw [hm] at this
  exact ⟨this.si, this.cc.trans h2c, this.l, this.len⟩
 | false =>
  obtain ⟨a1, a2⟩ := agMs_is h2 (by omega)
  exact ⟨h2.mono (by omega), h2c, fun m hm => (a1 m hm).mono (by omega), by simp only [cond_false]; omega⟩
structure PIs (N : Nat) (c : CConf) (p : PlayB) : Prop where
 b : SI N (p.b.es c)
 rl : p.reps.length = 3
 rep : ∀ i, i < 3 -> RepIs N N (rpB p i)
 self : ∀ i, i < 3 -> (rpB p i).self.node = 2 + i
 boot : ∀ i, i < 3 -> (rpB p i).self.boot <= N
 way : ∀ m ∈ p.way, WyM N m
theorem PIs.mono {N M : Nat} {c : CConf} {p : PlayB} (h : PIs N c p) (hm : N <= M) : PIs M c p :=
 ⟨h.b.mono hm, h.rl, fun i hi => (h.rep i hi).mono (by omega) hm, h.self, fun i hi => by have := h.boot i hi; omega, fun m hx => (h.way m hx).mono hm⟩
theorem PIs.lay {N : Nat} {c : CConf} {p : PlayB} {l : List Msg} (h : PIs N c p) (hl : ∀ m ∈ l, WyM N m) : PIs N c (layB p l) :=
 { h with way := fun m hx => (List.mem_append.1 hx).elim (h.way m) (hl m) }
theorem PIs.wayB {N : Nat} {c : CConf} {p : PlayB} {l : List Msg} (h : PIs N c p) (hl : ∀ m ∈ l, m ∈ p.way) : PIs N c (wayB p l) :=
 { h with way := fun m hx => h.way m (hl m hx) }
theorem rp_put {p : PlayB} {i j : Nat} {r : Rep} (hi : i < p.reps.length) : rpB (putB p i r) j = if j = i then r else rpB p j := by
 unfold rpB putB
 dsimp only
 unfold List.getD
 by_cases e : j = i
 ·subst e
  rw [if_pos rfl]
  simp [hi]
 ·rw [if_neg e, List.getElem?_set_ne (fun x => e x.symm)]
theorem PIs.put {N : Nat} {c : CConf} {p : PlayB} {i : Nat} {r : Rep} (h : PIs N c p) (hi : i < 3) (hr : RepIs N N r) (hs : r.self.node = 2 + i) (hb : r.self.boot <= N) : PIs N c (putB p i r) := by
 have hi' : i < p.reps.length := by rw [h.rl]; exact hi
 refine ⟨h.b, ?_, fun j hj => ?_, fun j hj => ?_, fun j hj => ?_, h.way⟩
 ·show (p.reps.set i r).length = 3
  rw [List.length_set]; exact h.rl
 ·rw [rp_put hi']
  by_cases e : j = i
  ·rw [if_pos e]; exact hr
  ·rw [if_neg e]; exact h.rep j hj
 ·rw [rp_put hi']
  by_cases e : j = i
  ·rw [if_pos e, e]; exact hs
  ·rw [if_neg e]; exact h.self j hj
 ·rw [rp_put hi']
  by_cases e : j = i
  ·rw [if_pos e]; exact hb
  ·rw [if_neg e]; exact h.boot j hj
theorem SI.bu {N : Nat} {c : CConf} {r : ES} (h : SI N r) (hc : r.c = c) : SI N (r.bu.es c) := by
 subst hc
 exact { h with op := rfl }
theorem PIs.putBu {N : Nat} {c : CConf} {p : PlayB} {b : Bu} (h : PIs N c p) (hb : SI N (b.es c)) : PIs N c { p with b := b } := { h with b := hb }
theorem beat_src (r : Rep) : (⟨(beatMg r).src, (beatMg r).sboot⟩ : Member) = r.self := rfl
theorem beat_v (r : Rep) : (beatMg r).views = bif liveB r then [(⟨0, r.view.epoch, 0, r.view.phase, []⟩ : Md.View)] else [] := rfl
theorem beat_views (r : Rep) : (beatMg r).views = [] \/ ∃ v, (beatMg r).views = [v] /\ v.shard = 0 := by
 rw [beat_v]
 cases liveB r with
 | false => exact .inl rfl
 | true => exact .inr ⟨⟨0, r.view.epoch, 0, r.view.phase, []⟩, rfl, rfl⟩
theorem hd_is {N : Nat} {c : CConf} {b : Bu} {m : Msg} (h : SI N (b.es c)) (hm : WyM N m) (hd : m.dst = 1) (hN : N <= 990) : HdOk (b.es c) m /\ OutB (N + 3) (b.es c) (hdS (b.es c) m) := by
 have hok := h.hok (by omega) rfl
 have hfl := h.fl
 have hll := h.ll
 have base : m.shard = 0 -> (m.kind = 20 \/ (m.kind = 9 /\ CpOk m /\ VNum m.ver) \/ m.kind = 21 \/ (m.kind = 7 /\ (m.views = [] \/ ∃ v, m.views = [v] /\ v.shard = 0))) -> HdOk (b.es c) m := fun a1 a2 => ⟨hok, h.ne, by omega, by omega, a1, a2⟩
 have up : ∀ {M : Nat} {x : ES × List Msg}, M <= N + 3 -> OutB M (b.es c) x -> OutB (N + 3) (b.es c) x := fun hM o => ⟨o.si.mono hM, o.cc, fun m hx => (o.l m hx).mono hM, by have := o.len; omega⟩
 cases hm with
 | fence ep => cases hd
 | fenced ep =>
  have e : hdS (b.es c) (fncMg ep) = h20P (b.es c) (fncMg ep) := rfl
  rw [e]
  exact ⟨base rfl (.inl rfl), up (M := N + 1) (by omega) (h20_is h (by omega))⟩
 | beat r h1 h2 =>
  have := h7_is (m := beatMg r) (x := vfOf (beatMg r)) h (by rw [beat_src]; exact h1)
  refine ⟨base rfl (.inr (.inr (.inr ⟨rfl, beat_views r⟩))), ?_⟩
  have e : hdS (b.es c) (beatMg r) = (h7P (b.es c) (beatMg r) (vfOf (beatMg r)), []) := rfl
  rw [e]
  exact up (M := N + 1) (by omega) ⟨this.1, this.2, (fun m hm => by cases hm), Nat.zero_le _⟩
 | froze _ h1 hk hd =>
  refine ⟨base h1.shard (.inr (.inl ⟨hk, h1.cp (by omega), h1.ver.num (by omega)⟩)), ?_⟩
  have e : hdS (b.es c) m = h9P (b.es c) m := by
   unfold hdS
   rw [decide_eq_false (by omega), decide_eq_true hk]; rfl
  rw [e]
  exact up (M := N + 2) (by omega) (h9_is h h1 hk (by omega))
 | reset n =>
  have e : hdS (b.es c) (resMg n) = h21P (b.es c) (resMg n) := rfl
  rw [e]
  exact ⟨base rfl (.inr (.inr (.inl rfl))), h21_is h rfl (by omega)⟩
 | chain _ h1 hk hd2 => omega
 | was a ha =>
  have hd : a.1 = 1 := hd
  omega
theorem giveR_cases (m : Msg) : ∀ (d i : Nat) (p : PlayB), giveR m d i p = p \/ ∃ j, j < i + d /\ (rpB p j).self.node = m.dst /\ giveR m d i p = layB (putB p j (handP (rpB p j) m).1) (handP (rpB p j) m).2
 | 0, i, p => .inl rfl
 | d + 1, i, p => by
  have e : giveR m (d + 1) i p = bif decide ((rpB p i).self.node = m.dst) then layB (putB p i (handP (rpB p i) m).1) (handP (rpB p i) m).2 else giveR m d (i + 1) p := rfl
  rw [e]
  cases hd : decide ((rpB p i).self.node = m.dst) with
  | true => exact .inr ⟨i, by omega, of_decide_eq_true hd, rfl⟩
  | false =>
   rcases giveR_cases m d (i + 1) p with x | ⟨j, h1, h2, h3⟩
   ·exact .inl x
   ·exact .inr ⟨j, by omega, h2, h3⟩
structure GvIs (N : Nat) (c : CConf) (p : PlayB) (m : Msg) : Prop where
 ok : p.way.length <= 10000 -> GvOk p c m
 is : PIs (N + 3) c (giveB c p m)
 len : (giveB c p m).way.length <= p.way.length + N + 10
theorem give_is21 {N : Nat} {c : CConf} {p : PlayB} {m : Msg} (h : PIs N c p) (hm : WyM N m) (hN : N <= 990) : GvIs N c p m := by
 have hrl := h.rl
 have n0 : ∀ i, i < p.reps.length -> (rpB p i).self.node = m.dst -> 2 <= m.dst /\ m.dst <= 4 := fun i hi e => by
  have := h.self i (by omega)
  omega
 have d1 : m.dst = 1 -> HdOk (p.b.es c) m /\ OutB (N + 3) (p.b.es c) (hdS (p.b.es c) m) := fun hd => hd_is h.b hm hd hN
 have d2 : ∀ i, i < p.reps.length -> (rpB p i).self.node = m.dst -> HandOk (rpB p i) m /\ Kinds m /\ OutIs N N (rpB p i) (handP (rpB p i) m) /\ ∀ x ∈ (handP (rpB p i) m).2, WyM N x := by
  intro i hi e
  obtain ⟨e1, e2⟩ := n0 i hi e
  have hr := h.rep i (by omega)
  cases hm with
  | fence ep => simp [fenMg] at e1
  | fenced ep => simp [fncMg] at e1
  | beat r h1 h2 => simp [beatMg] at e1
  | froze _ h1 hk hd => omega
  | reset n => simp [resMg] at e1
  | was a ha =>
   have e2 : a.1 <= 4 := e2
   omega
  | chain _ h1 hk hd h8 h11 =>
   have ho := handP_is hr h1 (by omega) (by omega)
   exact ⟨⟨_, _, by omega, Int.le_refl _, hr, h1⟩, hk, ho, fun x hx => .hd (hand_to hr h1 (by omega) h8 h11 x hx) hr.self (ho.msgs x hx)⟩
 refine ⟨fun hw => ⟨fun hd => ?_, fun hd => ⟨(d1 hd).1, by have := (d1 hd).2.len; omega⟩, fun i hi e _ _ => ?_, hw, by omega⟩, ?_, ?_⟩
 ·cases hm with
  | fence ep => exact ⟨ep, rfl⟩
  | fenced ep => cases hd
  | beat r h1 h2 => cases hd
  | froze _ h1 hk hd2 => omega
  | reset n => cases hd
  | chain _ h1 hk hd2 => omega
  | was a ha =>
   have hd : a.1 = 0 := hd
   omega
 ·obtain ⟨a1, a2, a3, _⟩ := d2 i hi e
  exact ⟨a1, a2, by have := a3.len; omega⟩
 ·unfold giveB
  cases h0 : decide (m.dst = 0) with
  | true =>
   rw [cond_true]
   have : PIs N c { p with fe := maxI p.fe m.epoch } := { h with }
   exact (this.lay (fun x hx => by
    have : x = fncMg (maxI p.fe m.epoch) := by simpa using hx
    subst this; exact .fenced _)).mono (by omega)
  | false =>
   rw [cond_false]
   cases h1 : decide (m.dst = 1) with
   | true =>
    rw [cond_true]
    have o := (d1 (of_decide_eq_true h1)).2
    exact ((h.mono (by omega)).putBu (o.si.bu o.cc)).lay o.l
   | false =>
    rw [cond_false]
    rcases giveR_cases m p.reps.length 0 p with e | ⟨j, h1, h2, e⟩
    ·rw [e]; exact h.mono (by omega)
    ·rw [e]
     obtain ⟨_, _, a3, a4⟩ := d2 j (by omega) h2
     have hb := h.boot j (by omega)
     exact ((h.put (by omega) a3.rep (by rw [a3.self]; exact h.self j (by omega)) (by rw [a3.self]; exact hb)).lay a4).mono (by omega)
 ·unfold giveB
  cases h0 : decide (m.dst = 0) with
  | true => show (p.way ++ [_]).length <= _; simp; omega
  | false =>
   rw [cond_false]
   cases h1 : decide (m.dst = 1) with
   | true =>
    have o := (d1 (of_decide_eq_true h1)).2
    show (p.way ++ _).length <= _
    rw [List.length_append]
    have := o.len
    omega
   | false =>
    rw [cond_false]
    rcases giveR_cases m p.reps.length 0 p with e | ⟨j, h1, h2, e⟩
    ·rw [e]; omega
    ·rw [e]
     obtain ⟨_, _, a3, a4⟩ := d2 j (by omega) h2
     show (p.way ++ _).length <= _
     rw [List.length_append]
     have := a3.len
     omega
def pushB (r : Rep) : Rep := (headPush (r, entP (nextV r))).1
def doB (c : CConf) (k i : Nat) (p : PlayB) : PlayB :=
 bif decide (k <= 5) then bif decide (p.way.length = 0) then p else bif decide (k = 5) then layB p [p.way.getD (i % p.way.length) default] else
  bif decide (k = 4) then wayB p (p.way.eraseIdx (i % p.way.length)) else giveB c (wayB p (p.way.eraseIdx (i % p.way.length))) (p.way.getD (i % p.way.length) default)
 else bif decide (k = 6) then layB { p with b := (tickQ (p.b.es c)).1.bu } (tickQ (p.b.es c)).2
 else bif decide (k = 10) then { p with b := openB ⟨p.b.e, p.b.g, p.b.p⟩ }
 else bif decide (k = 11) then layB { p with reset := IntKind.i64.wrap (p.reset + 1) } [resMg (IntKind.i64.wrap (p.reset + 1))]
 else bif decide (k = 7) then layB (layB p [beatMg (rpB p (i % p.reps.length))]) (againP (rpB p (i % p.reps.length)))
 else bif decide (k = 8) then putB p (i % p.reps.length) (rep0 ⟨(rpB p (i % p.reps.length)).self.node, IntKind.i64.wrap ((rpB p (i % p.reps.length)).self.boot + 1)⟩)
 else { p with reps := p.reps.map pushB }
theorem pushB_is {N : Nat} {r : Rep} (h : RepIs N N r) (hN : N <= 990) : RepIs ((N + 3 : Nat) : Int) (N + 3) (pushB r) /\ (pushB r).self = r.self := by
 unfold pushB headPush
 dsimp only
 cases headP r with
 | true =>
  have := pushP_is h (by omega) (by omega)
  exact ⟨this.1.mono (by omega) (by omega), this.2⟩
 | false => exact ⟨h.mono (by omega) (by omega), rfl⟩
theorem open_is {N : Nat} {c : CConf} {b : Bu} (h : SI N (b.es c)) : SI N ((openB ⟨b.e, b.g, b.p⟩).es c) :=
 { h with op := rfl, ns := ⟨Nat.zero_le _, .nil, (fun a ha => by cases ha), (fun a ha => by cases ha)⟩, ke := .nil, fl := Nat.zero_le _, fz := (fun f hf => by cases hf), ne := (fun e => by cases e), ll := Nat.zero_le _, l := (fun a ha => by cases ha), kn := fun _ => rfl }
theorem mem_getDw {w : List Msg} {i : Nat} (h : i < w.length) : w.getD i default ∈ w := by
 simp [List.getD, List.getElem?_eq_getElem h]
theorem do_is21 {N : Nat} {c : CConf} {p : PlayB} {k i : Nat} (h : PIs N c p) (hN : N <= 980) : PIs (N + 3) c (doB c k i p) /\ (doB c k i p).way.length <= p.way.length + N + 10 := by
 have hrl := h.rl
 have hat : i % p.reps.length < 3 := by rw [hrl]; exact Nat.mod_lt _ (by omega)
 have h3 := h.mono (show N <= N + 3 by omega)
 unfold doB
 cases decide (k <= 5) with
 | true =>
  rw [cond_true]
  by_cases hw : p.way.length = 0
  ·rw [decide_eq_true hw]; exact ⟨h3, by simp only [cond_true]; omega⟩
  ·have hlt : i % p.way.length < p.way.length := Nat.mod_lt _ (by omega)
   have hm := mem_getDw hlt
   rw [decide_eq_false hw, cond_false]
   cases decide (k = 5) with
   | true =>
    refine ⟨h3.lay (fun x hx => ?_), by show (p.way ++ [_]).length <= _; simp; omega⟩
    have : x = p.way.getD (i % p.way.length) default := by simpa using hx
    rw [this]; exact h3.way _ hm
   | false =>
    rw [cond_false]
    have he : ∀ x ∈ p.way.eraseIdx (i % p.way.length), x ∈ p.way := fun x hx => List.mem_of_mem_eraseIdx hx
    have hl : (p.way.eraseIdx (i % p.way.length)).length <= p.way.length := by rw [List.length_eraseIdx]; split <;> omega
    have hq := h.wayB he
    cases decide (k = 4) with
    | true => exact ⟨hq.mono (by omega), by show (p.way.eraseIdx _).length <= _; omega⟩
    | false =>
     have g := give_is21 hq (h.way _ hm) (by omega)
     refine ⟨g.is, ?_⟩
     have := g.len
     have hl' : (Wk.wayB p (p.way.eraseIdx (i % p.way.length))).way.length <= p.way.length := hl
     simp only [cond_false]
     omega
 | false =>
  rw [cond_false]
  cases decide (k = 6) with
  | true =>
   have o := tick_is h.b (by omega)
   refine ⟨(h3.putBu (o.si.bu o.cc)).lay o.l, ?_⟩
   show (p.way ++ _).length <= _
   rw [List.length_append]
   have := o.len
   omega
  | false =>
   rw [cond_false]
   cases decide (k = 10) with
   | true => exact ⟨h3.putBu ((open_is h.b).mono (by omega)), by show p.way.length <= _; omega⟩
   | false =>
    rw [cond_false]
    cases decide (k = 11) with
    | true =>
     have hp : PIs (N + 3) c { p with reset := IntKind.i64.wrap (p.reset + 1) } := { h3 with }
     refine ⟨hp.lay (fun x hx => ?_), by show (p.way ++ [_]).length <= _; simp; omega⟩
     have : x = resMg (IntKind.i64.wrap (p.reset + 1)) := by simpa using hx
     subst this; exact .reset _
    | false =>
     rw [cond_false]
     have hr := h.rep _ hat
     have hs := h.self _ hat
     have hb := h.boot _ hat
     have hb1 := hr.self.2.2.1
     cases decide (k = 7) with
     | true =>
      refine ⟨(h3.lay (fun x hx => ?_)).lay (fun x hx => ?_), ?_⟩
      ·have : x = beatMg (rpB p (i % p.reps.length)) := by simpa using hx
       subst this; exact .beat _ hr.self (by omega)
      ·exact (WyM.to (again_to hr x hx) hr.self (againP_is hr (by omega) x hx)).mono (by omega)
      ·show ((p.way ++ [_]) ++ _).length <= _
       rw [List.length_append, List.length_append]
       have := againP_len hr
       simp only [List.length_cons, List.length_nil]
       omega
     | false =>
      rw [cond_false]
      cases decide (k = 8) with
      | true =>
       rw [cond_true]
       have hw : IntKind.i64.wrap ((rpB p (i % p.reps.length)).self.boot + 1) = (rpB p (i % p.reps.length)).self.boot + 1 := wrap64 (by omega)
       rw [hw]
       have hm : MemIs ⟨(rpB p (i % p.reps.length)).self.node, (rpB p (i % p.reps.length)).self.boot + 1⟩ := ⟨hr.self.1, hr.self.2.1, by show 1 <= _ + (1 : Int); omega, by show _ + (1 : Int) <= 1000; omega⟩
       exact ⟨h3.put hat (rep0_is hm (by omega)) hs (by show _ + (1 : Int) <= _; omega), by show p.way.length <= _; omega⟩
      | false =>
       rw [cond_false]
       have hg : ∀ j, j < 3 -> rpB { p with reps := p.reps.map pushB } j = pushB (rpB p j) := fun j hj => by
        unfold rpB
        have : j < p.reps.length := by omega
        simp [List.getD, this]
       refine ⟨⟨h3.b, by show (p.reps.map pushB).length = 3; rw [List.length_map]; exact hrl, fun j hj => ?_, fun j hj => ?_, fun j hj => ?_, h3.way⟩, by show p.way.length <= _; omega⟩
       ·rw [hg j hj]; exact (pushB_is (h.rep j hj) (by omega)).1
       ·rw [hg j hj, (pushB_is (h.rep j hj) (by omega)).2]; exact h.self j hj
       ·rw [hg j hj, (pushB_is (h.rep j hj) (by omega)).2]; exact h3.boot j hj
theorem dec_natI (a b : Nat) : decide ((a : Int) = (b : Int)) = decide (a = b) := decide_eq_decide.2 (by omega)
theorem room_eq {R : Type} {n : Nat} {k : Option R} (h : n <= 1000000) : room n 392 k = k := by
 unfold room; rw [roomV (by omega) h, cond_true]
theorem nz_eq {R : Type} {n : Nat} {k : Option R} (h : n ≠ 0) : nz (n : Int) k = k := by
 unfold nz; rw [decide_eq_false (by omega), cond_false]
theorem slK_eq {R : Type} {i n : Nat} {k : Option R} (h : i <= n) : slK (i : Int) (n : Int) k = k := by
 unfold slK; rw [decide_eq_true (by omega), decide_eq_true (by omega)]; rfl
theorem tmI_eq {i n : Nat} (h : i <= 255) : tmI (i : Int) (n : Int) = ((i % n : Nat) : Int) := by
 unfold tmI; rw [wrap64 (by omega)]; rfl
theorem getD_erase {w : List Msg} {t i : Nat} (hi : i < w.length - 1) : (w.eraseIdx t).getD i default = if i < t then w.getD i default else w.getD (i + 1) default := by
 unfold List.getD
 rw [List.getElem?_eraseIdx]
 split <;> rfl
theorem takW_eq {w : List Msg} {t : Nat} {E : Option AV} {S : Nat -> (Nat -> List AV) -> Option AV} (ht : t < w.length) (hw : w.length <= 100000) :
  (w.eraseIdx t = [] /\ takW w (t : Int) E S = E) \/ ∃ f, takW w (t : Int) E S = S (w.eraseIdx t).length f /\ ∀ i, i < (w.eraseIdx t).length -> f i = mF (w.eraseIdx t) i := by
 have hel : (w.eraseIdx t).length = w.length - 1 := by rw [List.length_eraseIdx]; simp [ht]
 have hl0 : w.length ≠ 0 := by omega
 unfold takW
 rw [nz_eq hl0, slK_eq (by omega), room_eq (by rw [Int.toNat_natCast]; omega), Int.toNat_natCast, wrapS (by omega), nz_eq hl0, slK_eq (by omega), Int.toNat_natCast]
 have hS : ∀ i, i < w.length - 1 -> mF (w.eraseIdx t) i = encMsg (if i < t then w.getD i default else w.getD (i + 1) default) := fun i hi => by unfold mF; rw [getD_erase hi]
 by_cases h0 : t = 0
 ·subst h0
  rw [AM.beq_true rfl, cond_true, room_eq (by omega)]
  by_cases h1 : w.length = 1
  ·left
   refine ⟨List.eq_nil_of_length_eq_zero (by omega), ?_⟩
   rw [AM.beq_true (by omega), cond_true]
  ·right
   rw [AM.beq_false (by omega), cond_false]
   refine ⟨_, by rw [hel], fun i hi => ?_⟩
   rw [hS i (by omega)]
   unfold subF
   rw [blt_true (by omega), cond_true, if_neg (by omega), Nat.add_comm (0 + 1) i]
 ·right
  rw [AM.beq_false h0, cond_false, nz_eq hl0, slK_eq (by omega), ble_true (Nat.le_refl _), Bool.or_true, cond_true, room_eq (by omega)]
  by_cases h1 : t + 1 = w.length
  ·rw [AM.beq_true (by omega), cond_true]
   refine ⟨subF w 0 t, by rw [hel, show w.length - 1 = t by omega], fun i hi => ?_⟩
   rw [hS i (by omega)]
   unfold subF
   rw [blt_true (by omega), cond_true, if_pos (by omega), Nat.zero_add]
  ·rw [AM.beq_false (by omega), cond_false]
   refine ⟨appF t (subF w 0 t) (w.length - (t + 1)) (subF w (t + 1) (w.length - (t + 1))), by rw [hel, show t + (w.length - (t + 1)) = w.length - 1 by omega], fun i hi => ?_⟩
   rw [hS i (by omega)]
   unfold appF subF
   by_cases hit : i < t
   ·rw [blt_true hit, cond_true, cond_true, if_pos hit, Nat.zero_add]
   ·have : Nat.blt i t = false := by rw [Bool.eq_false_iff, Ne, Nat.blt_eq]; exact hit
    rw [this, cond_false, if_neg hit, blt_true (by omega), cond_true, blt_true (by omega), cond_true]
    congr 2
    omega
theorem ix_eq {R : Type} {i n : Nat} {K : Option R} (h : i < n) : ix (i : Int) n K = K := by
 unfold ix
 rw [rg_eq h, Int.toNat_natCast, Nat.zero_add, blt_true h, cond_true]
theorem pshG_eq {N : Nat} {r : Rep} {K : RE -> Option AV} (hr : RepIs N N r) (hN : N <= 990) : pshG r K = K (r, entP (nextV r)) := by
 have hep := hr.ep0
 have hv := (nextV_is hr (by omega) (by omega)).1
 have hvn : VNum (nextV r) := hv.num (by omega)
 have hok : pRE2 (r, entP (nextV r)) := ⟨(hr.ag (by omega)).short, ⟨by have := hr.tail.len; have := (hr.tail.la.le (by omega)).2; show r.tail.log.length <= 10000; omega, hr.tail.la.num (by omega), hvn, hr.seen.one, rfl⟩⟩
 unfold pshG
 have q1 : ∀ K : Ver × Nat -> Option AV, gC dVI pVI eVI [eV r.tail.last, .int .i64 r.view.epoch] K = K (r.tail.last, r.view.epoch.toNat) := fun K =>
  gC_eq (r.tail.last, r.view.epoch.toNat) rfl (hr.tail.la.num (by omega)) (by show SubC _ [eV _, .int .i64 (r.view.epoch.toNat : Int)]; rw [Int.toNat_of_nonneg hep]; exact .refl _)
 have q2 : ∀ K : Ver -> Option AV, gC dV1 VNum eV1 [eV (vr r.view.epoch.toNat (nu r.tail.last + 1))] K = K (nextV r) := fun K => qV1 (a := nextV r) hvn
 have q3 : ∀ K : RE -> Option AV, gC dRE pRE2 eRE [.agg (encRep r), .agg (encEntry (entP (nextV r)))] K = K (r, entP (nextV r)) := fun K => qRE hok
 rw [q1]
 dsimp only
 rw [q2, q3]
theorem headPush_no {y : RE} (h : (headPush y).2 = false) : (headPush y).1 = y.1 := by
 unfold headPush at h ⊢
 cases hh : headP y.1 with
 | false => rfl
 | true =>
  rw [hh] at h
  unfold pushP at h ⊢
  cases hv : vlt y.1.tail.last y.2.ver with
  | false => rfl
  | true => rw [hv] at h; cases h
def gP (r : Nat -> Rep) (i k : Nat) : Rep := bif k.blt i then pushB (r k) else r k
theorem gP_at (r : Nat -> Rep) (i : Nat) : gP r i i = r i := by unfold gP; rw [blt_false' (Nat.lt_irrefl i)]; rfl
theorem gP_yes (r : Nat -> Rep) (i : Nat) : (fun k => bif k.beq i then encRep (pushB (r i)) else encRep (gP r i k)) = fun k => encRep (gP r (i + 1) k) := by
 funext k
 by_cases e : k = i
 ·subst e
  rw [AM.beq_true rfl, cond_true]
  unfold gP; rw [blt_true (Nat.lt_succ_self k)]; rfl
 ·rw [AM.beq_false e, cond_false]
  unfold gP
  by_cases h : k < i
  ·rw [blt_true h, blt_true (by omega)]
  ·rw [blt_false' h, blt_false' (by omega)]
theorem gP_no {r : Nat -> Rep} {i : Nat} (h : pushB (r i) = r i) : (fun k => encRep (gP r i k)) = fun k => encRep (gP r (i + 1) k) := by
 rw [<- gP_yes, h]
 funext k
 by_cases e : k = i
 ·subst e
  rw [AM.beq_true rfl, cond_true, gP_at]
 ·rw [AM.beq_false e, cond_false]
theorem pu_run {M N : Nat} {c : CConf} {p : PlayB} (h : PIs N c p) (hN : N <= 980) : ∀ d i j, i + d = 3 -> d < j -> LPu M j (SPu p 3 (fun k => encRep (gP (fun k => p.reps.getD k default) i k)) (i : Nat)) = some (.agg (plR p (.tr 15 3 fun k => encRep (gP (fun k => p.reps.getD k default) 3 k)))) := by
 intro d
 induction d with
 | zero =>
  intro i j hi hj
  obtain ⟨j, rfl⟩ : ∃ k, j = k + 1 := ⟨j - 1, by omega⟩
  have : i = 3 := by omega
  subst this
  rw [pu_st, decide_eq_false (by omega), cond_false]; rfl
 | succ d ih =>
  intro i j hi hj
  obtain ⟨j, rfl⟩ : ∃ k, j = k + 1 := ⟨j - 1, by omega⟩
  have hil : i < 3 := by omega
  have hr : RepIs N N (p.reps.getD i default) := h.rep i hil
  rw [pu_st, decide_eq_true (by omega), cond_true, ix_eq hil, ix_eq hil, ix_eq hil, Int.toNat_natCast, Nat.zero_add, gP_at, pshG_eq hr (by omega), wrapS (by omega)]
  have i1 := ih (i + 1) j (by omega) (by omega)
  cases hp : (headPush (p.reps.getD i default, entP (nextV (p.reps.getD i default)))).2 with
  | true =>
   rw [cond_true, rg_eq hil, blt_true hil, Bool.and_true, cond_true]
   have e : (headPush (p.reps.getD i default, entP (nextV (p.reps.getD i default)))).1 = pushB (p.reps.getD i default) := rfl
   have e2 : (fun k => bif k.beq i then encRep (pushB (p.reps.getD i default)) else encRep (gP (fun k => p.reps.getD k default) i k)) = fun k => encRep (gP (fun k => p.reps.getD k default) (i + 1) k) := gP_yes (fun k => p.reps.getD k default) i
   rw [e, e2]
   exact i1
  | false =>
   have e : pushB ((fun k => p.reps.getD k default) i) = (fun k => p.reps.getD k default) i := headPush_no hp
   have e2 : (fun k => encRep (gP (fun k => p.reps.getD k default) i k)) = fun k => encRep (gP (fun k => p.reps.getD k default) (i + 1) k) := gP_no e
   rw [cond_false, e2]
   exact i1
theorem plR_sub {p : PlayB} {R : AV} {l : List Rep} (h : SubV R (encReps l)) : SubC (plR p R) (encPB { p with reps := l }) :=
 .cons (.refl _) (.cons (.refl _) (.cons (.refl _) (.cons (.refl _) (.cons (.refl _) (.cons (.refl _) (.cons (.refl _) (.cons (.refl _) (.cons h (.refl _)))))))))
theorem ro_eq {R : Type} {n : Nat} {E K : Option R} (h : 0 < n) (h' : n <= 1000) : ro n E K = K := by
 unfold ro
 rw [roomV (n := 0 + n) (b := 208) (by omega) (by omega), cond_true, AM.beq_false (by omega), cond_false]
theorem res_sub (n : Int) : SubC (resC n) (encMsg (resMg n)) := subC_all (by repeat' (first | exact trivial | exact nilsL | exact SubV.refl _ | refine ⟨?_, ?_⟩))
theorem lay1 {p : PlayB} {C : List AV} {x : Msg} {K : PlayB × List Msg -> Option AV} (hw : p.way.length <= 100000) (hd : decMsg C = x) (hs : SubC C (encMsg x)) : gC dLay pLay eLay [.agg (encPB p), .trl 31 [C]] K = K (p, [x]) :=
 qLay hw (by simp) (Prod.ext (dec_encPB p) (by show [decMsg C] = [x]; rw [hd])) (.cons (.refl _) (.cons (SubV.trans (one_trl hs) (SubV.trl_encL (e := encMsg) (z := default) [x])) .nil))
theorem lay1' {p : PlayB} {x : Msg} {K : PlayB × List Msg -> Option AV} (hw : p.way.length <= 100000) : gC dLay pLay eLay [.agg (encPB p), .trl 31 [encMsg x]] K = K (p, [x]) := lay1 hw (dec_encMsg x) (.refl _)
theorem layn {p : PlayB} {l : List Msg} {K : PlayB × List Msg -> Option AV} (hw : p.way.length <= 100000) (hl : l.length <= 100000) : gC dLay pLay eLay [.agg (encPB p), encMsgs l] K = K (p, l) := qLay hw hl (Prod.ext (dec_encPB p) (decMsgs l)) (.refl _)
theorem mF_sub {l : List Msg} {f : Nat -> List AV} (h : ∀ i, i < l.length -> f i = mF l i) : SubV (.tr 31 l.length f) (encMsgs l) := SubV.trs fun i hi => by rw [h i hi]; exact .refl _
theorem mF_dec {l : List Msg} {f : Nat -> List AV} (h : ∀ i, i < l.length -> f i = mF l i) : decL decMsg (.tr 31 l.length f) = l := by
 show (List.range l.length).map (fun i => decMsg (f i)) = l
 refine List.ext_getElem (by simp) fun i h1 h2 => ?_
 simp only [List.getElem_map, List.getElem_range]
 rw [h i h2]
 unfold mF
 rw [dec_encMsg]
 simp [List.getD, List.getElem?_eq_getElem h2]
theorem plC_dec {p : PlayB} {W : AV} {l : List Msg} (h : decL decMsg W = l) : decPB (plC p W) = wayB p l := by
 have hb := dec_encBu p.b [stV p.fe, encReps p.reps, W, eV p.safe, .int .i64 p.reset]
 show (⟨decBu (encBu p.b ++ [stV p.fe, encReps p.reps, W, eV p.safe, .int .i64 p.reset]), p.fe, decL decRep (encReps p.reps), decL decMsg W, p.safe, p.reset⟩ : PlayB) = _
 rw [hb, decReps, h]; rfl
theorem gvL_eq {p : PlayB} {c : CConf} {x : Msg} {W : AV} {l : List Msg} (h1 : SubV W (encMsgs l)) (h2 : decL decMsg W = l) (h : GvOk (wayB p l) c x) : gvL p c x W = some (.agg (encPB (giveB c (wayB p l) x))) := by
 unfold gvL
 refine gC_eq (⟨wayB p l, c, x⟩ : GX3) ?_ h (.cons (.agg (plC_sub h1)) (.refl _))
 show (⟨decPB (plC p W), decCf (encCf c), decMsg (encMsg x)⟩ : GX3) = _
 rw [plC_dec h2, dec_encMsg]; rfl
theorem do_con' {N k i : Nat} {c : CConf} {p : PlayB} (h : PIs N c p) (hN : N <= 980) (hw : p.way.length <= 5000) (k1 : k <= 255) (hi : i <= 255) :
  ∃ v, callT (envO kns74) 1001 F_lockgatelaw21_do [.agg (encPB p), .agg (encCf c), .agg [.int .u8 (k : Int), .int .u8 (i : Int)]] = some v /\ SubV v (.agg (encPB (doB c (k % 12) i p))) := by
 have hrl := h.rl
 have t12 : tmI (k : Int) 12 = ((k % 12 : Nat) : Int) := tmI_eq (n := 12) k1
 rw [do_eq 1000, t12]
 generalize hk : k % 12 = q
 have hq : q < 12 := by rw [<- hk]; exact Nat.mod_lt _ (by omega)
 unfold doK doB
 have c5 : decide ((q : Int) <= 5) = decide (q <= 5) := decide_eq_decide.2 (by omega)
 have cc : ∀ n : Nat, decide ((q : Int) = (n : Int)) = decide (q = n) := fun n => dec_natI q n
 have e4 : decide ((q : Int) = 4) = decide (q = 4) := cc 4
 have e5 : decide ((q : Int) = 5) = decide (q = 5) := cc 5
 have e6 : decide ((q : Int) = 6) = decide (q = 6) := cc 6
 have e7 : decide ((q : Int) = 7) = decide (q = 7) := cc 7
 have e8 : decide ((q : Int) = 8) = decide (q = 8) := cc 8
 have e10 : decide ((q : Int) = 10) = decide (q = 10) := cc 10
 have e11 : decide ((q : Int) = 11) = decide (q = 11) := cc 11
 rw [c5, e6, e7, e8, e10, e11]
 cases decide (q <= 5) with
 | true =>
  rw [cond_true, cond_true]
  unfold wayK
  rw [e4, e5]
  by_cases hw0 : p.way.length = 0
  ·rw [decide_eq_true (by omega : (p.way.length : Int) = 0), decide_eq_true hw0]
   exact ⟨_, rfl, .refl _⟩
  ·have hlt : i % p.way.length < p.way.length := Nat.mod_lt _ (by omega)
   have hm := mem_getDw hlt
   rw [decide_eq_false (by omega : ¬ (p.way.length : Int) = 0), decide_eq_false hw0, cond_false, cond_false, nz_eq hw0, tmI_eq hi, rg_eq hlt, Int.toNat_natCast]
   cases decide (q = 5) with
   | true =>
    rw [cond_true, cond_true]
    unfold dupL
    rw [lay1' (by omega)]
    exact ⟨_, rfl, .refl _⟩
   | false =>
    rw [cond_false, cond_false]
    generalize p.way.getD (i % p.way.length) default = x at hm
    have hx := h.way x hm
    have he : ∀ y ∈ p.way.eraseIdx (i % p.way.length), y ∈ p.way := fun y hy => List.mem_of_mem_eraseIdx hy
    have hel : (p.way.eraseIdx (i % p.way.length)).length <= p.way.length := by rw [List.length_eraseIdx]; split <;> omega
    have hp := h.wayB he
    have hg := give_is21 hp hx (by omega)
    have hg := hg.ok (by show (p.way.eraseIdx _).length <= _; omega)
    rcases takW_eq (w := p.way) (t := i % p.way.length) (E := bif decide (q = 4) then some (plB p (.trl 31 [])) else gvL p c x (.trl 31 []))
     (S := fun n f => bif decide (q = 4) then gW n <| some (plB p (.tr 31 n f)) else gW2 n <| gvL p c x (.tr 31 n f)) hlt (by omega) with ⟨h1, h2⟩ | ⟨f, h1, h2⟩
    ·rw [h2]
     rw [h1] at hg ⊢
     cases decide (q = 4) with
     | true => exact ⟨_, rfl, .agg (plC_sub msgs_nil)⟩
     | false =>
      rw [cond_false, cond_false, gvL_eq msgs_nil rfl hg]
      exact ⟨_, rfl, .refl _⟩
    ·rw [h1]
     rw [gW_eq, gW2_eq]
     cases decide (q = 4) with
     | true => exact ⟨_, rfl, .agg (plC_sub (mF_sub h2))⟩
     | false =>
      rw [cond_false, cond_false, gvL_eq (mF_sub h2) (mF_dec h2) hg]
      exact ⟨_, rfl, .refl _⟩
 | false =>
  rw [cond_false, cond_false]
  have hat : i % p.reps.length < p.reps.length := Nat.mod_lt _ (by omega)
  have hat3 : i % p.reps.length < 3 := by omega
  have hr := h.rep _ hat3
  cases decide (q = 6) with
  | true =>
   rw [cond_true, cond_true]
   unfold tickK
   have o := tick_is h.b (by omega)
   have := o.len
   rw [qTick (h.b.kok (by omega) rfl)]
   dsimp only
   rw [layn (by show p.way.length <= _; omega) (by omega)]
   exact ⟨_, rfl, .refl _⟩
  | false =>
   rw [cond_false, cond_false]
   cases decide (q = 10) with
   | true =>
    rw [cond_true, cond_true]
    unfold openK
    have hc := h.b.ch.1
    have hv := h.b.va.1
    have q0 : ∀ K : Bk -> Option AV, gC (fun a => decBk (argC a 0)) (fun k => k.p.chain.length <= 1000 /\ k.p.valid.length <= 1000) (fun k => [.agg (encBk k)]) [.agg [.int .i64 p.b.e, .int .i64 p.b.g, .trl 8 [encPlan p.b.p]]] K = K ⟨p.b.e, p.b.g, p.b.p⟩ := fun K =>
     gC_eq (⟨p.b.e, p.b.g, p.b.p⟩ : Bk) (dec_encBk ⟨p.b.e, p.b.g, p.b.p⟩) ⟨Nat.le_trans hc (by omega), Nat.le_trans hv (by omega)⟩ (.refl _)
    rw [q0]
    exact ⟨_, rfl, .refl _⟩
   | false =>
    rw [cond_false, cond_false]
    cases decide (q = 11) with
    | true =>
     rw [cond_true, cond_true]
     unfold resK
     rw [lay1 (x := resMg (IntKind.i64.wrap (p.reset + 1))) (by show p.way.length <= _; omega) rfl (res_sub _)]
     exact ⟨_, rfl, .refl _⟩
    | false =>
     rw [cond_false, cond_false, nz_eq (by omega), tmI_eq hi, rg_eq hat]
     have hd : p.reps.getD (i % p.reps.length) default = rpB p (i % p.reps.length) := rfl
     cases decide (q = 7) with
     | true =>
      rw [cond_true, cond_true]
      unfold beatK
      rw [Int.toNat_natCast, hd]
      have q0 : ∀ K : Rep -> Option AV, gC (fun a => decRep (argC a 0)) (fun _ => True) (fun r => [.agg (encRep r)]) [.agg (encRep (rpB p (i % p.reps.length)))] K = K (rpB p (i % p.reps.length)) := fun K => gC_eq _ (dec_encRep _) trivial (.refl _)
      have q1 : ∀ K : Rep -> Option AV, gC dRep1 RepAg eRep1 [.agg (encRep (rpB p (i % p.reps.length)))] K = K (rpB p (i % p.reps.length)) := fun K => qRep1 (hr.ag (by omega))
      have hal := againP_len hr
      rw [q0, lay1' (by omega)]
      dsimp only
      rw [q1, layn (by show (p.way ++ [_]).length <= _; simp; omega) (by omega)]
      exact ⟨_, rfl, .refl _⟩
     | false =>
      rw [cond_false, cond_false, ro_eq (by omega) (by omega)]
      cases decide (q = 8) with
      | true =>
       rw [cond_true, cond_true]
       unfold cnG
       have q0 : ∀ K : Member -> Option AV, gC (fun a => decMember (argC a 1)) (fun _ => True) (fun m => [.int .i64 0, .agg (encMember m)]) [.int .i64 0, .agg [.int .i64 (rpB p (i % p.reps.length)).self.node, .int .i64 (IntKind.i64.wrap ((rpB p (i % p.reps.length)).self.boot + 1))]] K = K ⟨(rpB p (i % p.reps.length)).self.node, IntKind.i64.wrap ((rpB p (i % p.reps.length)).self.boot + 1)⟩ := fun K =>
        gC_eq (⟨(rpB p (i % p.reps.length)).self.node, IntKind.i64.wrap ((rpB p (i % p.reps.length)).self.boot + 1)⟩ : Member) rfl trivial (.refl _)
       rw [Int.toNat_natCast, hd, q0, rg_eq hat, Nat.zero_add, blt_true hat, Bool.and_true, cond_true, ble_true (Nat.le_refl _), Bool.or_true, Bool.and_true, cond_true]
       exact ⟨_, rfl, .agg (plR_sub (setRs_sub _ _ _))⟩
      | false =>
       rw [cond_false, cond_false, hrl]
       have r := pu_run (M := 1000) h hN 3 0 1000 (by omega) (by omega)
       have e0 : (fun k => encRep (gP (fun k => p.reps.getD k default) 0 k)) = fun k => encRep (p.reps.getD k default) := rfl
       rw [e0, Int.natCast_zero] at r
       refine ⟨_, r, .agg (plR_sub ?_)⟩
       unfold encReps encL
       rw [List.length_map, hrl]
       refine SubV.trs fun k hk => ?_
       have : (p.reps.map pushB).getD k default = gP (fun k => p.reps.getD k default) 3 k := by
        unfold gP
        rw [blt_true hk, cond_true]
        have : k < p.reps.length := by omega
        simp [List.getD, this]
       rw [this]; exact .refl _
structure DX3 where
 p : PlayB
 c : CConf
 k : Nat
 i : Nat
def decDX3 (a : List AV) : DX3 := ⟨decPB (argC a 0), decCf (argC a 1), (getI (argC a 2) 0).toNat, (getI (argC a 2) 1).toNat⟩
def encDX3 (x : DX3) : List AV := [.agg (encPB x.p), .agg (encCf x.c), .agg [.int .u8 (x.k : Int), .int .u8 (x.i : Int)]]
theorem dec_encDX3 (x : DX3) : decDX3 (encDX3 x) = x := by
 obtain ⟨p, c, k, i⟩ := x
 show (⟨decPB (encPB p), c, k, i⟩ : DX3) = _
 rw [dec_encPB]
def pDX3 (x : DX3) : Prop := (∃ N, N <= 980 /\ PIs N x.c x.p) /\ x.p.way.length <= 5000 /\ x.k <= 255 /\ x.i <= 255
def oDX3 (x : DX3) : AV := .agg (encPB (doB x.c (x.k % 12) x.i x.p))
theorem do_con21 (x : DX3) (h : pDX3 x) : Contract PG F_lockgatelaw21_do (encDX3 x) [] (oDX3 x) [] := by
 obtain ⟨⟨N, hN, hp⟩, hw, h1, h2⟩ := h
 obtain ⟨v, e1, e2⟩ := do_con' hp hN hw h1 h2
 exact (con74 e1).res e2
def kDo21 : Known := .spec F_lockgatelaw21_do decDX3 pDX3 encDX3 oDX3
theorem kDo21_ok : kDo21.Ok PG := Known.spec_ok do_con21
def FzN (s : ES) : Prop := ∀ f ∈ s.fz.l, NoL f
def FO (x : ES × List Msg) : Prop := FzN x.1 /\ ∀ m ∈ x.2, m.kind ≠ 9
def WN (m : Msg) : Prop := m.kind = 9 -> NoL m
theorem wn9 {m : Msg} (h : m.kind ≠ 9) : WN m := fun e => absurd e h
theorem kindW9 {m : Msg} (h : KindW m) : m.kind ≠ 9 := by rcases h with h | h | h | h | h <;> omega
theorem outMs9 (p : Plan) (l : List Ask) : ∀ m ∈ outMs p l, m.kind ≠ 9 := by
 intro m hm
 rcases List.mem_cons.1 hm with e | e
 ·subst e; show (10 : Int) ≠ 9; decide
 ·obtain ⟨a, _, e⟩ := List.mem_map.1 e
  subst e; show (22 : Int) ≠ 9; decide
theorem endQ_f {s : ES} (h : FzN s) : FO (endQ s) := by
 unfold endQ
 cases mayE s with
 | true => exact ⟨(fun f hf => by cases hf), outMs9 _ _⟩
 | false => exact ⟨h, fun m hm => by cases hm⟩
theorem begin_f {s : ES} (h : FzN s) (fr : Bool) : FzN (beginS s fr) := by
 unfold beginS
 cases decide (1099511627776 <= s.p.epoch) with
 | true => exact h
 | false => exact fun f hf => by cases hf
theorem h20_f {s : ES} {m : Msg} (h : FzN s) : FO (h20P s m) := by
 unfold h20P
 cases decide (s.p.phase = 1) && decide (s.p.epoch = m.epoch) with
 | false => exact ⟨h, fun m hm => by cases hm⟩
 | true =>
  have h1 : FzN { s with fe := true } := h
  exact endQ_f h1
theorem h9_f {s : ES} {m : Msg} (h : FzN s) (hm : NoL m) : FO (h9P s m) := by
 unfold h9P
 cases decide (s.p.phase = 1) && decide (s.p.epoch = m.epoch) with
 | false => exact ⟨h, fun m hm => by cases hm⟩
 | true =>
  refine endQ_f ?_
  unfold frzS
  cases (frozenP (wkE s) ⟨m.src, m.sboot⟩).2 with
  | true => exact h
  | false =>
   rw [cond_false]
   have hl : (lnApp s.fz (kM m 9)).l = s.fz.l ++ [kM m 9] := by cases s.fz <;> rfl
   intro f hf
   have hf : f ∈ (lnApp s.fz (kM m 9)).l := hf
   rw [hl] at hf
   rcases List.mem_append.1 hf with e | e
   ·exact h f e
   ·have : f = kM m 9 := by simpa using e
    subst this; exact hm
theorem h21_f {s : ES} {m : Msg} (h : FzN s) : FO (h21P s m) := by
 have hA : FzN (askS s m) := by
  unfold askS
  cases s.l.any (isAsk m) <;> exact h
 have hF : FzN (afS (askS s m) m) := by
  unfold afS
  cases decide ((askS s m).p.phase = 1) && (askS s m).p.fresh with
  | true => exact hA
  | false =>
   have h1 : FzN { askS s m with p := rsP1 (askS s m).p m } := hA
   exact begin_f h1 true
 unfold h21P
 cases isNo s m with
 | true =>
  refine ⟨h, fun x hx => ?_⟩
  have : x = wasMg (askOf m) := by simpa using hx
  subst this; show (22 : Int) ≠ 9; decide
 | false =>
  cases decide (s.p.reset < m.num) with
  | true => exact endQ_f hF
  | false => exact ⟨hA, fun m hm => by cases hm⟩
theorem h7_f {s : ES} {m : Msg} {x : VF} (h : FzN s) : FzN (h7P s m x) := by
 unfold h7P
 cases stale s.ns m <;> exact h
theorem hd_f {s : ES} {m : Msg} (h : FzN s) (hm : WN m) : FO (hdS s m) := by
 unfold hdS
 cases h1 : decide (m.kind = 20) with
 | true => exact h20_f h
 | false =>
  cases h2 : decide (m.kind = 9) with
  | true => exact h9_f h (hm (of_decide_eq_true h2))
  | false =>
   cases h3 : decide (m.kind = 21) with
   | true => exact h21_f h
   | false => exact ⟨h7_f h, fun m hm => by cases hm⟩
theorem agMs9 (s : ES) : ∀ m ∈ agMs s, m.kind ≠ 9 := by
 have hfr : ∀ l : List Member, ∀ m ∈ l.filterMap (agF s), m.kind ≠ 9 := by
  intro l m hm
  obtain ⟨a, ha, e⟩ := List.mem_filterMap.1 hm
  unfold agF at e
  cases hb : (frozenP (wkE s) a).2 with
  | true => rw [hb] at e; simp at e
  | false =>
   rw [hb] at e
   have : frzMg a s.p.epoch = m := by simpa using e
   rw [<- this]; show (8 : Int) ≠ 9; decide
 intro m hm
 unfold agMs at hm
 cases hp : decide (s.p.phase = 1) with
 | true =>
  rw [hp, cond_true] at hm
  cases hfe : s.fe with
  | true => rw [hfe] at hm; exact hfr _ m (by simpa using hm)
  | false =>
   rw [hfe] at hm
   rcases List.mem_append.1 hm with e | e
   ·have : m = fenMg s.p.epoch := by simpa using e
    subst this; show (19 : Int) ≠ 9; decide
   ·exact hfr _ m e
 | false =>
  rw [hp, cond_false] at hm
  cases hp3 : decide (s.p.phase = 3) && !s.he with
  | false => rw [hp3] at hm; cases hm
  | true =>
   rw [hp3, cond_true] at hm
   cases hl : decide (0 < s.p.chain.length) with
   | false => rw [hl] at hm; cases hm
   | true =>
    rw [hl] at hm
    have : m = actMg s.p := by simpa using hm
    subst this; show (10 : Int) ≠ 9; decide
theorem tick_f {s : ES} (h : FzN s) : FO (tickQ s) := by
 have h0 : FzN (blkS s) := h
 have h2 : FzN (lookP (blkS s)) := by
  rcases look_begin (blkS s) with e | ⟨fr, e⟩
  ·rw [e]; exact h0
  ·rw [e]; exact begin_f h0 fr
 unfold tickQ againQ
 cases hm : mayE (lookP (blkS s)) with
 | true => exact ⟨(fun f hf => by cases hf), outMs9 _ _⟩
 | false => exact ⟨h2, agMs9 _⟩
theorem hand_n (r : Rep) (m : Msg) : ∀ x ∈ (handP r m).2, WN x := by
 by_cases h8 : m.kind = 8
 ·intro x hx
  unfold handP at hx
  cases ht : toMe r m with
  | false => rw [ht] at hx; cases hx
  | true =>
   rw [ht, cond_true] at hx
   unfold handK at hx
   rw [decide_eq_true h8, cond_true] at hx
   unfold freezeP at hx
   cases ha : aboveP r m with
   | false => rw [ha] at hx; cases hx
   | true =>
    rw [ha] at hx
    simp only [cond_true, List.mem_singleton] at hx
    subst hx
    exact fun _ => ⟨rfl, rfl, rfl, rfl, rfl⟩
 ·exact fun x hx => wn9 (kindW9 (hand_kind h8 x hx))
structure FE (c : CConf) (p : PlayB) : Prop where
 w : ∀ m ∈ p.way, WN m
 f : FzN (p.b.es c)
theorem FE.lay {c : CConf} {p : PlayB} {l : List Msg} (h : FE c p) (hl : ∀ m ∈ l, WN m) : FE c (layB p l) := ⟨fun m hm => (List.mem_append.1 hm).elim (h.w m) (hl m), h.f⟩
theorem FE.wayB {c : CConf} {p : PlayB} {l : List Msg} (h : FE c p) (hl : ∀ m ∈ l, m ∈ p.way) : FE c (wayB p l) := ⟨fun m hm => h.w m (hl m hm), h.f⟩
theorem FE.bur {c : CConf} {p : PlayB} {x : ES × List Msg} (h : FE c p) (hx : FO x) : FE c (layB { p with b := x.1.bu } x.2) := by
 have h1 : FE c { p with b := x.1.bu } := ⟨h.w, hx.1⟩
 exact h1.lay fun m hm => wn9 (hx.2 m hm)
theorem give_n {c : CConf} {p : PlayB} {m : Msg} (h : FE c p) (hm : WN m) : FE c (giveB c p m) := by
 unfold giveB
 cases decide (m.dst = 0) with
 | true =>
  have h1 : FE c { p with fe := maxI p.fe m.epoch } := ⟨h.w, h.f⟩
  refine h1.lay fun x hx => ?_
  have : x = fncMg (maxI p.fe m.epoch) := by simpa using hx
  subst this; exact wn9 (by show (20 : Int) ≠ 9; decide)
 | false =>
  rw [cond_false]
  cases decide (m.dst = 1) with
  | true => exact h.bur (hd_f h.f hm)
  | false =>
   rw [cond_false]
   rcases giveR_cases m p.reps.length 0 p with e | ⟨j, j1, j2, e⟩
   ·rw [e]; exact h
   ·rw [e]
    have h1 : FE c (putB p j (handP (rpB p j) m).1) := ⟨h.w, h.f⟩
    exact h1.lay (hand_n _ _)
theorem do_n {c : CConf} {p : PlayB} {k i : Nat} (h : FE c p) : FE c (doB c k i p) := by
 unfold doB
 cases decide (k <= 5) with
 | true =>
  rw [cond_true]
  by_cases hw : p.way.length = 0
  ·rw [decide_eq_true hw]; exact h
  ·have hlt : i % p.way.length < p.way.length := Nat.mod_lt _ (by omega)
   have hm := mem_getDw hlt
   rw [decide_eq_false hw, cond_false]
   cases decide (k = 5) with
   | true =>
    refine h.lay fun x hx => ?_
    have : x = p.way.getD (i % p.way.length) default := by simpa using hx
    rw [this]; exact h.w _ hm
   | false =>
    rw [cond_false]
    have he : ∀ x ∈ p.way.eraseIdx (i % p.way.length), x ∈ p.way := fun x hx => List.mem_of_mem_eraseIdx hx
    cases decide (k = 4) with
    | true => exact h.wayB he
    | false => exact give_n (h.wayB he) (h.w _ hm)
 | false =>
  rw [cond_false]
  cases decide (k = 6) with
  | true => exact h.bur (tick_f h.f)
  | false =>
   rw [cond_false]
   cases decide (k = 10) with
   | true => exact ⟨h.w, fun f hf => by cases hf⟩
   | false =>
    rw [cond_false]
    cases decide (k = 11) with
    | true =>
     have h1 : FE c { p with reset := IntKind.i64.wrap (p.reset + 1) } := ⟨h.w, h.f⟩
     refine h1.lay fun x hx => ?_
     have : x = resMg (IntKind.i64.wrap (p.reset + 1)) := by simpa using hx
     subst this; exact wn9 (by show (21 : Int) ≠ 9; decide)
    | false =>
     rw [cond_false]
     cases decide (k = 7) with
     | true =>
      rw [cond_true]
      refine (h.lay fun x hx => ?_).lay fun x hx => wn9 (kindW9 (again_kind _ x hx))
      have : x = beatMg (rpB p (i % p.reps.length)) := by simpa using hx
      subst this; exact wn9 (by show (7 : Int) ≠ 9; decide)
     | false =>
      rw [cond_false]
      cases decide (k = 8) with
      | true => exact ⟨h.w, h.f⟩
      | false => exact ⟨h.w, h.f⟩
theorem ns_short {N : Nat} {ns : List Alive} (h : NsIs N ns) : ns.length <= 4 := by
 match ns, h with
 | [], _ => exact Nat.zero_le _
 | [_], _ => simp
 | [_, _], _ => simp
 | [_, _, _], _ => simp
 | [_, _, _, _], _ => simp
 | a :: b :: c :: d :: e :: r, h =>
  exfalso
  have hs := h.srt
  have ha := (h.mem a (by simp)).1
  have he := (h.mem e (by simp)).2.1
  simp only [List.pairwise_cons] at hs
  have h1 := hs.1 b (by simp)
  have h2 := hs.2.1 c (by simp)
  have h3 := hs.2.2.1 d (by simp)
  have h4 := hs.2.2.2.1 e (by simp)
  omega
end Go.Wk
end
noncomputable section
open Go Go.AM Go.Md Go.Fl
namespace Go.Wk
set_option maxRecDepth 100000
set_option maxHeartbeats 4000000
def confP (k : Int) : CConf := ⟨IntKind.i64.wrap (1 + k.tmod 3), 2, 3⟩
theorem conf_eq (k : Int) : callT env0 5 F_lockgateref21_Conf [.int .i64 k] = some (.agg (encCf (confP k))) := by kernel_rfl
def kConf : Known := .spec F_lockgateref21_Conf (fun a => getI a 0) (fun _ => True) (fun k => [.int .i64 k]) (fun k => .agg (encCf (confP k)))
theorem kConf_ok : kConf.Ok PG := Known.spec_ok fun k _ => con0 (conf_eq k)
def zeroPl : Plan := ⟨0, 0, 0, false, 0, 0, [], []⟩
def beginB21 : PlayB := ⟨openB ⟨0, 0, zeroPl⟩, 0, [rep0 ⟨2, 1⟩, rep0 ⟨3, 1⟩, rep0 ⟨4, 1⟩], [], ⟨0, 0⟩, 0⟩
def zRepC (i : Nat) : List AV := [.int .i64 0, .int .i64 (2 + i), .int .i64 1, .int .i64 0, .int .i64 0, .int .i64 0, .int .i64 0, .nils, .int .i64 0, .cplx .f64 0 0, .cplx .f64 0 0, .nils, .nils, .cplx .f64 0 0, .nils]
def begA21 (y2 y3 : List Member) : AV := .agg [.int .i64 0, .int .i64 0, .trl 8 [[.int .i64 0, .int .i64 0, .int .i64 0, .bool false, .int .i64 0, .int .i64 0, encMembers y2, encMembers y3]], .nils, .trl 4 [[.bool false, .nils, .nils, .bool false]], .nils, .nils, .trl 3 [[.int .i64 0, .cplx .f64 0 0, .nils]], .trl 15 ((List.range 3).map zRepC), .nils, .cplx .f64 0 0, .int .i64 0]
theorem begin21_eq (c : CConf) : callT (envO kns71) 30 F_lockgatelaw21_begin [.agg (encCf c)] =
 gC (dL decMember) shortL eMems [.nils] fun y2 => gC (dL decMember) shortL eMems [.nils] fun y3 => some (begA21 y2 y3) := by kernel_rfl
theorem begin21_con (c : CConf) (_ : True) : Contract PG F_lockgatelaw21_begin [.agg (encCf c)] [] (.agg (encPB beginB21)) [] := by
 have e := begin21_eq c
 have q : ∀ K : List Member -> Option AV, gC (dL decMember) shortL eMems [.nils] K = K [] := fun K => gC_eq [] rfl (Nat.zero_le _) (.cons nilsL .nil)
 rw [q, q] at e
 have hr : SubV (.trl 15 ((List.range 3).map zRepC)) (encReps [rep0 ⟨2, 1⟩, rep0 ⟨3, 1⟩, rep0 ⟨4, 1⟩]) := subB_ok 9 _ _ (by kernel_rfl)
 refine (con71 e).res (.agg ?_)
 exact .cons (.refl _) (.cons (.refl _) (.cons (.refl _) (.cons nilsL (.cons (one_trl (.cons (.refl _) (.cons nilsL (.refl _)))) (.cons (.refl _) (.cons nilsL (.cons (.refl _) (.cons hr (.cons nilsL (.refl _))))))))))
def kBegin21 : Known := .spec F_lockgatelaw21_begin (fun a => decCf (argC a 0)) (fun _ => True) (fun c => [.agg (encCf c)]) (fun _ => .agg (encPB beginB21))
theorem kBegin21_ok : kBegin21.Ok PG := Known.spec_ok begin21_con
theorem awake21_eq : callT env0 60 F_lockgatelaw21_awake [] = some (.bool true) := by kernel_rfl
def kAwake21 : Known := .one F_lockgatelaw21_awake [] (.bool true)
theorem kAwake21_ok : kAwake21.Ok PG := Known.one_ok (con0 awake21_eq)
end Go.Wk
end
noncomputable section
open Go Go.AM Go.Md Go.Fl
namespace Go.Wk
set_option maxRecDepth 100000
set_option maxHeartbeats 400000
abbrev Stp := Nat × Nat
def encStp (s : Stp) : List AV := [.int .u8 (s.1 : Int), .int .u8 (s.2 : Int)]
def encStps (l : List Stp) : AV := encL 2 encStp (0, 0) l
def SOu (l : List Stp) (c : CConf) (p : PlayB) (i : Int) : St := { fr := [(1, encStps l), (5, .ptr 0 0 0), (6, .ptr 1 0 0), (7, .int .i64 i)], hp := [.arr true 15 [encCf c], .arr true 12 [encPB p]] }
def gAwk {R : Type} (K : Option R) : Option R := gC (fun _ => ()) (fun _ => True) (fun _ => ([] : List AV)) [] fun _ => K
def gCnf (k : Int) (K : CConf -> Option AV) : Option AV := gC (fun a => getI a 0) (fun _ => True) (fun k => [.int .i64 k]) [.int .i64 k] fun y => gC (fun a => decCf (argC a 0)) (fun _ => True) (fun c => [.agg (encCf c)]) [.agg (encCf (confP y))] fun _ => K (confP y)
def gDo21 (p : PlayB) (c : CConf) (s : Stp) (K : DX3 -> Option AV) : Option AV := gC decDX3 pDX3 encDX3 [.agg (encPB p), .agg (encCf c), .agg (encStp s)] K
def stC (s : Int × Int) : List AV := [.int .u8 s.1, .int .u8 s.2]
def stepsV (n : Nat) (f : Nat -> Int × Int) : AV := .tr 2 n fun i => stC (f i)
def StOk (s : Int × Int) : Prop := (0 <= s.1 /\ s.1 <= 255) /\ 0 <= s.2 /\ s.2 <= 255
def sFs : Option TypeDesc -> Option (List TypeId)
 | some (.struct fs) => some (fs.toList.map (·.type))
 | _ => none
theorem sFs_some {d : Option TypeDesc} {l : List TypeId} (h : sFs d = some l) : ∃ fs, d = some (.struct fs) /\ fs.toList.map (·.type) = l := by
 unfold sFs at h
 split at h
 ·exact ⟨_, rfl, Option.some.inj h⟩
 ·cases h
theorem two_fs {l : List Field} {s t : TypeId} (h : l.map (·.type) = [s, t]) : ∃ x y, l = [x, y] /\ x.type = s /\ y.type = t := by
 cases l with
 | nil => cases h
 | cons x l =>
  cases l with
  | nil => cases h
  | cons y l =>
   cases l with
   | nil => simp only [List.map_cons, List.map_nil, List.cons.injEq, and_true] at h; exact ⟨x, y, rfl, h.1, h.2⟩
   | cons z l => simp at h
theorem steps_shape {avs : List AV} (h : Args PG 9 [5, 22] avs) : ∃ (k : Int) (n : Nat) (f : Nat -> Int × Int), (0 <= k /\ k <= 255) /\ (∀ i, i < n -> StOk (f i)) /\ SubC avs [.int .u8 k, stepsV n f] := by
 obtain ⟨av, r, hs, rfl, av2, r2, hs2, rfl, rfl⟩ := h
 have u5 : PG.underlying 5 = some (.int .u8) := by kernel_rfl
 have u22 : PG.underlying 22 = some (.slice 44) := by kernel_rfl
 obtain ⟨a1, a2⟩ := Shape.num u5 hs
 obtain ⟨c, n, f, rfl, b1, b2, b3⟩ := Shape.list u22 hs2
 have e1 : argOf PG 5 av = .int .u8 (getI av 0) := by unfold argOf; rw [u5, a1]; rfl
 have e2 : argOf PG 22 [c] = c := by unfold argOf; rw [u22]; rfl
 rw [e1, e2]
 have hb : IntKind.u8.min = 0 /\ IntKind.u8.max = 255 := by decide
 rw [hb.1, hb.2] at a2
 have hst : ∀ i, i < n -> f i = stC (getI (f i) 0, getI (f i) 1) /\ StOk (getI (f i) 0, getI (f i) 1) := by
  intro i hi
  have h3 := b3 i hi
  unfold Shape at h3
  have hu : sFs (PG.underlying 44) = some [5, 5] := by kernel_rfl
  obtain ⟨fs, u44, hfs⟩ := sFs_some hu
  rw [u44] at h3
  simp only [] at h3
  obtain ⟨x, y, hl, hx, hy⟩ := two_fs hfs
  rw [hl] at h3
  obtain ⟨a, b, hab, h4, c, d, hcd, h5, h6⟩ := h3
  have h6 : d = [] := h6
  rw [hx] at h4
  rw [hy] at h5
  obtain ⟨c1, c2⟩ := Shape.num u5 h4
  obtain ⟨d1, d2⟩ := Shape.num u5 h5
  rw [hb.1, hb.2] at c2 d2
  rw [h6, List.append_nil] at hcd
  rw [hab, hcd, c1, d1]
  exact ⟨rfl, c2, d2⟩
 refine ⟨getI av 0, n, fun i => (getI (f i) 0, getI (f i) 1), a2, fun i hi => (hst i hi).2, .cons (.refl _) (.cons (b1.trans ?_) .nil)⟩
 have ec : PG.cellsOf 44 = 2 := by kernel_rfl
 rw [ec]
 exact .trs fun i hi => by
  have := (hst i hi).1
  rw [<- this]
  exact .refl _
theorem steps_list (n : Nat) (f : Nat -> Int × Int) (hf : ∀ i, i < n -> StOk (f i)) : ∃ l : List Stp, l.length = n /\ (∀ s ∈ l, s.1 <= 255 /\ s.2 <= 255) /\ SubV (stepsV n f) (encStps l) := by
 refine ⟨(List.range n).map fun i => ((f i).1.toNat, (f i).2.toNat), by simp, fun s hs => ?_, ?_⟩
 ·obtain ⟨i, hi, e⟩ := List.mem_map.1 hs
  have := hf i (List.mem_range.1 hi)
  unfold StOk at this
  subst e
  dsimp only
  omega
 ·unfold stepsV encStps encL
  rw [List.length_map, List.length_range]
  refine SubV.trs fun i hi => ?_
  have h := hf i hi
  unfold StOk at h
  have e : ((List.range n).map fun i => ((f i).1.toNat, (f i).2.toNat)).getD i (0, 0) = ((f i).1.toNat, (f i).2.toNat) := by
   simp [List.getD, hi]
  rw [e]
  unfold stC encStp
  dsimp only
  rw [Int.toNat_of_nonneg h.1.1, Int.toNat_of_nonneg h.2.1]
  exact .refl _
theorem confP_ok {k : Int} (h : 0 <= k /\ k <= 255) : 1 <= (confP (IntKind.i64.wrap k)).chain /\ (confP (IntKind.i64.wrap k)).chain <= 3 := by
 have h0 : IntKind.i64.wrap k = k := wrap64 (by omega)
 rw [h0]
 show 1 <= IntKind.i64.wrap (1 + k.tmod 3) /\ IntKind.i64.wrap (1 + k.tmod 3) <= 3
 have h1 := Int.tmod_nonneg (3 : Int) h.1
 have h2 := Int.tmod_lt_of_pos k (show (0 : Int) < 3 by omega)
 rw [wrap64 (by omega)]
 omega
theorem begin_pis {c : CConf} (h1 : 1 <= c.chain) (h2 : c.chain <= 3) : PIs 1 c beginB21 := by
 have hm : ∀ n : Int, 2 <= n -> n <= 4 -> MemIs ⟨n, 1⟩ := fun n a b => ⟨a, by show n <= 5; omega, by show (1 : Int) <= 1; omega, by show (1 : Int) <= 1000; omega⟩
 have z0 : (0 : Int) <= 0 := by omega
 have z1 : (0 : Int) <= ((1 : Nat) : Int) := by omega
 refine ⟨⟨h1, h2, rfl, z0, z1, z0, z1, z0, z1, .nil, .nil, ⟨Nat.zero_le _, .nil, (fun a ha => by cases ha), (fun a ha => by cases ha)⟩, .nil, Nat.zero_le _, (fun f hf => by cases hf), (fun e => by cases e), Nat.zero_le _, (fun a ha => by cases ha), fun _ => rfl⟩, rfl, fun i hi => ?_, fun i hi => ?_, fun i hi => ?_, (fun m hm => by cases hm)⟩
 ·match i, hi with
  | 0, _ => exact rep0_is (hm 2 (by omega) (by omega)) (by decide)
  | 1, _ => exact rep0_is (hm 3 (by omega) (by omega)) (by decide)
  | 2, _ => exact rep0_is (hm 4 (by omega) (by omega)) (by decide)
 ·match i, hi with
  | 0, _ => rfl
  | 1, _ => rfl
  | 2, _ => rfl
 ·match i, hi with
  | 0, _ => show (1 : Int) <= 1; omega
  | 1, _ => show (1 : Int) <= 1; omega
  | 2, _ => show (1 : Int) <= 1; omega
theorem sb_eq (k : Bk) : callT (envO [kSame16]) 20 F_lockgateref21_SameBook [AV.agg (encBk k), AV.agg (encBk k)] =
 bif !decide (k.e = k.e) then
  some (AV.bool false)
 else
  bif !decide (k.g = k.g) then
   some (AV.bool false)
  else
   bif !decide (k.p.epoch = k.p.epoch) then
    some (AV.bool false)
   else
    bif !decide (k.p.gen = k.p.gen) then
     some (AV.bool false)
    else
     bif !decide (k.p.phase = k.p.phase) then
      some (AV.bool false)
     else
      bif !bif k.p.fresh then k.p.fresh else !k.p.fresh then
       some (AV.bool false)
      else
       bif !decide (k.p.base = k.p.base) then
        some (AV.bool false)
       else
        bif !decide (k.p.reset = k.p.reset) then
         some (AV.bool false)
        else
         gC (dL decMember) (shortL) (fun l => [encMembers l, encMembers l]) ([encMembers k.p.chain, encMembers k.p.chain]) fun y0 =>
         gC (dL decMember) (shortL) (fun l => [encMembers l, encMembers l]) ([encMembers k.p.valid, encMembers k.p.valid]) fun y1 =>
         some (AV.bool true) := by kernel_rfl
theorem sameB_con (k : Bk) (h : k.p.chain.length <= 1000 /\ k.p.valid.length <= 1000) : Contract PG F_lockgateref21_SameBook [.agg (encBk k), .agg (encBk k)] [] (.bool true) [] := by
 have e := sb_eq k
 have h1 : k.p.chain.length <= 1000 := h.1
 have h2 : k.p.valid.length <= 1000 := h.2
 have q1 : ∀ (l : List Member) (K : List Member -> Option AV), l.length <= 1000 -> gC (dL decMember) shortL (fun l => [encMembers l, encMembers l]) [encMembers l, encMembers l] K = K l := fun l K hl => gC_eq l (decMembers l) (by unfold shortL LB; omega) (.refl _)
 rw [q1 _ _ h1, q1 _ _ h2, decide_eq_true rfl, decide_eq_true rfl, decide_eq_true rfl, decide_eq_true rfl, decide_eq_true rfl, decide_eq_true rfl, decide_eq_true rfl] at e
 have hb : (bif k.p.fresh then k.p.fresh else !k.p.fresh) = true := by cases k.p.fresh <;> rfl
 rw [hb] at e
 exact con_of (md := fun _ => none) (ak kSame16_ok ank) e
def kSameB : Known := .spec F_lockgateref21_SameBook (fun a => decBk (argC a 0)) (fun k => k.p.chain.length <= 1000 /\ k.p.valid.length <= 1000) (fun k => [.agg (encBk k), .agg (encBk k)]) (fun _ => .bool true)
theorem kSameB_ok : kSameB.Ok PG := Known.spec_ok sameB_con
def knKp (l0 : List Member) (n0 : List Alive) : List Known := [kAwake21, kConf, kBegin21, kDo21, kOpen, kCon F_coord_Tick rT (hpTk l0), kCon F_coord_Handle (rN (nK n0)) (hpNd n0), kSameB]
theorem knKp_ok (l0 : List Member) (n0 : List Alive) : ∀ k ∈ knKp l0 n0, k.Ok PG := ak kAwake21_ok (ak kConf_ok (ak kBegin21_ok (ak kDo21_ok (ak kOpen_ok (ak (kCon_ok _ _ _) (ak (kCon_ok _ _ _) (ak kSameB_ok ank)))))))
def mdKp (f : Nat) : Option Nat := bif nmem f [F_coord_Tick, F_coord_Handle] then some 1 else none
def envKp (l0 : List Member) (n0 : List Alive) : Env := envM mdKp (orcOf (knKp l0 n0))
theorem conKp {l0 : List Member} {n0 : List Alive} {n f : Nat} {xs : List AV} {r : AV} (e : callT (envKp l0 n0) n f xs = some r) : Contract PG f xs [] r [] := con_of (md := mdKp) (knKp_ok l0 n0) e
def Lk (l0 : List Member) (n0 : List Alive) (N m : Nat) (S : St) : Option AV := LP (envKp l0 n0) N 0 F_lockgatelaw21_CoordKeeps snK 0 [] m S
def Lk2 (l0 : List Member) (n0 : List Alive) (N m : Nat) (S : St) : Option AV := LP (envKp l0 n0) N 0 F_lockgatelaw21_CoordKeeps snK 2 [] m S
def gOpK (k : Bk) (K : Bk -> Option AV) : Option AV := gC (fun a => decBk (argC a 0)) (fun k => k.p.chain.length <= 1000 /\ k.p.valid.length <= 1000) (fun k => [.agg (encBk k)]) [.agg (encBk k)] K
theorem kp_in (l0 : List Member) (n0 : List Alive) (N : Nat) (k : Int) (l : List Stp) : callT (envKp l0 n0) (N + 1) F_lockgatelaw21_CoordKeeps [.int .u8 k, encStps l] =
 gAwk (bif decide (80 < (l.length : Int)) then gAwk (some (.bool true)) else gCnf (IntKind.i64.wrap k) fun c => Lk l0 n0 N N (SOu l c beginB21 0)) := by kernel_rfl
def rsMC : List AV := [.int .i64 21, .int .i64 9, .int .i64 1, .int .i64 0, .int .i64 0, .int .i64 0, .int .i64 0, .int .i64 0, .int .i64 0, .int .i64 1000, .int .i64 0, .int .i64 0, .bool false, .bool false, .str [], .str [], .cplx .f64 0 0, .cplx .f64 0 0, .int .i64 0, .str [], .str [], .str [], .bool false, .nils, .nils, .nils, .cplx .f64 0 0, .cplx .f64 0 0, .int .i64 0, .nils, .nils]
def nKq (q : Nat) : List Alive -> AV
 | [] => encAlives []
 | a :: t => .sl 3 q 0 (a :: t).length 0
def SKf (l0 : List Member) (n0 : List Alive) (p : PlayB) (y : Bk) : St := { fr := [(6, .ptr 0 0 0), (8, .ptr 1 0 0), (9, .ptr 2 0 0), (11, .ptr (4 + oM l0) 0 0), (13, .int .i64 0)], hp := .arr true 12 [encPB p] :: .arr true 3 [encBk y] :: .arr true 7 [[.undef, .undef, .sl 8 3 0 1 1, .undef, .undef, .undef, .undef]] :: .arr true 8 [[.undef, .undef, .undef, .undef, .undef, .undef, mC 4 l0, .undef]] :: (mBl l0 ++ (.arr true 7 [[.undef, .undef, .undef, nKq (5 + oM l0) n0, .undef, .undef, .undef]] :: hpNd n0)) }
def finKp (l0 : List Member) (n0 : List Alive) (N : Nat) (c : CConf) (p : PlayB) : Option AV := gOpK ⟨p.b.e, p.b.g, p.b.p⟩ fun y => gCon F_coord_Tick [.agg (encBu p.b), .agg (encCf c)] [] rT (hpTk l0) <| gCon F_coord_Handle [.agg (encBu p.b), .agg (encCf c), .agg rsMC] [] (rN (nK n0)) (hpNd n0) <| Lk2 l0 n0 N N (SKf l0 n0 p y)
theorem kp_0 (l0 : List Member) (n0 : List Alive) (N m : Nat) (l : List Stp) (c : CConf) (p : PlayB) (i : Int) : Lk l0 n0 N (m + 1) (SOu l c p i) =
 bif decide (i < (l.length : Int)) then bif decide ((p.way.length : Int) <= 200) then rg i l.length <| gDo21 p c (l.getD i.toNat (0, 0)) fun y => Lk l0 n0 N m (SOu l c (doB y.c (y.k % 12) y.i y.p) (IntKind.i64.wrap (i + 1)))
  else finKp l0 n0 N c p else finKp l0 n0 N c p := by
 cases l0 <;> cases n0 <;> kernel_rfl
def negs (K : Option AV) : List Alive -> Option AV
 | [] => K
 | a :: r => bif decide (a.missed < 0) then some (.bool false) else negs K r
def gSbK (k y : Bk) : Option AV := gC (fun a => decBk (argC a 0)) (fun k => k.p.chain.length <= 1000 /\ k.p.valid.length <= 1000) (fun k => [.agg (encBk k), .agg (encBk k)]) [.agg (encBk k), .agg (encBk y)] fun _ => some (.bool true)
theorem kp_f (l0 : List Member) (ns : List Alive) (h1 : l0.length <= 3) (h2 : ns.length <= 4) (N : Nat) (e g : Int) (pl : Plan) (keep : List Member) (fz : LN Msg) (fe he : Bool) (al : List Ask) (fe' : Int) (reps : List Rep) (way : List Msg) (safe : Ver) (reset : Int) (y : Bk) :
  Lk2 l0 ns (N + 12) (N + 12) (SKf l0 ns ⟨⟨e, g, pl, ns, keep, fz, fe, he, al⟩, fe', reps, way, safe, reset⟩ y) = negs (gSbK ⟨e, g, pl⟩ y) ns := by
 rcases l0 with _ | ⟨a, _ | ⟨b, _ | ⟨c, _ | ⟨d, r⟩⟩⟩⟩ <;> rcases ns with _ | ⟨a', _ | ⟨b', _ | ⟨c', _ | ⟨d', _ | ⟨e', r'⟩⟩⟩⟩⟩ <;> first
  | (exfalso; simp only [List.length_cons, List.length_nil] at h1 h2; omega)
  | kernel_rfl
def endPl (c : CConf) : List Stp -> PlayB -> PlayB
 | [], p => p
 | s :: l, p => bif decide (p.way.length <= 200) then endPl c l (doB c (s.1 % 12) s.2 p) else p
theorem endPl_is {c : CConf} : ∀ (l : List Stp) (n : Nat) (p : PlayB), n + 3 * l.length <= 900 -> PIs n c p -> FE c p -> PIs (n + 3 * l.length) c (endPl c l p) /\ FE c (endPl c l p)
 | [], n, p, _, hp, hf => ⟨hp, hf⟩
 | s :: l, n, p, hn, hp, hf => by
  have hn' : n + 3 * (l.length + 1) <= 900 := hn
  unfold endPl
  cases decide (p.way.length <= 200) with
  | false => exact ⟨hp.mono (by simp only [List.length_cons]; omega), hf⟩
  | true =>
   have hp' := (do_is21 (k := s.1 % 12) (i := s.2) hp (by omega)).1
   have := endPl_is l (n + 3) _ (by omega) hp' (do_n (k := s.1 % 12) (i := s.2) hf)
   rw [cond_true, show n + 3 * (s :: l).length = n + 3 + 3 * l.length by simp only [List.length_cons]; omega]
   exact this
theorem kp_run {l0 : List Member} {n0 : List Alive} {N n : Nat} {l : List Stp} {c : CConf} (hs : ∀ s ∈ l, s.1 <= 255 /\ s.2 <= 255) (hl : l.length <= 120) :
  ∀ d i m p, i + d = l.length -> d < m -> PIs (n + 3 * i) c p -> n <= 500 -> Lk l0 n0 N m (SOu l c p (i : Nat)) = finKp l0 n0 N c (endPl c (l.drop i) p) := by
 intro d
 induction d with
 | zero =>
  intro i m p hi hm hp hn
  obtain ⟨m, rfl⟩ : ∃ k, m = k + 1 := ⟨m - 1, by omega⟩
  rw [kp_0, decide_eq_false (by omega), cond_false, List.drop_eq_nil_of_le (by omega)]
  rfl
 | succ d ih =>
  intro i m p hi hm hp hn
  obtain ⟨m, rfl⟩ : ∃ k, m = k + 1 := ⟨m - 1, by omega⟩
  have hil : i < l.length := by omega
  rw [kp_0, decide_eq_true (by omega), cond_true, drop_cons (z := (0, 0)) hil]
  unfold endPl
  by_cases hw : p.way.length <= 200
  ·rw [decide_eq_true (by omega), cond_true, rg_eq hil, Int.toNat_natCast, decide_eq_true hw, cond_true]
   have hm' : l.getD i (0, 0) ∈ l := by simp [List.getD, List.getElem?_eq_getElem hil]
   obtain ⟨b1, b2⟩ := hs _ hm'
   generalize l.getD i (0, 0) = s at b1 b2
   have q0 : ∀ K : DX3 -> Option AV, gDo21 p c s K = K ⟨p, c, s.1, s.2⟩ := fun K =>
    gC_eq (⟨p, c, s.1, s.2⟩ : DX3) (dec_encDX3 ⟨p, c, s.1, s.2⟩) ⟨⟨n + 3 * i, by omega, hp⟩, by show p.way.length <= 5000; omega, b1, b2⟩ (.refl _)
   rw [q0]
   dsimp only
   have h3 := (do_is21 (k := s.1 % 12) (i := s.2) hp (by omega)).1
   rw [wrapS (by omega)]
   exact ih (i + 1) m _ (by omega) (by omega) (by rw [show n + 3 * (i + 1) = n + 3 * i + 3 by omega]; exact h3) hn
  ·rw [decide_eq_false (by omega), cond_false, decide_eq_false hw, cond_false]
def rsM : Msg := { msgZ with kind := 21, src := 9, dst := 1, num := 1000 }
theorem rs_sub : SubC rsMC (encMsg (kM rsM 21)) := subC_all (by repeat' (first | exact trivial | exact nilsL | exact SubV.refl _ | refine ⟨?_, ?_⟩))
theorem negs_ok {K : Option AV} : ∀ {l : List Alive}, (∀ a ∈ l, 0 <= a.missed) -> negs K l = K
 | [], _ => rfl
 | a :: r, h => by
  unfold negs
  have := h a (List.mem_cons_self ..)
  rw [decide_eq_false (by omega), cond_false]
  exact negs_ok fun x hx => h x (List.mem_cons_of_mem _ hx)
theorem finKp_ok {M N : Nat} {c : CConf} {p : PlayB} (h : PIs M c p) (hf : FE c p) (hM : M <= 990) : finKp (tkCh (p.b.es c)) p.b.ns (N + 12) c p = some (.bool true) := by
 have hb := h.b
 have hch := hb.ch.1
 have hva := hb.va.1
 have c1 : CG F_coord_Tick [.agg (encBu p.b), .agg (encCf c)] [] rT (hpTk (tkCh (p.b.es c))) := ⟨tickK_con (s := p.b.es c) (hb.kok (by omega) rfl) hf.f, Nat.zero_le _⟩
 have hl := hb.ll
 have c2 : CG F_coord_Handle [.agg (encBu p.b), .agg (encCf c), .agg rsMC] [] (rN (nK p.b.ns)) (hpNd p.b.ns) :=
  ⟨(hdK_con (s := p.b.es c) (m := rsM) (hb.hok (by omega) rfl) hb.ne (by omega) hf.f ⟨rfl, rfl, rfl, rfl, rfl⟩).args (.cons (.refl _) (.cons (.refl _) (.cons (.agg rs_sub) .nil))), Nat.zero_le _⟩
 have htk : (tkCh (p.b.es c)).length <= 3 := by
  unfold tkCh
  split
  ·exact hch
  ·exact ((tick_is hb (by omega)).1).ch.1
 have hns := ns_short hb.ns
 have q0 : ∀ K : Bk -> Option AV, gOpK ⟨p.b.e, p.b.g, p.b.p⟩ K = K ⟨p.b.e, p.b.g, p.b.p⟩ := fun K => gC_eq (⟨p.b.e, p.b.g, p.b.p⟩ : Bk) (dec_encBk _) ⟨by show p.b.p.chain.length <= 1000; exact Nat.le_trans hch (by omega), by show p.b.p.valid.length <= 1000; exact Nat.le_trans hva (by omega)⟩ (.refl _)
 unfold finKp
 rw [q0, gCon_eq c1, gCon_eq c2]
 have e := kp_f (tkCh (p.b.es c)) p.b.ns htk hns N p.b.e p.b.g p.b.p p.b.keep p.b.fz p.b.fe p.b.he p.b.l p.fe p.reps p.way p.safe p.reset ⟨p.b.e, p.b.g, p.b.p⟩
 refine e.trans ((negs_ok (l := p.b.ns) fun a ha => (hb.ns.mis a ha).1).trans ?_)
 exact gC_eq (⟨p.b.e, p.b.g, p.b.p⟩ : Bk) (dec_encBk _) ⟨by show p.b.p.chain.length <= 1000; exact Nat.le_trans hch (by omega), by show p.b.p.valid.length <= 1000; exact Nat.le_trans hva (by omega)⟩ (.refl _)
theorem begin_fe (c : CConf) : FE c beginB21 := ⟨(fun m hm => by cases hm), (fun f hf => by cases hf)⟩
theorem keeps_law {k : Int} {l : List Stp} (hk : 0 <= k /\ k <= 255) (hs : ∀ s ∈ l, s.1 <= 255 /\ s.2 <= 255) : ∃ l0 n0, callT (envKp l0 n0) 2013 F_lockgatelaw21_CoordKeeps [.int .u8 k, encStps l] = some (.bool true) := by
 have qA : ∀ K : Option AV, gAwk K = K := fun K => gC_eq () rfl trivial (.refl _)
 by_cases h : 80 < l.length
 ·refine ⟨[], [], ?_⟩
  rw [kp_in, qA, qA, decide_eq_true (by omega), cond_true]
 ·have qC : ∀ K : CConf -> Option AV, gCnf (IntKind.i64.wrap k) K = K (confP (IntKind.i64.wrap k)) := fun K => by
   unfold gCnf
   have q1 : ∀ K : Int -> Option AV, gC (fun a => getI a 0) (fun _ => True) (fun k => [.int .i64 k]) [.int .i64 (IntKind.i64.wrap k)] K = K (IntKind.i64.wrap k) := fun K => gC_eq _ rfl trivial (.refl _)
   rw [q1]
   exact gC_eq (confP (IntKind.i64.wrap k)) rfl trivial (.refl _)
  obtain ⟨c1, c2⟩ := confP_ok hk
  have hp := begin_pis c1 c2
  have hq := endPl_is l 1 beginB21 (by omega) hp (begin_fe _)
  refine ⟨tkCh ((endPl (confP (IntKind.i64.wrap k)) l beginB21).b.es (confP (IntKind.i64.wrap k))), (endPl (confP (IntKind.i64.wrap k)) l beginB21).b.ns, ?_⟩
  rw [kp_in, qA, qA, decide_eq_false (by omega), cond_false, qC]
  have r := kp_run (l0 := tkCh ((endPl (confP (IntKind.i64.wrap k)) l beginB21).b.es (confP (IntKind.i64.wrap k)))) (n0 := (endPl (confP (IntKind.i64.wrap k)) l beginB21).b.ns) (N := 2012) (n := 1) (l := l) (c := confP (IntKind.i64.wrap k)) hs (by omega) l.length 0 2012 beginB21 (by omega) (by omega) (by simpa using hp) (by omega)
  rw [Int.natCast_zero, List.drop_zero] at r
  rw [r]
  exact finKp_ok hq.1 hq.2 (by omega)
theorem coordKeeps_ok : LawC PG 9 F_lockgatelaw21_CoordKeeps [5, 22] := by
 intro avs h
 obtain ⟨k, n, f, h1, h2, h3⟩ := steps_shape h
 obtain ⟨l, l1, l2, l3⟩ := steps_list n f h2
 obtain ⟨l0, n0, e⟩ := keeps_law h1 l2
 exact (conKp e).args (h3.trans (.cons (.refl _) (.cons l3 .nil)))
end Go.Wk
end
