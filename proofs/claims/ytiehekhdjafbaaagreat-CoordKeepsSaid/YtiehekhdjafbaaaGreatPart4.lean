/- Part 4 of the texts that the proof needs: the abstract machine, plain laws, contracts of the program's functions. No statement is claimed here. -/
import Derived.Test.YtiehekhdjafbaaaGreatPart3
import Derived.Test.YtiehekhdjafbaaaGreatRows
import Derived.WalkKit
import Derived.WalkSpells
import Derived.WalkLawsBesides
import Derived.Shelf.RegionOpenPlain
import Derived.Lib.AppendZerosOnto
import Derived.Shelf.Spec.SlicesInsert
set_option linter.unusedVariables false
set_option linter.unusedSimpArgs false
noncomputable section
open Go Go.AM Go.Md
namespace Go.Wk
set_option maxRecDepth 100000
set_option maxHeartbeats 400000
def STu (V : AV) (h : Heap) (up : List Member) (i : Int) : St := { fr := [(0, .int .i64 0), (1, encMembers up), (5, V), (9, .int .i64 up.length), (10, .int .i64 i), (1000, .undef)], hp := h }
def LTu (N : Nat) (up : List Member) (j : Nat) (V : AV) (h : Heap) (i : Int) : Option AV := LP (envC2 []) N 0 F_place_turn snK 0 [] j (STu V h up i)
def atU (up : List Member) (i : Int) : Int := (IntKind.i64.wrap (IntKind.i64.wrap (Int.tmod 0 (up.length : Int) + i) + (up.length : Int))).tmod (up.length : Int)
def z0 {R : Type} (n : Int) (k : Option R) : Option R := bif decide (n = 0) then none else k
theorem z0_eq {R : Type} {n : Int} {k : Option R} (h : n ≠ 0) : z0 n k = k := by unfold z0; rw [decide_eq_false h]; rfl
theorem tu_in (N : Nat) (up : List Member) : callT (envC2 []) (N + 1) F_place_turn [.int .i64 0, encMembers up] = LTu N up N .nils [] 0 := by kernel_rfl
theorem tu_0 (N j : Nat) (up : List Member) (i : Int) : LTu N up (j + 1) .nils [] i = bif decide (i < (up.length : Int)) then z0 (up.length : Int) <| z0 (up.length : Int) <| rg (atU up i) up.length <|
  LTu N up j (.sl 2 0 0 1 1) [.seq true 2 1 fun k => [encMember (up.getD (atU up i).toNat default)].getD k (encMember (up.getD (atU up i).toNat default))] (IntKind.i64.wrap (i + 1)) else some .nils := by kernel_rfl
theorem tu_1 (N j : Nat) (up : List Member) (i : Int) (f : Nat -> List AV) : LTu N up (j + 1) (.sl 2 0 0 1 1) [.seq true 2 1 f] i = bif decide (i < (up.length : Int)) then z0 (up.length : Int) <| z0 (up.length : Int) <| rg (atU up i) up.length <|
  LTu N up j (.sl 2 0 0 2 0) [.seq true 2 2 fun k => bif k.blt 1 then f k else bif k.blt 2 then [encMember (up.getD (atU up i).toNat default)].getD (k - 1) [] else f 1] (IntKind.i64.wrap (i + 1)) else some (.tr 2 1 fun i => f i) := by kernel_rfl
theorem tu_n (N j : Nat) (up : List Member) (i : Int) (n : Nat) (f : Nat -> List AV) : LTu N up (j + 1) (.sl 2 0 0 n 0) [.seq true 2 n f] i = bif decide (i < (up.length : Int)) then z0 (up.length : Int) <| z0 (up.length : Int) <| rg (atU up i) up.length <| room1 n 16 <|
  LTu N up j (.sl 2 0 0 (n + 1) 0) [.seq true 2 (n + 1) fun k => bif k.blt n then f k else bif k.blt (n + 1) then [encMember (up.getD (atU up i).toNat default)].getD (k - n) [] else f n] (IntKind.i64.wrap (i + 1)) else bif n.beq 0 || n.ble n then some (.tr 2 n fun i => f i) else none := by kernel_rfl
theorem atU_eq {up : List Member} {i : Nat} (h : i < up.length) (hl : up.length <= 100000) : atU up i = (i : Int) := by
 unfold atU
 rw [Int.zero_tmod, wrap64 (x := 0 + (i : Int)) (by omega), wrap64 (by omega), Int.tmod_eq_emod_of_nonneg (by omega), Int.zero_add, Int.add_emod_right, Int.emod_eq_of_lt (by omega) (by omega)]
theorem tu_grow (N : Nat) (up : List Member) (hn : up.length <= 100000) : Grow1 2 16 0 encMember up.length (fun i => some (up.getD i default)) (LTu N up) where
 e0 j := by rw [tu_0, decide_eq_false (by omega), cond_false]
 e1 j f := by rw [tu_1, decide_eq_false (by omega), cond_false]
 en j m f := by rw [tu_n, decide_eq_false (by omega), cond_false]
 s0 j i hi := by rw [tu_0, decide_eq_true (by omega), cond_true, z0_eq (by omega), z0_eq (by omega), atU_eq hi hn, rg_eq hi, Int.toNat_natCast, wrapS (by omega)]
 s1 j i f hi := by rw [tu_1, decide_eq_true (by omega), cond_true, z0_eq (by omega), z0_eq (by omega), atU_eq hi hn, rg_eq hi, Int.toNat_natCast, wrapS (by omega)]
 sn j i m f hi := by rw [tu_n, decide_eq_true (by omega), cond_true, z0_eq (by omega), z0_eq (by omega), atU_eq hi hn, rg_eq hi, Int.toNat_natCast, wrapS (by omega)]
theorem pickL_all {l : List Member} : pickL (fun i => some (l.getD i default)) l.length 0 = l := by
 have := pickL_list (l := l) (z := default) (g := fun m : Member => some m)
 rw [this]; simp
theorem turn_con (up : List Member) (h : up.length <= 100000) : Contract PG F_place_turn [.int .i64 0, encMembers up] [] (encMembers up) [] := by
 have hN : ∃ N, N = 200000 := ⟨_, rfl⟩
 obtain ⟨N, hN⟩ := hN
 have r := (tu_grow N up h).run0 (z := default) (by omega) h (m := N) (by omega)
 rw [pickL_all] at r
 exact (conC2 ank (n := N + 1) ((tu_in N up).trans r)).res (gTr_sub _)
def eTu (up : List Member) : List AV := [.int .i64 0, encMembers up]
def kTurn : Known := .spec F_place_turn (fun a => decL decMember (a.getD 1 .nils)) (fun up => up.length <= 100000) eTu (fun up => encMembers up)
theorem kTurn_ok : kTurn.Ok PG := Known.spec_ok turn_con
def fnC (m : Member) : AV := .fn (.func F_place_Chain_c1) [] [.tp (encMember m) 0]
def hasNode (l : List Member) (n : Int) : Bool := l.any fun k => decide (k.node = n)
theorem cloC : Clo F_slices_IndexFunc_api_Member encMembers default fnC (fun m k => decide (k.node = m.node)) (fun _ => True) [] where
 hin N l y := by kernel_rfl
 hst N j l y i h := by kernel_rfl
def dLC (a : List AV) : LM := (decL decMember (a.getD 0 .nils), match a.getD 1 .nils with
 | .fn _ _ [.tp c _] => decMember c
 | _ => default)
def eLC (p : LM) : List AV := [encMembers p.1, fnC p.2]
def pLC (p : LM) : Prop := p.1.length <= 100000
theorem dLC_eq (p : LM) : dLC (eLC p) = p := by
 show (decL decMember (encMembers p.1), decMember (encMember p.2)) = p
 rw [decMembers, dec_encMember]
def kIxC : Known := .spec F_slices_IndexFunc_api_Member dLC pLC eLC (fun p => .int .i64 (ixFrom (fun k => decide (k.node = p.2.node)) p.1 0))
theorem kIxC_ok : kIxC.Ok PG := Known.spec_ok fun p h => cloC.con ank h trivial
theorem ctC_eq (l : List Member) (m : Member) : callT (envC2 [kIxC]) 9 F_slices_ContainsFunc_api_Member [encMembers l, fnC m] = gC dLC pLC eLC [encMembers l, fnC m] fun p => some (.bool (decide (0 <= ixFrom (fun k => decide (k.node = p.2.node)) p.1 0))) := by kernel_rfl
theorem ctC_con (p : LM) (h : pLC p) : Contract PG F_slices_ContainsFunc_api_Member (eLC p) [] (.bool (hasNode p.1 p.2.node)) [] := by
 refine conC2 (ak kIxC_ok ank) ((ctC_eq p.1 p.2).trans ((gC_eq p (dLC_eq p) h (.refl _)).trans ?_))
 rw [ixFrom_any]; rfl
def kCtC : Known := .spec F_slices_ContainsFunc_api_Member dLC pLC eLC (fun p => .bool (hasNode p.1 p.2.node))
theorem kCtC_ok : kCtC.Ok PG := Known.spec_ok ctC_con
def gCt {R : Type} (L : AV) (m : Member) (k : LM -> Option R) : Option R := gC dLC pLC eLC [L, fnC m] k
theorem gCt_eq {R : Type} {l : List Member} {m : Member} {k : LM -> Option R} (h : l.length <= 100000) : gCt (encMembers l) m k = k (l, m) := gC_eq (l, m) (dLC_eq (l, m)) h (.refl _)
theorem gCt_nil {R : Type} {m : Member} {k : LM -> Option R} : gCt .nils m k = k ([], m) := gC_eq ([], m) (by show (([] : List Member), decMember (encMember m)) = _; rw [dec_encMember]) (Nat.zero_le _) (.cons nilsL (.cons (.refl _) .nil))
def chainL (keep : List Member) (c : Int) : List Member -> List Member -> List Member
 | [], out => out
 | m :: r, out => bif decide (c <= (out.length : Int)) then out else bif hasNode keep m.node then chainL keep c r out else chainL keep c r (out ++ [m])
def lv4 : List (Nat × Nat × List Nat) := [(F_place_Chain, 0, [1, 3, 9, 16, 17, 18, 1000])]
def md4 (f : Nat) : Option Nat := bif Nat.beq f F_slices_Clone_api_Member then some 1 else md2 f
def envC4 (l : List Known) : Env := envL lv4 md4 l
theorem conC4 {l : List Known} (h : ∀ k ∈ l, k.Ok PG) {n f : Nat} {xs : List AV} {r : AV} (e : callT (envC4 l) n f xs = some r) : Contract PG f xs [] r [] := callT_ok (envL_ok h) envL_code mixed e
def envB1 : Env := envL [] (fun f => bif Nat.beq f F_slices_Clone_api_Member then some 1 else none) []
theorem cloB_eq (n : Nat) (f : Nat -> List AV) : callH envB1 2 F_slices_Clone_api_Member [.tr 2 (n + 1) f] [] = bif Nat.ble ((0 + (n + 1)) * 16) 140737488355328 && Nat.ble (0 + (n + 1)) 140737488355328 then some (.sl 2 0 0 (n + 1) 0, [.seq true 2 (n + 1) f]) else none := by kernel_rfl
theorem cloB_con (l : List Member) (h : shortL l /\ l ≠ []) : Contract PG F_slices_Clone_api_Member [encMembers l] [] (outBlk 2 encMember default l).1 (outBlk 2 encMember default l).2 := by
 obtain ⟨h1, h2⟩ := h
 unfold shortL LB at h1
 match l, h2 with
 | x :: r, _ =>
  have e := cloB_eq r.length fun i => encMember ((x :: r).getD i default)
  have hl : r.length + 1 <= 1000000 := h1
  rw [ble_true (by omega), ble_true (by omega)] at e
  exact (callH_ok (envL_ok ank) envL_code mixed e).1
def kCloB : Known := .specB F_slices_Clone_api_Member (dL decMember) (fun l => shortL l /\ l ≠ []) eMems (outBlk 2 encMember default)
theorem kCloB_ok : kCloB.Ok PG := Known.specB_ok cloB_con
def gCloB {R : Type} (l : List Member) (k : List Member -> Option R) : Option R := gC (dL decMember) (fun l => shortL l /\ l ≠ []) eMems [encMembers l] k
theorem gCloB_eq {R : Type} {l : List Member} {k : List Member -> Option R} (h : shortL l) (h2 : l ≠ []) : gCloB l k = k l := gC_eq l (decMembers l) ⟨h, h2⟩ (.refl _)
def gTu {R : Type} (l : List Member) (k : List Member -> Option R) : Option R := gC (fun a => decL decMember (a.getD 1 .nils)) (fun up => up.length <= 100000) eTu [.int .i64 0, encMembers l] k
theorem gTu_eq {R : Type} {l : List Member} {k : List Member -> Option R} (h : l.length <= 100000) : gTu l k = k l := gC_eq l (decMembers l) h (.refl _)
def SCh (K V : AV) (h : Heap) (up : List Member) (c : Int) (i : Int) : St := { fr := [(1, K), (3, .int .i64 c), (9, V), (16, encMembers up), (17, .int .i64 up.length), (18, .int .i64 i), (1000, .undef)], hp := h }
def kn4 : List Known := [kCloB, kTurn, kCtC]
theorem kn4_ok : ∀ k ∈ kn4, k.Ok PG := ak kCloB_ok (ak kTurn_ok (ak kCtC_ok ank))
def kn4n : List Known := [kTurn, kCtC]
theorem kn4n_ok : ∀ k ∈ kn4n, k.Ok PG := ak kTurn_ok (ak kCtC_ok ank)
def LCh (N j : Nat) (K : AV) (V : AV) (h : Heap) (up : List Member) (c i : Int) : Option AV := LP (envC4 kn4) (N + 5) 0 F_place_Chain snK 0 [] j (SCh K V h up c i)
def LCn (N j : Nat) (V : AV) (h : Heap) (up : List Member) (c i : Int) : Option AV := LP (envC4 kn4n) (N + 5) 0 F_place_Chain snK 0 [] j (SCh .nils V h up c i)
theorem pc_in (N : Nat) (k up : List Member) (c : Int) : callT (envC4 kn4) (N + 6) F_place_Chain [.int .i64 0, encMembers k, encMembers up, .int .i64 c] = gCloB k fun l => gTu up fun u => LCh N (N + 5) (encMembers k) (.sl 2 0 0 l.length 0) [.seq true 2 l.length fun i => encMember (l.getD i default)] u c 0 := by kernel_rfl
theorem pc_in0 (N : Nat) (up : List Member) (c : Int) : callT (envC4 kn4n) (N + 6) F_place_Chain [.int .i64 0, .nils, encMembers up, .int .i64 c] = gTu up fun u => LCn N (N + 5) .nils [] u c 0 := by kernel_rfl
theorem pc_n (N j : Nat) (k up : List Member) (c : Int) (n : Nat) (f : Nat -> List AV) (i : Int) : LCh N (j + 1) (encMembers k) (.sl 2 0 0 n 0) [.seq true 2 n f] up c i =
 bif decide (i < (up.length : Int)) then rg i up.length <| bif decide (c <= (n : Int)) then bif n.beq 0 || n.ble n then some (.tr 2 n fun i => f i) else none else
  gCt (encMembers k) (up.getD i.toNat default) fun y => bif !hasNode y.1 y.2.node then room1 n 16 (LCh N j (encMembers k) (.sl 2 0 0 (n + 1) 0) [.seq true 2 (n + 1) fun k => bif k.blt n then f k else bif k.blt (n + 1) then [encMember (up.getD i.toNat default)].getD (k - n) [] else f n] up c (IntKind.i64.wrap (i + 1)))
   else LCh N j (encMembers k) (.sl 2 0 0 n 0) [.seq true 2 n f] up c (IntKind.i64.wrap (i + 1))
 else bif n.beq 0 || n.ble n then some (.tr 2 n fun i => f i) else none := by kernel_rfl
theorem pn_0 (N j : Nat) (up : List Member) (c : Int) (i : Int) : LCn N (j + 1) .nils [] up c i =
 bif decide (i < (up.length : Int)) then rg i up.length <| bif decide (c <= 0) then some .nils else
  gCt .nils (up.getD i.toNat default) fun y => bif !hasNode y.1 y.2.node then LCn N j (.sl 2 0 0 1 1) [.seq true 2 1 fun k => [encMember (up.getD i.toNat default)].getD k (encMember (up.getD i.toNat default))] up c (IntKind.i64.wrap (i + 1))
   else LCn N j .nils [] up c (IntKind.i64.wrap (i + 1))
 else some .nils := by kernel_rfl
theorem pn_1 (N j : Nat) (up : List Member) (c : Int) (f : Nat -> List AV) (i : Int) : LCn N (j + 1) (.sl 2 0 0 1 1) [.seq true 2 1 f] up c i =
 bif decide (i < (up.length : Int)) then rg i up.length <| bif decide (c <= 1) then some (.tr 2 1 fun i => f i) else
  gCt .nils (up.getD i.toNat default) fun y => bif !hasNode y.1 y.2.node then LCn N j (.sl 2 0 0 2 0) [.seq true 2 2 fun k => bif k.blt 1 then f k else bif k.blt 2 then [encMember (up.getD i.toNat default)].getD (k - 1) [] else f 1] up c (IntKind.i64.wrap (i + 1))
   else LCn N j (.sl 2 0 0 1 1) [.seq true 2 1 f] up c (IntKind.i64.wrap (i + 1))
 else some (.tr 2 1 fun i => f i) := by kernel_rfl
theorem pn_n (N j : Nat) (up : List Member) (c : Int) (n : Nat) (f : Nat -> List AV) (i : Int) : LCn N (j + 1) (.sl 2 0 0 n 0) [.seq true 2 n f] up c i =
 bif decide (i < (up.length : Int)) then rg i up.length <| bif decide (c <= (n : Int)) then bif n.beq 0 || n.ble n then some (.tr 2 n fun i => f i) else none else
  gCt .nils (up.getD i.toNat default) fun y => bif !hasNode y.1 y.2.node then room1 n 16 (LCn N j (.sl 2 0 0 (n + 1) 0) [.seq true 2 (n + 1) fun k => bif k.blt n then f k else bif k.blt (n + 1) then [encMember (up.getD i.toNat default)].getD (k - n) [] else f n] up c (IntKind.i64.wrap (i + 1)))
   else LCn N j (.sl 2 0 0 n 0) [.seq true 2 n f] up c (IntKind.i64.wrap (i + 1))
 else bif n.beq 0 || n.ble n then some (.tr 2 n fun i => f i) else none := by kernel_rfl
theorem ch_run {N : Nat} {keep up : List Member} {c : Int} (hk : keep.length <= 100000) (hu : up.length <= 100000) : ∀ (d i j : Nat) (out : List Member), i + d = up.length -> d < j -> out.length <= 100000 + i ->
  LCh N j (encMembers keep) (.sl 2 0 0 out.length 0) [.seq true 2 out.length fun i => encMember (out.getD i default)] up c (i : Nat) = some (encMembers (chainL keep c (up.drop i) out)) := by
 intro d
 induction d with
 | zero =>
  intro i j out hi hj ho
  obtain ⟨j, rfl⟩ : ∃ q, j = q + 1 := ⟨j - 1, by omega⟩
  rw [pc_n, decide_eq_false (by omega), cond_false, orU, cond_true, List.drop_eq_nil_of_le (by omega)]; rfl
 | succ d ih =>
  intro i j out hi hj ho
  obtain ⟨j, rfl⟩ : ∃ q, j = q + 1 := ⟨j - 1, by omega⟩
  have hil : i < up.length := by omega
  rw [pc_n, decide_eq_true (by omega), cond_true, rg_eq hil, Int.toNat_natCast, gCt_eq hk, wrapS (by omega), orU, cond_true, drop_cons (z := default) hil]
  dsimp only
  show _ = some (encMembers (bif decide (c <= (out.length : Int)) then out else bif hasNode keep (up.getD i default).node then chainL keep c (up.drop (i + 1)) out else chainL keep c (up.drop (i + 1)) (out ++ [up.getD i default])))
  cases decide (c <= (out.length : Int)) with
  | true => rfl
  | false =>
   cases hasNode keep (up.getD i default).node with
   | true => exact ih (i + 1) j out (by omega) (by omega) (by omega)
   | false =>
    simp only [Bool.not_false, cond_true, cond_false]
    rw [room1_eq (by omega) (by omega)]
    have e : (fun k => bif k.blt out.length then encMember (out.getD k default) else bif k.blt (out.length + 1) then [encMember (up.getD i default)].getD (k - out.length) [] else encMember (out.getD out.length default)) = fun k => encMember ((out ++ [up.getD i default]).getD k default) := appF_lit encMember default out [up.getD i default]
    have el : out.length + 1 = (out ++ [up.getD i default]).length := by simp
    rw [e, el]
    exact ih (i + 1) j _ (by omega) (by omega) (by simp; omega)
theorem cn_run {N : Nat} {up : List Member} {c : Int} (hu : up.length <= 100000) : ∀ (d i j : Nat) (out : List Member), i + d = up.length -> d < j -> out.length <= i ->
  LCn N j (gSl 2 0 out) (gBl 2 encMember default out) up c (i : Nat) = some (gTr 2 encMember default (chainL [] c (up.drop i) out)) := by
 intro d
 induction d with
 | zero =>
  intro i j out hi hj ho
  obtain ⟨j, rfl⟩ : ∃ q, j = q + 1 := ⟨j - 1, by omega⟩
  rw [List.drop_eq_nil_of_le (by omega)]
  match out with
  | [] => show LCn N (j + 1) .nils [] up c _ = _; rw [pn_0, decide_eq_false (by omega), cond_false]; rfl
  | [x] => show LCn N (j + 1) (.sl 2 0 0 1 1) [.seq true 2 1 (canF encMember default [x])] up c _ = _; rw [pn_1, decide_eq_false (by omega), cond_false]; rfl
  | x :: y :: r => show LCn N (j + 1) (.sl 2 0 0 (x :: y :: r).length 0) [.seq true 2 (x :: y :: r).length _] up c _ = _; rw [pn_n, decide_eq_false (by omega), cond_false, orU, cond_true]; rfl
 | succ d ih =>
  intro i j out hi hj ho
  obtain ⟨j, rfl⟩ : ∃ q, j = q + 1 := ⟨j - 1, by omega⟩
  have hil : i < up.length := by omega
  rw [drop_cons (z := default) hil]
  have hc : chainL [] c (up.getD i default :: up.drop (i + 1)) out = bif decide (c <= (out.length : Int)) then out else chainL [] c (up.drop (i + 1)) (out ++ [up.getD i default]) := rfl
  rw [hc]
  match out, ho with
  | [], ho =>
   show LCn N (j + 1) .nils [] up c _ = _
   rw [pn_0, decide_eq_true (by omega), cond_true, rg_eq hil, Int.toNat_natCast, gCt_nil, wrapS (by omega)]
   show (bif decide (c <= 0) then _ else _) = some (gTr 2 encMember default (bif decide (c <= 0) then _ else _))
   cases decide (c <= 0) with
   | true => rfl
   | false =>
    rw [cond_false, cond_false]
    show LCn N j (.sl 2 0 0 1 1) _ up c _ = _
    rw [canF_oneS (e := encMember) (z := default)]
    exact ih (i + 1) j [up.getD i default] (by omega) (by omega) (by simp)
  | [x], ho =>
   show LCn N (j + 1) (.sl 2 0 0 1 1) [.seq true 2 1 (canF encMember default [x])] up c _ = _
   rw [pn_1, decide_eq_true (by omega), cond_true, rg_eq hil, Int.toNat_natCast, gCt_nil, wrapS (by omega)]
   show (bif decide (c <= 1) then _ else _) = some (gTr 2 encMember default (bif decide (c <= 1) then _ else _))
   cases decide (c <= 1) with
   | true => rfl
   | false =>
    rw [cond_false, cond_false]
    show LCn N j (.sl 2 0 0 2 0) _ up c _ = _
    rw [canF_app1 (e := encMember) (z := default)]
    exact ih (i + 1) j [x, up.getD i default] (by omega) (by omega) (by simp at ho ⊢; omega)
  | x :: y :: r, ho =>
   show LCn N (j + 1) (.sl 2 0 0 (x :: y :: r).length 0) [.seq true 2 (x :: y :: r).length (canF encMember default (x :: y :: r))] up c _ = _
   rw [pn_n, decide_eq_true (by omega), cond_true, rg_eq hil, Int.toNat_natCast, gCt_nil, wrapS (by omega), orU, cond_true]
   cases decide (c <= ((x :: y :: r).length : Int)) with
   | true => rfl
   | false =>
    rw [cond_false, cond_false]
    show room1 _ _ _ = _
    rw [room1_eq (by omega) (by omega), canF_app (e := encMember) (z := default) (by simp)]
    have r0 := ih (i + 1) j ((x :: y :: r) ++ [up.getD i default]) (by omega) (by omega) (by rw [List.length_append]; simp at ho ⊢; omega)
    rw [gSl_app (by simp), gBl_app (by simp)] at r0
    exact r0
abbrev KUC := (List Member × List Member) × Int
def eKUC (p : KUC) : List AV := [.int .i64 0, encMembers p.1.1, encMembers p.1.2, .int .i64 p.2]
def eKUn (p : KUC) : List AV := [.int .i64 0, .nils, encMembers p.1.2, .int .i64 p.2]
def dKUC (a : List AV) : KUC := ((decL decMember (a.getD 1 .nils), decL decMember (a.getD 2 .nils)), getI a 3)
def pKUC (p : KUC) : Prop := p.1.1.length <= 100000 /\ p.1.2.length <= 100000 /\ p.1.1 ≠ []
def pKUn (p : KUC) : Prop := p.1.2.length <= 100000
def chainP (keep up : List Member) (c : Int) : List Member := chainL keep c up keep
theorem chain_con (p : KUC) (h : pKUC p) : Contract PG F_place_Chain (eKUC p) [] (encMembers (chainP p.1.1 p.1.2 p.2)) [] := by
 obtain ⟨⟨k, up⟩, c⟩ := p
 obtain ⟨h1, h2, h3⟩ := h
 have h1 : k.length <= 100000 := h1
 have h2 : up.length <= 100000 := h2
 have hN : ∃ N, N = 200000 := ⟨_, rfl⟩
 obtain ⟨N, hN⟩ := hN
 refine conC4 kn4_ok (n := N + 6) ((pc_in N k up c).trans ?_)
 rw [gCloB_eq (by unfold shortL LB; omega) h3, gTu_eq h2]
 have := ch_run (N := N) (keep := k) (c := c) h1 h2 up.length 0 (N + 5) k (by omega) (by omega) (by omega)
 rw [List.drop_zero] at this
 exact this
theorem chainn_con (p : KUC) (h : pKUn p) : Contract PG F_place_Chain (eKUn p) [] (encMembers (chainP [] p.1.2 p.2)) [] := by
 obtain ⟨⟨k, up⟩, c⟩ := p
 have h2 : up.length <= 100000 := h
 have hN : ∃ N, N = 200000 := ⟨_, rfl⟩
 obtain ⟨N, hN⟩ := hN
 have r := cn_run (N := N) (c := c) h2 up.length 0 (N + 5) [] (by omega) (by omega) (by simp)
 rw [List.drop_zero] at r
 refine (conC4 kn4n_ok (n := N + 6) ((pc_in0 N up c).trans ?_)).res (gTr_sub (sz := 2) (e := encMember) (z := default) _)
 rw [gTu_eq h2]
 exact r
def Known.ifNil (i : Nat) (a b : Known) : Known := { f := a.f, ans := fun args hp => match args[i]? with
 | some .nils => a.ans args hp
 | _ => b.ans args hp }
theorem Known.ifNil_ok {i : Nat} {a b : Known} (ha : a.Ok PG) (hb : b.Ok PG) (h : a.f = b.f) : (Known.ifNil i a b).Ok PG := by
 intro args hp A e hg
 have e : (match args[i]? with
  | some .nils => a.ans args hp
  | _ => b.ans args hp) = some A := e
 split at e
 ·exact ha args hp A e hg
 ·have := hb args hp A e hg
  rw [<- h] at this
  exact this
def kChain : Known := Known.ifNil 1 (.spec F_place_Chain dKUC pKUn eKUn (fun p => encMembers (chainP [] p.1.2 p.2))) (.spec F_place_Chain dKUC pKUC eKUC (fun p => encMembers (chainP p.1.1 p.1.2 p.2)))
theorem kChain_ok : kChain.Ok PG := Known.ifNil_ok (Known.spec_ok chainn_con) (Known.spec_ok chain_con) rfl
theorem SubV.tp {cs cs' : List AV} {j : Nat} (h : SubC cs cs') : SubV (.tp cs j) (.tp cs' j) := by
 intro w I u hv
 cases hv with
 | tp _ _ B o q uf hI hq hc h1 hr =>
  refine .tp _ _ B o q uf hI hq (fun k c e => ?_) (fun k c e => ?_) (fun k c e => ?_)
  ·obtain ⟨c0, e0, _⟩ := h.get e
   exact hc k c0 e0
  ·obtain ⟨c0, e0, _⟩ := h.get e
   exact h1 k c0 e0
  ·obtain ⟨c0, e0, hs⟩ := h.get e
   exact hs _ _ _ (hr k c0 e0)
def isM (m x : Member) : Bool := decide (x.node = m.node) && (decide (x.boot = m.boot) && true)
def dropM (m : Member) : List Member -> List Member
 | [] => []
 | x :: r => bif isM m x then r else x :: dropM m r
def leadP (l : List Member) (m : Member) : List Member := bif l.any (isM m) then m :: dropM m l else l
theorem le_1 (a m : Member) : callT (envC2 []) 12 F_place_Lead [encMembers [a], .agg (encMember m)] = bif isM m a then some (.trl 2 [encMember m]) else some (encMembers [a]) := by kernel_rfl
theorem le_2 (a b m : Member) : callT (envC2 []) 12 F_place_Lead [encMembers [a, b], .agg (encMember m)] =
 bif isM m a then some (.tr 2 2 fun i => bif i.blt 1 then [encMember m].getD i [] else bif i.blt 2 then bif (i - 1).blt 1 then encMember ([a, b].getD (1 + (i - 1)) default) else [AV.int IntKind.i64 0, AV.int IntKind.i64 0] else [])
 else bif isM m b then some (.tr 2 2 fun i => bif i.blt 1 then [encMember m].getD i [] else bif i.blt 2 then bif (i - 1).blt 1 then encMember ([a, b].getD (0 + (i - 1)) default) else [AV.int IntKind.i64 0, AV.int IntKind.i64 0] else [])
 else some (encMembers [a, b]) := by kernel_rfl
theorem le_3 (a b c m : Member) : callT (envC2 []) 12 F_place_Lead [encMembers [a, b, c], .agg (encMember m)] =
 bif isM m a then some (.tr 2 3 fun i => bif i.blt 1 then [encMember m].getD i [] else bif i.blt 3 then bif (i - 1).blt 2 then encMember ([a, b, c].getD (1 + (i - 1)) default) else [AV.int IntKind.i64 0, AV.int IntKind.i64 0] else [])
 else bif isM m b then some (.tr 2 3 fun i => bif i.blt 2 then bif i.blt 1 then [encMember m].getD i [] else bif i.blt 2 then bif (i - 1).blt 1 then encMember ([a, b, c].getD (0 + (i - 1)) default) else [AV.int IntKind.i64 0, AV.int IntKind.i64 0] else [] else bif i.blt 3 then bif (i - 2).blt 1 then encMember ([a, b, c].getD (2 + (i - 2)) default) else [AV.int IntKind.i64 0, AV.int IntKind.i64 0] else [])
 else bif isM m c then some (.tr 2 3 fun i => bif i.blt 1 then [encMember m].getD i [] else bif i.blt 3 then bif (i - 1).blt 2 then encMember ([a, b, c].getD (0 + (i - 1)) default) else [AV.int IntKind.i64 0, AV.int IntKind.i64 0] else [])
 else some (encMembers [a, b, c]) := by kernel_rfl
theorem lit2 {f : Nat -> List AV} {x y : Member} (h0 : f 0 = encMember x) (h1 : f 1 = encMember y) : SubV (.tr 2 2 f) (encMembers [x, y]) := by
 show SubV (.tr 2 2 f) (.tr 2 2 fun i => encMember ([x, y].getD i default))
 refine .trs fun i hi => ?_
 have : i = 0 \/ i = 1 := by omega
 rcases this with rfl | rfl
 ·rw [h0]; exact .refl _
 ·rw [h1]; exact .refl _
theorem lit3 {f : Nat -> List AV} {x y z : Member} (h0 : f 0 = encMember x) (h1 : f 1 = encMember y) (h2 : f 2 = encMember z) : SubV (.tr 2 3 f) (encMembers [x, y, z]) := by
 show SubV (.tr 2 3 f) (.tr 2 3 fun i => encMember ([x, y, z].getD i default))
 refine .trs fun i hi => ?_
 have : i = 0 \/ i = 1 \/ i = 2 := by omega
 rcases this with rfl | rfl | rfl
 ·rw [h0]; exact .refl _
 ·rw [h1]; exact .refl _
 ·rw [h2]; exact .refl _
def pLd (p : LM) : Prop := p.1.length <= 3 /\ p.1 ≠ []
theorem lead_con (p : LM) (h : pLd p) : Contract PG F_place_Lead (encLM p) [] (encMembers (leadP p.1 p.2)) [] := by
 obtain ⟨l, m⟩ := p
 obtain ⟨h1, h2⟩ := h
 match l, h1, h2 with
 | [], _, h2 => exact absurd rfl h2
 | [a], _, _ =>
  have e := le_1 a m
  unfold leadP
  simp only [List.any_cons, List.any_nil, Bool.or_false, dropM]
  cases ha : isM m a with
  | true => rw [ha] at e; exact (conC2 ank e).res (SubV.trl_encL [m])
  | false => rw [ha] at e; exact conC2 ank e
 | [a, b], _, _ =>
  have e := le_2 a b m
  unfold leadP
  simp only [List.any_cons, List.any_nil, Bool.or_false, dropM]
  cases ha : isM m a with
  | true => rw [ha] at e; exact (conC2 ank e).res (lit2 rfl rfl)
  | false =>
   rw [ha] at e
   cases hb : isM m b with
   | true => rw [hb] at e; exact (conC2 ank e).res (lit2 rfl rfl)
   | false => rw [hb] at e; exact conC2 ank e
 | [a, b, c], _, _ =>
  have e := le_3 a b c m
  unfold leadP
  simp only [List.any_cons, List.any_nil, Bool.or_false, dropM]
  cases ha : isM m a with
  | true => rw [ha] at e; exact (conC2 ank e).res (lit3 rfl rfl rfl)
  | false =>
   rw [ha] at e
   cases hb : isM m b with
   | true => rw [hb] at e; exact (conC2 ank e).res (lit3 rfl rfl rfl)
   | false =>
    rw [hb] at e
    cases hc : isM m c with
    | true => rw [hc] at e; exact (conC2 ank e).res (lit3 rfl rfl rfl)
    | false => rw [hc] at e; exact conC2 ank e
 | _ :: _ :: _ :: _ :: _, h1, _ => simp only [List.length_cons] at h1; omega
def kLead : Known := .spec F_place_Lead decLM pLd encLM (fun p => encMembers (leadP p.1 p.2))
theorem kLead_ok : kLead.Ok PG := Known.spec_ok lead_con
def dskC (b : Bureau) (c : CConf) (O : AV) : List AV := [.int .i64 b.book.sess, .int .i64 b.book.gen, encPlans b.book.shards, encAlives b.nodes, encWorks b.work, encMsgs b.opens, encMsgs b.asks, .int .i64 3, .int .i64 c.chain, .int .i64 1, .int .i64 0, .int .i64 0, .int .i64 0, .int .i64 0, .int .i64 0, .int .i64 0, .int .i64 0, .int .i64 0, .int .i64 c.sess, .int .i64 c.susp, .int .i64 0, .int .i64 0, O]
def later (m : Member) (a : Alive) : Bool := bif decide (a.member.node = m.node) then decide (m.boot < a.member.boot) else false
def goneP (ns : List Alive) (m : Member) : Bool := ns.any (later m)
def fnG (m : Member) : AV := .fn (.func F_coord_desk_gone_c1) [] [.tp (encMember m) 0]
theorem cloG_st (N j : Nat) (l : List Alive) (m : Member) (i : Int) : LP (envC2 []) (N + 5) 0 F_slices_IndexFunc_api_Alive snK 0 [] (j + 1) (SIx3 (encAlives l) (fnG m) l.length i) = bif decide (i < (l.length : Int)) then rg i l.length <|
  bif decide ((l.getD i.toNat default).member.node = m.node) then bif decide (m.boot < (l.getD i.toNat default).member.boot) then some (.int .i64 i) else LP (envC2 []) (N + 5) 0 F_slices_IndexFunc_api_Alive snK 0 [] j (SIx3 (encAlives l) (fnG m) l.length (IntKind.i64.wrap (i + 1)))
  else LP (envC2 []) (N + 5) 0 F_slices_IndexFunc_api_Alive snK 0 [] j (SIx3 (encAlives l) (fnG m) l.length (IntKind.i64.wrap (i + 1))) else some (.int .i64 (-1)) := by kernel_rfl
theorem cloG : Clo F_slices_IndexFunc_api_Alive encAlives default fnG later (fun _ => True) [] where
 hin N l y := by kernel_rfl
 hst N j l y i h := by
  rw [cloG_st]
  unfold later
  cases decide ((l.getD i.toNat default).member.node = y.node) <;> rfl
abbrev AM1 := List Alive × Member
def dAG (a : List AV) : AM1 := (decL decAlive (a.getD 0 .nils), match a.getD 1 .nils with
 | .fn _ _ [.tp c _] => decMember c
 | _ => default)
def eAG (p : AM1) : List AV := [encAlives p.1, fnG p.2]
def pAG (p : AM1) : Prop := p.1.length <= 100000
theorem dAG_eq (p : AM1) : dAG (eAG p) = p := by
 show (decL decAlive (encAlives p.1), decMember (encMember p.2)) = p
 rw [decAlives, dec_encMember]
def kIxG : Known := .spec F_slices_IndexFunc_api_Alive dAG pAG eAG (fun p => .int .i64 (ixFrom (later p.2) p.1 0))
theorem kIxG_ok : kIxG.Ok PG := Known.spec_ok fun p h => cloG.con ank h trivial
theorem ctG_eq (l : List Alive) (m : Member) : callT (envC2 [kIxG]) 9 F_slices_ContainsFunc_api_Alive [encAlives l, fnG m] = gC dAG pAG eAG [encAlives l, fnG m] fun p => some (.bool (decide (0 <= ixFrom (later p.2) p.1 0))) := by kernel_rfl
theorem ctG_con (p : AM1) (h : pAG p) : Contract PG F_slices_ContainsFunc_api_Alive (eAG p) [] (.bool (goneP p.1 p.2)) [] := by
 refine conC2 (ak kIxG_ok ank) ((ctG_eq p.1 p.2).trans ((gC_eq p (dAG_eq p) h (.refl _)).trans ?_))
 rw [ixFrom_any]; rfl
def kCtG : Known := .spec F_slices_ContainsFunc_api_Alive dAG pAG eAG (fun p => .bool (goneP p.1 p.2))
theorem kCtG_ok : kCtG.Ok PG := Known.spec_ok ctG_con
theorem gone_eq (b : Bureau) (c : CConf) (m : Member) (O : AV) : callT (envC2 [kCtG]) 12 F_coord_desk_gone [.tp (dskC b c O) 0, .agg (encMember m)] = gC dAG pAG eAG [encAlives b.nodes, fnG m] fun p => some (.bool (goneP p.1 p.2)) := by kernel_rfl
def md6 (f : Nat) : Option Nat := bif Nat.beq f F_slices_Equal_api_Member then some 0 else md2 f
def envC6 (l : List Known) : Env := envL lvCo md6 l
theorem conC6 {l : List Known} (h : ∀ k ∈ l, k.Ok PG) {n f : Nat} {xs : List AV} {r : AV} (e : callT (envC6 l) n f xs = some r) : Contract PG f xs [] r [] := callT_ok (envL_ok h) envL_code mixed e
structure DX where
 b : Bureau
 c : CConf
 O : AV
def encDX (x : DX) : List AV := dskC x.b x.c x.O
def dDX (cs : List AV) : DX := ⟨decBureau cs, ⟨getI cs 8, getI cs 19, getI cs 18⟩, cs.getD 22 .undef⟩
theorem dDX_eq (x : DX) : dDX (encDX x) = x := by
 have h : decBureau (encDX x) = x.b := dec_encBureau x.b
 show (⟨decBureau (encDX x), ⟨x.c.chain, x.c.susp, x.c.sess⟩, x.O⟩ : DX) = x
 rw [h]
abbrev DM := DX × Member
def dTpC : AV -> List AV
 | .tp cs _ => cs
 | _ => []
def dDM (a : List AV) : DM := (dDX (dTpC (a.getD 0 .undef)), decMember (argC a 1))
def eDM (p : DM) : List AV := [.tp (encDX p.1) 0, .agg (encMember p.2)]
def pDM (p : DM) : Prop := p.1.b.nodes.length <= 100000
theorem dDM_eq (p : DM) : dDM (eDM p) = p := by
 show (dDX (encDX p.1), decMember (encMember p.2)) = p
 rw [dDX_eq, dec_encMember]
theorem gone_con (p : DM) (h : pDM p) : Contract PG F_coord_desk_gone (eDM p) [] (.bool (goneP p.1.b.nodes p.2)) [] :=
 conC2 (ak kCtG_ok ank) ((gone_eq p.1.b p.1.c p.2 p.1.O).trans (gC_eq (p.1.b.nodes, p.2) (dAG_eq (p.1.b.nodes, p.2)) h (.refl _)))
def kGone : Known := .spec F_coord_desk_gone dDM pDM eDM (fun p => .bool (goneP p.1.b.nodes p.2))
theorem kGone_ok : kGone.Ok PG := Known.spec_ok gone_con
def overP (k : Work) (ns : List Alive) (m : Member) : Bool := bif (frozenP k m).2 then true else goneP ns m
abbrev WD := Work × DX
def fnO (y : WD) : AV := .fn (.func F_coord_desk_may_c1) [] [.tp (encWork y.1) 0, .tp [.tp (encDX y.2) 0] 0]
def pWD (y : WD) : Prop := y.1.froze.length <= 100000 /\ y.2.b.nodes.length <= 100000
def gGone {R : Type} (x : DX) (m : Member) (K : DM -> Option R) : Option R := gC dDM pDM eDM [.tp (encDX x) 0, .agg (encMember m)] K
theorem gGone_eq {R : Type} {x : DX} {m : Member} {K : DM -> Option R} (h : x.b.nodes.length <= 100000) : gGone x m K = K (x, m) := gC_eq (x, m) (dDM_eq (x, m)) h (.refl _)
theorem cloO_st (N j : Nat) (l : List Member) (k : Work) (x : DX) (i : Int) : LP (envC2 [kFrozen, kGone]) (N + 5) 0 F_slices_IndexFunc_api_Member snK 0 [] (j + 1) (SIx3 (encMembers l) (fnO (k, x)) l.length i) = bif decide (i < (l.length : Int)) then rg i l.length <|
  gFz k (l.getD i.toNat default) fun y => bif (frozenP y.1 y.2).2 then some (.int .i64 i) else gGone x (l.getD i.toNat default) fun z => bif goneP z.1.b.nodes z.2 then some (.int .i64 i) else LP (envC2 [kFrozen, kGone]) (N + 5) 0 F_slices_IndexFunc_api_Member snK 0 [] j (SIx3 (encMembers l) (fnO (k, x)) l.length (IntKind.i64.wrap (i + 1)))
  else some (.int .i64 (-1)) := by kernel_rfl
theorem cloO : Clo F_slices_IndexFunc_api_Member encMembers default fnO (fun y m => overP y.1 y.2.b.nodes m) pWD [kFrozen, kGone] where
 hin N l y := by kernel_rfl
 hst N j l y i h := by
  obtain ⟨k, x⟩ := y
  rw [cloO_st, gFz_eq h.1]
  dsimp only
  rw [gGone_eq h.2]
  unfold overP
  cases (frozenP k (l.getD i.toNat default)).2 <;> rfl
abbrev MWD := List Member × WD
def dLO (a : List AV) : MWD := (decL decMember (a.getD 0 .nils), match a.getD 1 .nils with
 | .fn _ _ [.tp w _, .tp [.tp d _] _] => (decWork w, dDX d)
 | _ => (default, ⟨default, ⟨0, 0, 0⟩, .undef⟩))
def eLO (p : MWD) : List AV := [encMembers p.1, fnO p.2]
def pLO (p : MWD) : Prop := p.1.length <= 100000 /\ pWD p.2
theorem dLO_eq (p : MWD) : dLO (eLO p) = p := by
 show (decL decMember (encMembers p.1), decWork (encWork p.2.1), dDX (encDX p.2.2)) = p
 rw [decMembers, dec_encWork, dDX_eq]
def kIxO : Known := .spec F_slices_IndexFunc_api_Member dLO pLO eLO (fun p => .int .i64 (ixFrom (fun m => overP p.2.1 p.2.2.b.nodes m) p.1 0))
theorem kIxO_ok : kIxO.Ok PG := Known.spec_ok fun p h => cloO.con (ak kFrozen_ok (ak kGone_ok ank)) h.1 h.2
theorem ctO_eq (l : List Member) (y : WD) : callT (envC2 [kIxO]) 9 F_slices_ContainsFunc_api_Member [encMembers l, fnO y] = gC dLO pLO eLO [encMembers l, fnO y] fun p => some (.bool (decide (0 <= ixFrom (fun m => overP p.2.1 p.2.2.b.nodes m) p.1 0))) := by kernel_rfl
theorem ctO_con (p : MWD) (h : pLO p) : Contract PG F_slices_ContainsFunc_api_Member (eLO p) [] (.bool (p.1.any fun m => overP p.2.1 p.2.2.b.nodes m)) [] := by
 refine conC2 (ak kIxO_ok ank) ((ctO_eq p.1 p.2).trans ((gC_eq p (dLO_eq p) h (.refl _)).trans ?_))
 rw [ixFrom_any]
def kCtO : Known := .spec F_slices_ContainsFunc_api_Member dLO pLO eLO (fun p => .bool (p.1.any fun m => overP p.2.1 p.2.2.b.nodes m))
theorem kCtO_ok : kCtO.Ok PG := Known.spec_ok ctO_con
structure CB where
 e : Int
 g : Int
 p : Plan
 ns : List Alive
 k : Work
 op : List Msg
 aq : List Msg
def CB.bu (s : CB) : Bureau := ⟨⟨s.e, s.g, [s.p]⟩, s.ns, [s.k], s.op, s.aq⟩
structure DS where
 s : CB
 c : CConf
 O : AV
def DS.dx (x : DS) : DX := ⟨x.s.bu, x.c, x.O⟩
def encDS (x : DS) : List AV := encDX x.dx
def mayP (x : DS) : Bool :=
 bif !decide (x.s.p.phase = 1) then false else bif !x.s.k.fenced then false else
 bif x.s.p.fresh then bif decide (0 < x.s.p.chain.length) then bif !x.s.p.chain.any (fun m => overP x.s.k x.s.ns m) then false else decide (0 < (upP x.s.ns x.c.susp).length) else decide (0 < (upP x.s.ns x.c.susp).length)
 else bif x.s.k.keep.all (fun m => (frozenP x.s.k m).2) then bif decide (0 < x.s.k.keep.length) then bif (bestP x.s.k x.s.p.base).isSome then true else decide (0 < (upP x.s.ns x.c.susp).length) else false else false
def kn6 : List Known := [kFrozen, kBest, kUp, kCtO]
theorem kn6_ok : ∀ k ∈ kn6, k.Ok PG := ak kFrozen_ok (ak kBest_ok (ak kUp_ok (ak kCtO_ok ank)))
def SMy (x : DS) (i : Int) : St := { fr := [(2, .ptr 0 0 0), (5, .ptr 1 0 0), (6, .ptr 2 0 0), (65, encMembers x.s.k.keep), (66, .int .i64 x.s.k.keep.length), (67, .int .i64 i)], hp := [.arr true 1 [[.tp (encDS x) 0]], .arr true 8 [encPlan x.s.p], .arr true 4 [encWork x.s.k]] }
def gUp {R : Type} (b : Bureau) (c : CConf) (K : BC -> Option R) : Option R := gC dBC pBC eBC [.agg (encBureau b), .agg (encCf c)] K
theorem gUp_eq {R : Type} {b : Bureau} {c : CConf} {K : BC -> Option R} (h : b.nodes.length <= 100000) : gUp b c K = K (b, c) := gC_eq (b, c) (dBC_eq (b, c)) h (.refl _)
def gBe {R : Type} (k : Work) (b : Int) (K : WI -> Option R) : Option R := gC dWI pWI eWI [.agg (encWork k), .int .i64 b] K
theorem gBe_eq {R : Type} {k : Work} {b : Int} {K : WI -> Option R} (h : pWI (k, b)) : gBe k b K = K (k, b) := gC_eq (k, b) (dWI_eq (k, b)) h (.refl _)
def gOv {R : Type} (l : List Member) (y : WD) (K : MWD -> Option R) : Option R := gC dLO pLO eLO [encMembers l, fnO y] K
theorem gOv_eq {R : Type} {l : List Member} {y : WD} {K : MWD -> Option R} (h : pLO (l, y)) : gOv l y K = K (l, y) := gC_eq (l, y) (dLO_eq (l, y)) h (.refl _)
theorem may_in (N : Nat) (x : DS) : callT (envC6 kn6) (N + 9) F_coord_desk_may [.tp (encDS x) 0, .int .i64 0] =
 bif !decide (x.s.p.phase = 1) then some (.bool false) else bif !x.s.k.fenced then some (.bool false) else
 bif x.s.p.fresh then bif decide (0 < (x.s.p.chain.length : Int)) then gOv x.s.p.chain (x.s.k, x.dx) fun y => bif !y.1.any (fun m => overP y.2.1 y.2.2.b.nodes m) then some (.bool false) else gUp x.s.bu x.c fun z => some (.bool (decide (0 < ((upP z.1.nodes z.2.susp).length : Int))))
  else gUp x.s.bu x.c fun z => some (.bool (decide (0 < ((upP z.1.nodes z.2.susp).length : Int))))
 else LP (envC6 kn6) (N + 8) 0 F_coord_desk_may snK 0 [] (N + 8) (SMy x 0) := by kernel_rfl
theorem may_st (N j : Nat) (x : DS) (i : Int) : LP (envC6 kn6) (N + 8) 0 F_coord_desk_may snK 0 [] (j + 1) (SMy x i) =
 bif decide (i < (x.s.k.keep.length : Int)) then rg i x.s.k.keep.length <| gFz x.s.k (x.s.k.keep.getD i.toNat default) fun y => bif !(frozenP y.1 y.2).2 then some (.bool false) else LP (envC6 kn6) (N + 8) 0 F_coord_desk_may snK 0 [] j (SMy x (IntKind.i64.wrap (i + 1)))
 else gBe x.s.k x.s.p.base fun y => bif decide (0 < (x.s.k.keep.length : Int)) then bif (bestP y.1 y.2).isSome then some (.bool true) else gUp x.s.bu x.c fun z => some (.bool (decide (0 < ((upP z.1.nodes z.2.susp).length : Int)))) else some (.bool false) := by kernel_rfl
def pDS (x : DS) : Prop := x.s.p.chain.length <= 100000 /\ x.s.ns.length <= 100000 /\ pWI (x.s.k, x.s.p.base)
theorem may_con (x : DS) (h : pDS x) : Contract PG F_coord_desk_may [.tp (encDS x) 0, .int .i64 0] [] (.bool (mayP x)) [] := by
 obtain ⟨h1, h2, h3⟩ := h
 have hf : x.s.k.froze.length <= 100000 := h3.1
 have hkk : x.s.k.keep.length <= 100000 := h3.2.1
 have hN : ∃ N, N = 200000 := ⟨_, rfl⟩
 obtain ⟨N, hN⟩ := hN
 refine conC6 kn6_ok (n := N + 9) ((may_in N x).trans ?_)
 unfold mayP
 have e0 : decide (0 < (x.s.p.chain.length : Int)) = decide (0 < x.s.p.chain.length) := decide_eq_decide.2 (by omega)
 have e1 : decide (0 < ((upP x.s.ns x.c.susp).length : Int)) = decide (0 < (upP x.s.ns x.c.susp).length) := decide_eq_decide.2 (by omega)
 have e2 : decide (0 < (x.s.k.keep.length : Int)) = decide (0 < x.s.k.keep.length) := decide_eq_decide.2 (by omega)
 rw [gOv_eq ⟨h1, hf, h2⟩, gUp_eq h2, e0]
 dsimp only
 cases hp : decide (x.s.p.phase = 1) with
 | false => rfl
 | true =>
  cases hfe : x.s.k.fenced with
  | false => rfl
  | true =>
   simp only [Bool.not_true, cond_false]
   cases hfr : x.s.p.fresh with
   | true =>
    rw [cond_true, cond_true]
    show (bif decide (0 < x.s.p.chain.length) then bif !(x.s.p.chain.any fun m => overP x.s.k x.s.ns m) then some (AV.bool false) else some (.bool (decide (0 < ((upP x.s.ns x.c.susp).length : Int)))) else some (.bool (decide (0 < ((upP x.s.ns x.c.susp).length : Int))))) = _
    rw [e1]
    cases decide (0 < x.s.p.chain.length) with
    | false => rfl
    | true => cases x.s.p.chain.any fun m => overP x.s.k x.s.ns m <;> rfl
   | false =>
    rw [cond_false, cond_false]
    have run : ∀ d i m, i + d = x.s.k.keep.length -> d < m -> LP (envC6 kn6) (N + 8) 0 F_coord_desk_may snK 0 [] m (SMy x (i : Nat)) = some (.bool (bif (x.s.k.keep.drop i).all (fun m => (frozenP x.s.k m).2) then bif decide (0 < x.s.k.keep.length) then bif (bestP x.s.k x.s.p.base).isSome then true else decide (0 < (upP x.s.ns x.c.susp).length) else false else false)) := by
     intro d
     induction d with
     | zero =>
      intro i m hi hm
      obtain ⟨m, rfl⟩ : ∃ k, m = k + 1 := ⟨m - 1, by omega⟩
      rw [may_st, decide_eq_false (by omega), cond_false, gBe_eq h3, gUp_eq h2, e2, List.drop_eq_nil_of_le (by omega)]
      show (bif decide (0 < x.s.k.keep.length) then bif (bestP x.s.k x.s.p.base).isSome then some (AV.bool true) else some (.bool (decide (0 < ((upP x.s.ns x.c.susp).length : Int)))) else some (.bool false)) = _
      rw [e1]
      cases decide (0 < x.s.k.keep.length) with
      | false => rfl
      | true => cases (bestP x.s.k x.s.p.base).isSome <;> rfl
     | succ d ih =>
      intro i m hi hm
      obtain ⟨m, rfl⟩ : ∃ k, m = k + 1 := ⟨m - 1, by omega⟩
      have hil : i < x.s.k.keep.length := by omega
      rw [may_st, decide_eq_true (by omega), cond_true, rg_eq hil, Int.toNat_natCast, gFz_eq hf, wrapS (by omega), ih (i + 1) m (by omega) (by omega), drop_cons (z := default) hil, List.all_cons]
      dsimp only
      cases (frozenP x.s.k (x.s.k.keep.getD i default)).2 <;> rfl
    have := run x.s.k.keep.length 0 (N + 8) (by omega) (by omega)
    rw [List.drop_zero] at this
    exact this
abbrev Ask := Int × Int
def encAsk (a : Ask) : List AV := [.int .i64 0, .int .i64 a.1, .int .i64 0, .int .i64 0, .int .i64 0, .int .i64 0, .int .i64 0, .int .i64 0, .int .i64 0, .int .i64 a.2, .int .i64 0, .int .i64 0, .bool false, .bool false, .str [], .str [], .cplx .f64 0 0, .cplx .f64 0 0, .int .i64 0, .str [], .str [], .str [], .bool false, .nils, .nils, .nils, .cplx .f64 0 0, .cplx .f64 0 0, .int .i64 0, .nils, .nils]
def decAsk (cs : List AV) : Ask := (getI cs 1, getI cs 9)
def encAsks (l : List Ask) : AV := encL 31 encAsk (0, 0) l
def fnW : AV := .fn (.func F_coord_desk_wasReset_c1) [] [.ptr 1 0 0]
def blkA (l : List Ask) : BS := .seq true 31 l.length fun i => encAsk (l.getD i (0, 0))
def clrA (l : List Ask) : BS := .seq true 31 l.length fun i => bif i.blt (0 + l.length) then zMsgC else encAsk (l.getD i (0, 0))
def envW (l : List Known) : Env := envL [] (fun f => bif nmem f [F_slices_DeleteFunc_api_Msg, F_slices_IndexFunc_api_Msg] then some 5 else md6 f) l
theorem conW {l : List Known} (h : ∀ k ∈ l, k.Ok PG) {n f : Nat} {args : List AV} {hp : Heap} {r : AV} {hp' : Heap} (e : callH (envW l) n f args hp = some (r, hp')) : Contract PG f args hp r hp' /\ hp.length <= hp'.length := callH_ok (envL_ok h) envL_code mixed e
def cel0 : BS := .seq true 1 1 fun i => [[AV.int .i64 0]].getD i [.int .i64 0]
def hpA (l : List Ask) : Heap := [blkA l, cel0]
def eDlA (l : List Ask) : List AV × Heap := ([.sl 31 0 0 l.length 0, fnW], hpA l)
def dDlA (_ : List AV) (h : Heap) : List Ask := match hget h 0 with
 | .seq _ _ n f => (List.range n).map fun i => decAsk (f i)
 | _ => []
theorem dDlA_eq (l : List Ask) : dDlA (eDlA l).1 (eDlA l).2 = l := decL_encL (e := encAsk) (d := decAsk) (z := (0, 0)) (sz := 31) (fun _ => rfl) l
def pDlA (l : List Ask) : Prop := l.length <= 100000 /\ l ≠ []
theorem ixA_0 (l : List Ask) : callH (envW []) 9 F_slices_IndexFunc_api_Msg [.sl 31 0 0 l.length 0, fnW] (hpA l) =
 bif decide (0 < (l.length : Int)) then bif decide (0 < (l.length : Int)) then bif Nat.blt 0 l.length then some (.int .i64 0, hpA l) else none else none else some (.int .i64 (-1), hpA l) := by kernel_rfl
theorem ixA_con (l : List Ask) (h : pDlA l) : Contract PG F_slices_IndexFunc_api_Msg (eDlA l).1 (eDlA l).2 (.int .i64 0) (hpA l) /\ (eDlA l).2.length <= (hpA l).length := by
 have hp : 0 < l.length := List.length_pos_iff.2 h.2
 refine conW ank ((ixA_0 l).trans ?_)
 rw [decide_eq_true (by omega), blt_true hp]; rfl
def kIxA : Known := .specH F_slices_IndexFunc_api_Msg dDlA pDlA eDlA (fun l => (.int .i64 0, hpA l))
theorem kIxA_ok : kIxA.Ok PG := Known.specH_ok ixA_con
def gIxA {R : Type} (l : List Ask) (K : List Ask -> Option R) : Option R := gCH dDlA pDlA eDlA (eDlA l).1 (eDlA l).2 K
theorem gIxA_eq {R : Type} {l : List Ask} {K : List Ask -> Option R} (h : pDlA l) : gIxA l K = K l := gCH_eq l (dDlA_eq l) h rfl
def SDf (l : List Ask) (i j : Int) : St := { fr := [(0, .sl 31 0 0 l.length 0), (1, fnW), (5, .int .i64 i), (6, .int .i64 j)], hp := hpA l }
def LDf (N m : Nat) (l : List Ask) (j : Int) : Option (AV × Heap) := LP (envW [kIxA]) (N + 3) 2 F_slices_DeleteFunc_api_Msg (hnK 2) 0 [] m (SDf l 0 j)
def SDg (n : Nat) (l : List Ask) (j : Int) : St := { fr := [(0, .sl 31 0 0 n 0), (1, fnW), (5, .int .i64 0), (6, .int .i64 j)], hp := hpA l }
theorem dl_0 (N : Nat) (l : List Ask) : callH (envW [kIxA]) (N + 1) F_slices_DeleteFunc_api_Msg [.sl 31 0 0 l.length 0, fnW] (hpA l) = gIxA l fun y => LP (envW [kIxA]) N 2 F_slices_DeleteFunc_api_Msg (hnK 2) 0 [] N (SDg l.length y 1) := by kernel_rfl
theorem dl_st (N m : Nat) (l : List Ask) (j : Int) : LDf N (m + 1) l j =
 bif decide (j < (l.length : Int)) then rg j l.length <| bif (0 + j.toNat).blt l.length then LDf N m l (IntKind.i64.wrap (j + 1)) else none
 else bif l.length.beq 0 then some (.sl 31 0 0 0 0, [blkA l, cel0]) else bif (0 + l.length).ble l.length then some (.sl 31 0 0 0 0, [clrA l, cel0]) else none := by kernel_rfl
def oDlA (l : List Ask) : AV × Heap := (.sl 31 0 0 0 0, [clrA l, cel0])
theorem dlA_con (l : List Ask) (h : pDlA l) : Contract PG F_slices_DeleteFunc_api_Msg (eDlA l).1 (eDlA l).2 (oDlA l).1 (oDlA l).2 /\ (eDlA l).2.length <= (oDlA l).2.length := by
 obtain ⟨h1, h2⟩ := h
 have hp : 0 < l.length := List.length_pos_iff.2 h2
 have hN : ∃ N, N = 200000 := ⟨_, rfl⟩
 obtain ⟨N, hN⟩ := hN
 have run : ∀ d j m, j + d = l.length -> d < m -> LDf N m l (j : Nat) = some (.sl 31 0 0 0 0, [clrA l, cel0]) := by
  intro d
  induction d with
  | zero =>
   intro j m hj hm
   obtain ⟨m, rfl⟩ : ∃ k, m = k + 1 := ⟨m - 1, by omega⟩
   rw [dl_st, decide_eq_false (by omega), cond_false, AM.beq_false (by omega), cond_false, ble_true (by omega), cond_true]
  | succ d ih =>
   intro j m hj hm
   obtain ⟨m, rfl⟩ : ∃ k, m = k + 1 := ⟨m - 1, by omega⟩
   rw [dl_st, decide_eq_true (by omega), cond_true, rg_eq (by omega), Int.toNat_natCast, blt_true (by omega), cond_true, wrapS (by omega)]
   exact ih (j + 1) m (by omega) (by omega)
 have r := run (l.length - 1) 1 (N + 3) (by omega) (by omega)
 refine conW (ak kIxA_ok ank) (n := N + 3 + 1) ((dl_0 (N + 3) l).trans ?_)
 rw [gIxA_eq ⟨h1, h2⟩]
 exact r
def kDelA : Known := .specH F_slices_DeleteFunc_api_Msg dDlA pDlA eDlA oDlA
theorem kDelA_ok : kDelA.Ok PG := Known.specH_ok dlA_con
def gDelA {R : Type} (l : List Ask) (K : List Ask -> Option R) : Option R := gCH dDlA pDlA eDlA (eDlA l).1 (eDlA l).2 K
theorem gDelA_eq {R : Type} {l : List Ask} {K : List Ask -> Option R} (h : pDlA l) : gDelA l K = K l := gCH_eq l (dDlA_eq l) h rfl
def dsk (e g : Int) (Sh Ns Wk Op Aq : AV) (c : CConf) (O : AV) : List AV := [.int .i64 e, .int .i64 g, Sh, Ns, Wk, Op, Aq, .int .i64 3, .int .i64 c.chain, .int .i64 1, .int .i64 0, .int .i64 0, .int .i64 0, .int .i64 0, .int .i64 0, .int .i64 0, .int .i64 0, .int .i64 0, .int .i64 c.sess, .int .i64 c.susp, .int .i64 0, .int .i64 0, O]
def mdR (f : Nat) : Option Nat := bif nmem f [F_slices_DeleteFunc_api_Msg, F_coord_desk_wasReset] then some 5 else md6 f
def sft (nb : Bool) : Nat := bif nb then 1 else 0
def lvR (nb : Bool) : List (Nat × Nat × List Nat) := [(F_coord_desk_wasReset, 0, [0, 3, 10, 11, 12, 1004 + sft nb, 1005 + sft nb])]
def envR (nb : Bool) (l : List Known) : Env := envL (lvR nb) mdR l
inductive LN (X : Type) where
 | nil
 | emp
 | ne (a : X) (t : List X)
def LN.l {X : Type} : LN X -> List X
 | .nil => []
 | .emp => []
 | .ne a t => a :: t
def LN.av {X : Type} (sz : Nat) (e : X -> List AV) (z : X) : LN X -> AV
 | .nil => .nils
 | .emp => .trl sz []
 | .ne a t => encL sz e z (a :: t)
def dLN {X : Type} (d : List AV -> X) : AV -> LN X
 | .nils => .nil
 | .tr _ n f => match n with
  | 0 => .emp
  | k + 1 => .ne (d (f 0)) ((List.range k).map fun i => d (f (i + 1)))
 | _ => .emp
theorem dLN_eq {X : Type} {sz : Nat} {e : X -> List AV} {d : List AV -> X} {z : X} (h : ∀ x, d (e x) = x) (x : LN X) : dLN d (x.av sz e z) = x := by
 cases x with
 | nil => rfl
 | emp => rfl
 | ne a t =>
  show LN.ne (d (e a)) ((List.range t.length).map fun i => d (e (t.getD i z))) = LN.ne a t
  rw [h a, show (List.range t.length).map (fun i => d (e (t.getD i z))) = t from decL_encL (e := e) (d := d) (z := z) (sz := sz) h t]
structure Opn where
 src : Int
 gen : Int
 sess : Int
 num : Int
def encOpn (o : Opn) : List AV := [.int .i64 0, .int .i64 o.src, .int .i64 0, .int .i64 0, .int .i64 0, .int .i64 0, .int .i64 0, .int .i64 o.gen, .int .i64 o.sess, .int .i64 o.num, .int .i64 0, .int .i64 0, .bool false, .bool false, .str [], .str [], .cplx .f64 0 0, .cplx .f64 0 0, .int .i64 0, .str [], .str [], .str [], .bool false, .nils, .nils, .nils, .cplx .f64 0 0, .cplx .f64 0 0, .int .i64 0, .nils, .nils]
def decOpn (cs : List AV) : Opn := ⟨getI cs 1, getI cs 7, getI cs 8, getI cs 9⟩
def opV (x : LN Opn) : AV := x.av 31 encOpn ⟨0, 0, 0, 0⟩
structure WR where
 e : Int
 g : Int
 p : Plan
 ns : List Alive
 nb : Bool
 op : LN Opn
 l : List Ask
 c : CConf
def wk0 : List AV := [.bool false, .nils, .nils, .bool false]
def blkN (l : List Alive) : BS := .seq false 3 l.length fun i => encAlive (l.getD i default)
def hpD (nb : Bool) (e g : Int) (ns : List Alive) (Op Aq O : AV) (c : CConf) (P W : List AV) (A : List BS) : Heap :=
 bif nb then .arr true 23 [dsk e g (.sl 8 1 0 1 1) (.sl 3 2 0 ns.length 0) (.sl 4 3 0 1 1) Op Aq c O] :: .arr true 8 [P] :: blkN ns :: .arr true 4 [W] :: A
 else .arr true 23 [dsk e g (.sl 8 1 0 1 1) (encAlives ns) (.sl 4 2 0 1 1) Op Aq c O] :: .arr true 8 [P] :: .arr true 4 [W] :: A
def hpW (x : WR) (Aq O : AV) (A : BS) : Heap := hpD x.nb x.e x.g x.ns (opV x.op) Aq O x.c (encPlan x.p) wk0 [A]
def ansC (a : Ask) : List AV := [.int .i64 22, .int .i64 1, .int .i64 a.1, .int .i64 0, .int .i64 0, .int .i64 0, .int .i64 0, .int .i64 0, .int .i64 0, .int .i64 a.2, .int .i64 0, .int .i64 0, .bool false, .bool false, .str [], .str [], .cplx .f64 0 0, .cplx .f64 0 0, .int .i64 0, .str [], .str [], .str [], .bool false, .nils, .nils, .nils, .cplx .f64 0 0, .cplx .f64 0 0, .int .i64 0, .nils, .nils]
def SW1 (x : WR) (f : Nat -> List AV) (i : Int) : St := { fr := [(0, .ptr 0 0 0), (3, .ptr (5 + sft x.nb) 0 0), (10, .sl 31 (3 + sft x.nb) 0 x.l.length 0), (11, .int .i64 x.l.length), (12, .int .i64 i), (1004 + sft x.nb, .undef), (1005 + sft x.nb, .undef)], hp := hpW x (.sl 31 (3 + sft x.nb) 0 x.l.length 0) (.sl 31 (4 + sft x.nb) 0 1 1) (blkA x.l) ++ [.seq true 31 1 f, cel0] }
def SWn (x : WR) (n : Nat) (f : Nat -> List AV) (i : Int) : St := { fr := [(0, .ptr 0 0 0), (3, .ptr (6 + sft x.nb) 0 0), (10, .sl 31 (3 + sft x.nb) 0 x.l.length 0), (11, .int .i64 x.l.length), (12, .int .i64 i), (1004 + sft x.nb, .undef), (1005 + sft x.nb, .undef)], hp := hpW x (.sl 31 (3 + sft x.nb) 0 x.l.length 0) (.sl 31 (5 + sft x.nb) 0 n 0) (blkA x.l) ++ [.dead, .seq true 31 n f, cel0] }
def LW (nb : Bool) (N j : Nat) (S : St) : Option (AV × Heap) := LP (envR nb [kDelA]) N (5 + sft nb) F_coord_desk_wasReset (hnK (5 + sft nb)) 0 [] j S
def actC (p : Plan) : List AV := [.int .i64 10, .int .i64 1, .int .i64 (p.chain.getD 0 default).node, .int .i64 (p.chain.getD 0 default).boot, .int .i64 0, .int .i64 0, .int .i64 p.epoch, .int .i64 p.gen, .int .i64 0, .int .i64 0, .int .i64 0, .int .i64 0, .bool false, .bool p.fresh, .str [], .str [], .cplx .f64 0 0, .cplx .f64 0 0, .int .i64 0, .str [], .str [], .str [], .bool false, .nils, encMembers p.chain, .nils, .cplx .f64 0 0, .cplx .f64 0 0, .int .i64 0, .nils, .nils]
theorem wr_in (N : Nat) (x : WR) : callH (envR x.nb [kDelA]) (N + 1) F_coord_desk_wasReset [.ptr 0 0 0, .int .i64 0] (hpW x (.sl 31 (3 + sft x.nb) 0 x.l.length 0) (.sl 31 (4 + sft x.nb) 0 1 1) (blkA x.l) ++ [.arr true 31 [actC x.p]]) = LW x.nb N N (SW1 x (fun i => [actC x.p].getD i (actC x.p)) 0) := by
 obtain ⟨e, g, p, ns, nb, op, l, c⟩ := x
 cases nb <;> cases op <;> kernel_rfl
theorem wr_1 (N j : Nat) (x : WR) (f : Nat -> List AV) (i : Int) : LW x.nb (N + 5) (j + 1) (SW1 x f i) =
 bif decide (i < (x.l.length : Int)) then rg i x.l.length <| bif (0 + i.toNat).blt x.l.length then LW x.nb (N + 5) j (SWn x 2 (fun k => bif k.blt 1 then f k else bif k.blt 2 then [ansC (x.l.getD (0 + i.toNat) (0, 0))].getD (k - 1) [] else f 1) (IntKind.i64.wrap (i + 1))) else none
 else gDelA x.l fun y => some (.tup [], hpW x (.sl 31 (3 + sft x.nb) 0 0 0) (.sl 31 (4 + sft x.nb) 0 1 1) (clrA y) ++ [.seq true 31 1 f]) := by
 obtain ⟨e, g, p, ns, nb, op, l, c⟩ := x
 cases nb <;> cases op <;> kernel_rfl
theorem wr_n (N j : Nat) (x : WR) (n : Nat) (f : Nat -> List AV) (i : Int) : LW x.nb (N + 5) (j + 1) (SWn x n f i) =
 bif decide (i < (x.l.length : Int)) then rg i x.l.length <| bif (0 + i.toNat).blt x.l.length then room1 n 392 (LW x.nb (N + 5) j (SWn x (n + 1) (fun k => bif k.blt n then f k else bif k.blt (n + 1) then [ansC (x.l.getD (0 + i.toNat) (0, 0))].getD (k - n) [] else f n) (IntKind.i64.wrap (i + 1)))) else none
 else gDelA x.l fun y => some (.tup [], hpW x (.sl 31 (3 + sft x.nb) 0 0 0) (.sl 31 (5 + sft x.nb) 0 n 0) (clrA y) ++ [.dead, .seq true 31 n f]) := by
 obtain ⟨e, g, p, ns, nb, op, l, c⟩ := x
 cases nb <;> cases op <;> kernel_rfl
def idC (c : List AV) : List AV := c
def outW (x : WR) : List (List AV) := actC x.p :: x.l.map ansC
def eWR (x : WR) : List AV × Heap := ([.ptr 0 0 0, .int .i64 0], hpW x (.sl 31 (3 + sft x.nb) 0 x.l.length 0) (.sl 31 (4 + sft x.nb) 0 1 1) (blkA x.l) ++ [.arr true 31 [actC x.p]])
def oWR (x : WR) : AV × Heap := (.tup [], hpW x (.sl 31 (3 + sft x.nb) 0 0 0) (.sl 31 (5 + sft x.nb) 0 (x.l.length + 1) 0) (clrA x.l) ++ [.dead, .seq true 31 (x.l.length + 1) (canF idC [] (outW x))])
def cell0 (h : Heap) (b : Nat) : List AV := match hget h b with
 | .arr _ _ [c] => c
 | _ => []
def dAsks (h : Heap) (b : Nat) : List Ask := match hget h b with
 | .seq _ _ n f => (List.range n).map fun i => decAsk (f i)
 | _ => []
def isSl : AV -> Bool
 | .sl .. => true
 | _ => false
def dNs (h : Heap) (b : Nat) : List Alive := match hget h b with
 | .seq _ _ n f => (List.range n).map fun i => decAlive (f i)
 | _ => []
def dWR (_ : List AV) (h : Heap) : WR := let d := cell0 h 0; let nb := isSl (d.getD 3 .undef); ⟨getI d 0, getI d 1, decPlan (cell0 h 1), bif nb then dNs h 2 else getL decAlive d 3, nb, dLN decOpn (d.getD 5 .undef), dAsks h (3 + sft nb), ⟨getI d 8, getI d 19, getI d 18⟩⟩
theorem dWR_eq (x : WR) : dWR (eWR x).1 (eWR x).2 = x := by
 obtain ⟨e, g, p, ns, nb, op, l, c⟩ := x
 have h : (List.range l.length).map (fun i => decAsk (encAsk (l.getD i (0, 0)))) = l := decL_encL (e := encAsk) (d := decAsk) (z := (0, 0)) (sz := 31) (fun _ => rfl) l
 have h2 : (List.range ns.length).map (fun i => decAlive (encAlive (ns.getD i default))) = ns := decL_encL (e := encAlive) (d := decAlive) (z := default) (sz := 3) dec_encAlive ns
 have h3 : dLN decOpn (opV op) = op := dLN_eq (fun _ => rfl) op
 cases nb with
 | false =>
  show (⟨e, g, decPlan (encPlan p), decL decAlive (encAlives ns), false, dLN decOpn (opV op), (List.range l.length).map (fun i => decAsk (encAsk (l.getD i (0, 0)))), ⟨c.chain, c.susp, c.sess⟩⟩ : WR) = _
  rw [dec_encPlan, decAlives, h, h3]
 | true =>
  show (⟨e, g, decPlan (encPlan p), (List.range ns.length).map (fun i => decAlive (encAlive (ns.getD i default))), true, dLN decOpn (opV op), (List.range l.length).map (fun i => decAsk (encAsk (l.getD i (0, 0)))), ⟨c.chain, c.susp, c.sess⟩⟩ : WR) = _
  rw [dec_encPlan, h2, h, h3]
def pWR (x : WR) : Prop := pDlA x.l
theorem conR {nb : Bool} {l : List Known} (h : ∀ k ∈ l, k.Ok PG) {n f : Nat} {args : List AV} {hp : Heap} {r : AV} {hp' : Heap} (e : callH (envR nb l) n f args hp = some (r, hp')) : Contract PG f args hp r hp' /\ hp.length <= hp'.length := callH_ok (envL_ok h) envL_code mixed e
theorem wr_con (x : WR) (h : pWR x) : Contract PG F_coord_desk_wasReset (eWR x).1 (eWR x).2 (oWR x).1 (oWR x).2 /\ (eWR x).2.length <= (oWR x).2.length := by
 have hl : x.l.length <= 100000 := h.1
 have hp : 0 < x.l.length := List.length_pos_iff.2 h.2
 have hN : ∃ N, N = 200000 := ⟨_, rfl⟩
 obtain ⟨N, hN⟩ := hN
 refine conR (ak kDelA_ok ank) (n := N + 5 + 1) ((wr_in (N + 5) x).trans ?_)
 have run : ∀ d i j (os : List (List AV)), i + d = x.l.length -> d < j -> os.length = i + 1 -> os ≠ [] -> LW x.nb (N + 5) j (SWn x os.length (canF idC [] os) (i : Nat)) =
   some (.tup [], hpW x (.sl 31 (3 + sft x.nb) 0 0 0) (.sl 31 (5 + sft x.nb) 0 (x.l.length + 1) 0) (clrA x.l) ++ [.dead, .seq true 31 (x.l.length + 1) (canF idC [] (os ++ (x.l.drop i).map ansC))]) := by
  intro d
  induction d with
  | zero =>
   intro i j os hi hj ho hne
   obtain ⟨j, rfl⟩ : ∃ q, j = q + 1 := ⟨j - 1, by omega⟩
   rw [wr_n, decide_eq_false (by omega), cond_false, gDelA_eq h, List.drop_eq_nil_of_le (by omega), List.map_nil, List.append_nil]
   have : os.length = x.l.length + 1 := by omega
   rw [this]
  | succ d ih =>
   intro i j os hi hj ho hne
   obtain ⟨j, rfl⟩ : ∃ q, j = q + 1 := ⟨j - 1, by omega⟩
   have hil : i < x.l.length := by omega
   rw [wr_n, decide_eq_true (by omega), cond_true, rg_eq hil, Int.toNat_natCast, Nat.zero_add, blt_true hil, cond_true, room1_eq (by omega) (by omega), wrapS (by omega), drop_cons (z := (0, 0)) hil, List.map_cons]
   have e := canF_app (e := idC) (z := []) hne (ansC (x.l.getD i (0, 0)))
   have e' : (fun k => bif k.blt os.length then canF idC [] os k else bif k.blt (os.length + 1) then [ansC (x.l.getD i (0, 0))].getD (k - os.length) [] else canF idC [] os os.length) = canF idC [] (os ++ [ansC (x.l.getD i (0, 0))]) := e
   have el : os.length + 1 = (os ++ [ansC (x.l.getD i (0, 0))]).length := by simp
   rw [e', el, ih (i + 1) j _ (by omega) (by omega) (by simp; omega) (by simp), List.append_assoc]
   rfl
 rw [show (0 : Int) = ((0 : Nat) : Int) from rfl, show LW x.nb (N + 5) (N + 5) (SW1 x (fun i => [actC x.p].getD i (actC x.p)) ((0 : Nat) : Int)) = LW x.nb (N + 5) (N + 4 + 1) (SW1 x (fun i => [actC x.p].getD i (actC x.p)) ((0 : Nat) : Int)) from rfl, wr_1, decide_eq_true (by omega), cond_true, rg_eq hp, Int.toNat_natCast, Nat.zero_add, blt_true hp, cond_true, wrapS (by omega)]
 have e0 : (fun i => [actC x.p].getD i (actC x.p)) = canF idC [] [actC x.p] := canF_oneS (e := idC) (z := []) (actC x.p)
 have e1 := canF_app1 (e := idC) (z := []) (actC x.p) (ansC (x.l.getD 0 (0, 0)))
 have e1' : (fun k => bif k.blt 1 then [actC x.p].getD k (actC x.p) else bif k.blt 2 then [ansC (x.l.getD 0 (0, 0))].getD (k - 1) [] else [actC x.p].getD 1 (actC x.p)) = canF idC [] [actC x.p, ansC (x.l.getD 0 (0, 0))] := by
  rw [<- e0] at e1
  exact e1
 rw [e1']
 have r := run (x.l.length - 1) 1 (N + 4) [actC x.p, ansC (x.l.getD 0 (0, 0))] (by omega) (by omega) rfl (by simp)
 have r' : LW x.nb (N + 5) (N + 4) (SWn x 2 (canF idC [] [actC x.p, ansC (x.l.getD 0 (0, 0))]) ((0 + 1 : Nat) : Int)) = _ := r
 rw [r']
 have hm : x.l.map ansC = ansC (x.l.getD 0 (0, 0)) :: (x.l.drop 1).map ansC := by
  have := drop_cons (z := ((0, 0) : Ask)) hp
  rw [List.drop_zero] at this
  conv => lhs; rw [this]
  rfl
 unfold oWR outW
 rw [hm]
 rfl
def kWas : Known := .specH F_coord_desk_wasReset dWR pWR eWR oWR
theorem kWas_ok : kWas.Ok PG := Known.specH_ok wr_con
def gWas {R : Type} (x : WR) (K : WR -> Option R) : Option R := gCH dWR pWR eWR (eWR x).1 (eWR x).2 K
theorem gWas_eq {R : Type} {x : WR} {K : WR -> Option R} (h : pWR x) : gWas x K = K x := gCH_eq x (dWR_eq x) h rfl
def env9 (l : List Known) : Env := envL [] (fun f => bif nmem f [F_slices_Clone_api_Entry, F_slices_Clone_api_Member, F_slices_Clone_api_Seen, F_twin_Views, F_twin_Msg] then some 0 else bif nmem f [F_slices_Clone_api_Msg, F_twin_Msgs] then some 1 else none) l
theorem con9 {l : List Known} (h : ∀ k ∈ l, k.Ok PG) {n f : Nat} {xs : List AV} {r : AV} (e : callT (env9 l) n f xs = some r) : Contract PG f xs [] r [] := callT_ok (envL_ok h) envL_code mixed e
theorem con9H {l : List Known} (h : ∀ k ∈ l, k.Ok PG) {n f : Nat} {args : List AV} {r : AV} {hp' : Heap} (e : callH (env9 l) n f args [] = some (r, hp')) : Contract PG f args [] r hp' := (callH_ok (envL_ok h) envL_code mixed e).1
theorem vw_n : callT (env9 []) 9 F_twin_Views [.nils] = some .nils := by kernel_rfl
theorem vw_e : callT (env9 []) 9 F_twin_Views [.trl 5 []] = some (.trl 5 []) := by kernel_rfl
theorem vw_con : Contract PG F_twin_Views [encViews []] [] (encViews []) [] :=
 Contract.split (OrC.of [] [] .nil) ((con9 ank vw_n).res .nils) ((con9 ank vw_e).res (SubV.trl_encL (e := encView) (z := default) []))
def kVw0 : Known := .spec F_twin_Views (fun _ => ()) (fun _ => True) (fun _ => [encViews []]) (fun _ => encViews [])
theorem kVw0_ok : kVw0.Ok PG := Known.spec_ok fun _ _ => vw_con
def CpOk (m : Msg) : Prop := shortL m.entries /\ shortL m.chain /\ m.views = [] /\ shortL m.image.log /\ shortL m.image.seen
def kn9 : List Known := [kCloneEntry, kCloneMember, kCloneSeen, kVw0]
theorem kn9_ok : ∀ k ∈ kn9, k.Ok PG := ak kCloneEntry_ok (ak kCloneMember_ok (ak kCloneSeen_ok (ak kVw0_ok ank)))
theorem msg_m (m : Msg) : callT (env9 kn9) 12 F_twin_Msg [.agg (encMsg m)] = gC (dL decEntry) shortL eEnts [encEntrys m.entries] fun y0 => gC (dL decMember) shortL eMems [encMembers m.chain] fun y1 =>
 gC (fun _ => ()) (fun _ => True) (fun _ => [encViews []]) [encViews m.views] fun _ => gC (dL decEntry) shortL eEnts [encEntrys m.image.log] fun y3 => gC (dL decSeen) shortL eSeens [encSeens m.image.seen] fun y4 =>
 some (.agg (encMsg { m with entries := y0, chain := y1, views := [], image := { m.image with log := y3, seen := y4 } })) := by kernel_rfl
theorem msg_con (m : Msg) (h : CpOk m) : Contract PG F_twin_Msg [.agg (encMsg m)] [] (.agg (encMsg m)) [] := by
 obtain ⟨h1, h2, h3, h4, h5⟩ := h
 refine con9 kn9_ok ((msg_m m).trans ?_)
 have hv : ∀ K : Unit -> Option AV, gC (fun _ => ()) (fun _ => True) (fun _ => [encViews []]) [encViews m.views] K = K () := fun K => by rw [h3]; exact gC_eq () rfl trivial (.refl _)
 rw [qEnts h1, qMems h2, hv, qEnts h4, qSeens h5, <- h3]
def dM1 (a : List AV) : Msg := decMsg (argC a 0)
def eM1 (m : Msg) : List AV := [.agg (encMsg m)]
def kMsgM : Known := .spec F_twin_Msg dM1 CpOk eM1 (fun m => .agg (encMsg m))
theorem kMsgM_ok : kMsgM.Ok PG := Known.spec_ok msg_con
theorem cloM_eq (n : Nat) (f : Nat -> List AV) : callH (env9 []) 2 F_slices_Clone_api_Msg [.tr 31 (n + 1) f] [] = bif Nat.ble ((0 + (n + 1)) * 392) 140737488355328 && Nat.ble (0 + (n + 1)) 140737488355328 then some (.sl 31 0 0 (n + 1) 0, [.seq true 31 (n + 1) f]) else none := by kernel_rfl
theorem cloM_con {n : Nat} (f : Nat -> List AV) (h : n + 1 <= 100000) : Contract PG F_slices_Clone_api_Msg [.tr 31 (n + 1) f] [] (.sl 31 0 0 (n + 1) 0) [.seq true 31 (n + 1) f] := by
 have e := cloM_eq n f
 rw [ble_true (by omega), ble_true (by omega)] at e
 exact con9H ank e
def dSq (a : List AV) : Nat × (Nat -> List AV) := match a.getD 0 .nils with
 | .tr _ n f => (n, f)
 | _ => (0, fun _ => [])
def eSq (p : Nat × (Nat -> List AV)) : List AV := [.tr 31 p.1 p.2]
def pSq (p : Nat × (Nat -> List AV)) : Prop := 0 < p.1 /\ p.1 <= 100000
def kCloM : Known := .specB F_slices_Clone_api_Msg dSq pSq eSq (fun p => (.sl 31 0 0 p.1 0, [.seq true 31 p.1 p.2]))
theorem kCloM_ok : kCloM.Ok PG := Known.specB_ok fun p h => by
 obtain ⟨n, f⟩ := p
 obtain ⟨h1, h2⟩ := h
 obtain ⟨n, rfl⟩ : ∃ k, n = k + 1 := ⟨n - 1, by simp only at h1; omega⟩
 exact cloM_con f h2
theorem qSq {R : Type} {n : Nat} {f : Nat -> List AV} {k : Nat × (Nat -> List AV) -> Option R} (h : pSq (n, f)) : gC dSq pSq eSq [.tr 31 n f] k = k (n, f) := gC_eq (n, f) rfl h (.refl _)
def SMs9 (n : Nat) (f : Nat -> List AV) (i : Int) : St := { fr := [(0, .sl 31 0 0 n 0), (7, .sl 31 0 0 n 0), (8, .int .i64 n), (9, .int .i64 i)], hp := [.seq true 31 n f] }
def kn9m : List Known := [kMsgM, kCloM]
theorem kn9m_ok : ∀ k ∈ kn9m, k.Ok PG := ak kMsgM_ok (ak kCloM_ok ank)
def LM9 (ks : List Known) (N j n : Nat) (f : Nat -> List AV) (i : Int) : Option (AV × Heap) := LP (env9 ks) (N + 9) 0 F_twin_Msgs (hnK 0) 0 [] j (SMs9 n f i)
theorem ms_in (N : Nat) (n : Nat) (f : Nat -> List AV) : callH (env9 kn9m) (N + 9 + 1) F_twin_Msgs [.tr 31 n f] [] = gC dSq pSq eSq [.tr 31 n f] fun y => LM9 kn9m N (N + 9) y.1 y.2 0 := by kernel_rfl
theorem ma_in (N : Nat) (n : Nat) (f : Nat -> List AV) : callH (env9 [kCloM]) (N + 9 + 1) F_twin_Msgs [.tr 31 n f] [] = gC dSq pSq eSq [.tr 31 n f] fun y => LM9 [kCloM] N (N + 9) y.1 y.2 0 := by kernel_rfl
theorem ms_st (N j n : Nat) (F : Nat -> Msg) (i : Int) : LM9 kn9m N (j + 1) n (fun k => encMsg (F k)) i =
 bif decide (i < (n : Int)) then rg i n <| bif (0 + i.toNat).blt n then gC dM1 CpOk eM1 [.agg (encMsg (F (0 + i.toNat)))] fun y => rg i n <| bif (0 + i.toNat).blt n && true then LM9 kn9m N j n (fun k => bif k.beq (0 + i.toNat) then encMsg y else encMsg (F k)) (IntKind.i64.wrap (i + 1)) else none else none
 else some (.sl 31 0 0 n 0, [.seq true 31 n fun k => encMsg (F k)]) := by kernel_rfl
theorem ma_st (N j n : Nat) (F : Nat -> Ask) (i : Int) : LM9 [kCloM] N (j + 1) n (fun k => encAsk (F k)) i =
 bif decide (i < (n : Int)) then rg i n <| bif (0 + i.toNat).blt n then rg i n <| bif (0 + i.toNat).blt n && true then LM9 [kCloM] N j n (fun k => bif k.beq (0 + i.toNat) then encAsk (F (0 + i.toNat)) else encAsk (F k)) (IntKind.i64.wrap (i + 1)) else none else none
 else some (.sl 31 0 0 n 0, [.seq true 31 n fun k => encAsk (F k)]) := by kernel_rfl
theorem fun_at {X : Type} (e : X -> List AV) (F : Nat -> X) (i : Nat) : (fun k => bif k.beq i then e (F i) else e (F k)) = fun k => e (F k) := by
 funext k
 cases h : k.beq i with
 | false => rfl
 | true => rw [Nat.eq_of_beq_eq_true h]; rfl
theorem msgs_con (l : List Msg) (h : l.length <= 100000 /\ l ≠ [] /\ ∀ m ∈ l, CpOk m) : Contract PG F_twin_Msgs [encMsgs l] [] (outBlk 31 encMsg default l).1 (outBlk 31 encMsg default l).2 := by
 obtain ⟨h1, h2, h3⟩ := h
 have hp : 0 < l.length := List.length_pos_iff.2 h2
 have hN : ∃ N, N = 200000 := ⟨_, rfl⟩
 obtain ⟨N, hN⟩ := hN
 refine con9H kn9m_ok (n := N + 9 + 1) ((ms_in N l.length fun i => encMsg (l.getD i default)).trans ?_)
 rw [qSq ⟨hp, h1⟩]
 refine up_loop (n := l.length) (fun i m => LM9 kn9m N m l.length (fun k => encMsg (l.getD k default)) (i : Nat) = some ((outBlk 31 encMsg default l).1, (outBlk 31 encMsg default l).2)) (fun m => ?_) (fun i m hi ih => ?_) 0 (N + 9) (Nat.zero_le _) (by omega)
 ·rw [ms_st, decide_eq_false (by omega), cond_false]; rfl
 ·have q : ∀ K : Msg -> Option (AV × Heap), gC dM1 CpOk eM1 [.agg (encMsg (l.getD i default))] K = K (l.getD i default) := fun K => gC_eq (l.getD i default) (dec_encMsg _) (h3 _ (getD_mem hi)) (.refl _)
  rw [ms_st, decide_eq_true (by omega), cond_true, rg_eq hi, Int.toNat_natCast, Nat.zero_add, blt_true hi, cond_true, q, rg_eq hi, Bool.and_true, cond_true, wrapS (by omega), fun_at encMsg (fun k => l.getD k default) i]
  exact ih
theorem asks_con (l : List Ask) (h : l.length <= 100000 /\ l ≠ []) : Contract PG F_twin_Msgs [encAsks l] [] (outBlk 31 encAsk (0, 0) l).1 (outBlk 31 encAsk (0, 0) l).2 := by
 obtain ⟨h1, h2⟩ := h
 have hp : 0 < l.length := List.length_pos_iff.2 h2
 have hN : ∃ N, N = 200000 := ⟨_, rfl⟩
 obtain ⟨N, hN⟩ := hN
 refine con9H (ak kCloM_ok ank) (n := N + 9 + 1) ((ma_in N l.length fun i => encAsk (l.getD i (0, 0))).trans ?_)
 rw [qSq ⟨hp, h1⟩]
 refine up_loop (n := l.length) (fun i m => LM9 [kCloM] N m l.length (fun k => encAsk (l.getD k (0, 0))) (i : Nat) = some ((outBlk 31 encAsk (0, 0) l).1, (outBlk 31 encAsk (0, 0) l).2)) (fun m => ?_) (fun i m hi ih => ?_) 0 (N + 9) (Nat.zero_le _) (by omega)
 ·rw [ma_st, decide_eq_false (by omega), cond_false]; rfl
 ·rw [ma_st, decide_eq_true (by omega), cond_true, rg_eq hi, Int.toNat_natCast, Nat.zero_add, blt_true hi, cond_true, rg_eq hi, Bool.and_true, cond_true, wrapS (by omega), fun_at encAsk (fun k => l.getD k (0, 0)) i]
  exact ih
def isNilE : AV -> Bool
 | .tr _ _ f => match (f 0).getD 23 .undef with
  | .nils => true
  | _ => false
 | _ => false
def Known.byE (a b : Known) : Known := { f := a.f, ans := fun args hp => match isNilE (args.getD 0 .undef) with
 | true => a.ans args hp
 | false => b.ans args hp }
theorem Known.byE_ok {a b : Known} (ha : a.Ok PG) (hb : b.Ok PG) (h : a.f = b.f) : (Known.byE a b).Ok PG := by
 intro args hp A e hg
 have e : (match isNilE (args.getD 0 .undef) with
  | true => a.ans args hp
  | false => b.ans args hp) = some A := e
 cases hc : isNilE (args.getD 0 .undef) with
 | true => rw [hc] at e; exact ha args hp A e hg
 | false =>
  rw [hc] at e
  have := hb args hp A e hg
  rw [<- h] at this
  exact this
def dAk (a : List AV) : List Ask := decL decAsk (a.getD 0 .nils)
def pAk (l : List Ask) : Prop := l.length <= 100000 /\ l ≠ []
def eAk (l : List Ask) : List AV := [encAsks l]
def pMs (l : List Msg) : Prop := l.length <= 100000 /\ l ≠ [] /\ ∀ m ∈ l, CpOk m
def eMs (l : List Msg) : List AV := [encMsgs l]
def Known.onTr (a : Known) : Known := { f := a.f, ans := fun args hp => match args.getD 0 .undef with
 | .tr _ _ _ => a.ans args hp
 | _ => none }
theorem Known.onTr_ok {a : Known} (ha : a.Ok PG) : (Known.onTr a).Ok PG := by
 intro args hp A e hg
 have e : (match args.getD 0 .undef with
  | .tr _ _ _ => a.ans args hp
  | _ => none) = some A := e
 split at e
 ·exact ha args hp A e hg
 ·cases e
def kMsgs : Known := Known.onTr <| Known.byE (.specB F_twin_Msgs dAk pAk eAk (outBlk 31 encAsk (0, 0))) (.specB F_twin_Msgs (dL decMsg) pMs eMs (outBlk 31 encMsg default))
theorem kMsgs_ok : kMsgs.Ok PG := Known.onTr_ok (Known.byE_ok (Known.specB_ok asks_con) (Known.specB_ok msgs_con) rfl)
theorem qAk {R : Type} {l : List Ask} {k : List Ask -> Option R} (h : pAk l) : gC dAk pAk eAk [encAsks l] k = k l := gC_eq l (decL_encL (fun _ => rfl) l) h (.refl _)
theorem qMs {R : Type} {l : List Msg} {k : List Msg -> Option R} (h : pMs l) : gC (dL decMsg) pMs eMs [encMsgs l] k = k l := gC_eq l (decMsgs l) h (.refl _)
theorem clone_Alive_eq (n : Nat) (f : Nat -> List AV) : callT env0 2 F_slices_Clone_api_Alive [.tr 3 (n + 1) f] = bif Nat.ble ((0 + (n + 1)) * 24) 140737488355328 && Nat.ble (0 + (n + 1)) 140737488355328 then bif Nat.ble (n + 1) (n + 1) then some (.tr 3 (n + 1) f) else none else none := by kernel_rfl
theorem clone_Alive (l : List Alive) (h : l.length <= LB) : Contract PG F_slices_Clone_api_Alive [encAlives l] [] (encAlives l) [] :=
 clone_of (b := 24) (by omega) (by kernel_rfl) (by kernel_rfl) clone_Alive_eq l h
def eAls (l : List Alive) : List AV := [encAlives l]
def kCloneAlive : Known := .spec F_slices_Clone_api_Alive (dL decAlive) shortL eAls encAlives
theorem kCloneAlive_ok : kCloneAlive.Ok PG := Known.spec_ok clone_Alive
def dDS (cs : List AV) : DS := let b := decBureau cs; ⟨⟨b.book.sess, b.book.gen, b.book.shards.headD default, b.nodes, b.work.headD default, b.opens, b.asks⟩, ⟨getI cs 8, getI cs 19, getI cs 18⟩, cs.getD 22 .undef⟩
def dMy (a : List AV) : DS := dDS (dTpC (a.getD 0 .undef))
def eMy (x : DS) : List AV := [.tp (encDS x) 0, .int .i64 0]
def kMay : Known := .spec F_coord_desk_may dMy pDS eMy (fun x => .bool (mayP x))
theorem kMay_ok : kMay.Ok PG := Known.spec_ok may_con
structure UX where
 e : Int
 g : Int
 ns : List Alive
 c : CConf
def mkU (e g : Int) (N : AV) : AV := .agg [.int .i64 e, .int .i64 g, .undef, N, .undef, .undef, .undef]
def eUX (x : UX) : List AV := [mkU x.e x.g (encAlives x.ns), .agg (encCf x.c)]
def dUX (a : List AV) : UX := ⟨getI (argC a 0) 0, getI (argC a 0) 1, getL decAlive (argC a 0) 3, ⟨getI (argC a 1) 1, getI (argC a 1) 12, getI (argC a 1) 11⟩⟩
theorem dUX_eq (x : UX) : dUX (eUX x) = x := by
 show (⟨x.e, x.g, decL decAlive (encAlives x.ns), ⟨x.c.chain, x.c.susp, x.c.sess⟩⟩ : UX) = x
 rw [decAlives]
def pUX (x : UX) : Prop := x.ns.length <= 100000
theorem upm_in (N : Nat) (x : UX) : callT (envCo []) (N + 1) F_coord_Up (eUX x) = LUp N x.c x.ns N .nils [] 0 := by kernel_rfl
theorem upm_con (x : UX) (h : pUX x) : Contract PG F_coord_Up (eUX x) [] (encMembers (upP x.ns x.c.susp)) [] := by
 have h : x.ns.length <= 100000 := h
 have hN : ∃ N, N = 200000 := ⟨_, rfl⟩
 obtain ⟨N, hN⟩ := hN
 have r := (up_grow N x.c x.ns h).run0 (z := default) (by omega) h (m := N) (by omega)
 rw [pickL_list (l := x.ns) (z := default) (g := fun a : Alive => bif decide (a.missed <= x.c.susp) then some a.member else none)] at r
 exact (conCo ank (n := N + 1) ((upm_in N x).trans r)).res (gTr_sub _)
def kUpM : Known := .spec F_coord_Up dUX pUX eUX (fun x => encMembers (upP x.ns x.c.susp))
theorem kUpM_ok : kUpM.Ok PG := Known.spec_ok upm_con
def mdH (f : Nat) : Option Nat := bif nmem f [F_slices_DeleteFunc_api_Msg, F_coord_desk_wasReset] then some 5 else bif nmem f [F_twin_Msgs] then some 1 else bif nmem f [F_slices_Clone_api_Alive, F_slices_Clone_api_Member] then some 0 else md6 f
def envHd (l : List Known) : Env := { envL [] mdH l with msk := fun f => bif Nat.beq f F_coord_Up then [2, 4, 5, 6] else [] }
theorem envHd_ok {l : List Known} (h : ∀ k ∈ l, k.Ok PG) : EnvOk PG (envHd l) := ⟨tt_ok rfl, orc_ok h⟩
def gMs {R : Type} (l : List Member) (k : List Member -> Option R) : Option R := gC (dL decMember) shortL eMems [encMembers l] k
theorem gMs_eq {R : Type} {l : List Member} (k : List Member -> Option R) (h : shortL l) : gMs l k = k l := qMems h
structure ES where
 e : Int
 g : Int
 p : Plan
 ns : List Alive
 nb : Bool
 op : LN Opn
 keep : List Member
 fz : LN Msg
 fe : Bool
 he : Bool
 l : List Ask
 c : CConf
def fzV (x : LN Msg) : AV := x.av 31 encMsg default
def wkA (s : ES) : List AV := [.bool s.fe, encMembers s.keep, fzV s.fz, .bool s.he]
def hpE (s : ES) : Heap := hpD s.nb s.e s.g s.ns (opV s.op) (.sl 31 (3 + sft s.nb) 0 s.l.length 0) .nils s.c (encPlan s.p) (wkA s) [blkA s.l]
def wkE (s : ES) : Work := ⟨s.fe, s.keep, s.fz.l, s.he⟩
def wrE (s : ES) (g : Int) (p : Plan) : WR := ⟨s.e, g, p, s.ns, s.nb, s.op, s.l, s.c⟩
def gMayE {R : Type} (s : ES) (K : DS -> Option R) : Option R := gC dMy pDS eMy [.tp (dsk s.e s.g (.trl 8 [encPlan s.p]) (encAlives s.ns) (.trl 4 [wkA s]) (opV s.op) (encAsks s.l) s.c .nils) 0, .int .i64 0] K
def gUpM {R : Type} (e g : Int) (ns : List Alive) (c : CConf) (K : UX -> Option R) : Option R := gC dUX pUX eUX [mkU e g (encAlives ns), .agg (encCf c)] K
def gBeE {R : Type} (s : ES) (K : WI -> Option R) : Option R := gC dWI pWI eWI [.agg (wkA s), .int .i64 s.p.base] K
def fstB (o : Option (Member × Msg)) : Member := match o with
 | some (x, _) => x
 | none => ⟨0, 0⟩
def gLd {R : Type} (l : List Member) (m : Member) (K : LM -> Option R) : Option R := gC decLM pLd encLM [encMembers l, .agg (encMember m)] K
def gCh {R : Type} (k up : List Member) (c : Int) (K : KUC -> Option R) : Option R := gC dKUC pKUC eKUC [.int .i64 0, encMembers k, encMembers up, .int .i64 c] K
def gChn {R : Type} (up : List Member) (c : Int) (K : KUC -> Option R) : Option R := gC dKUC pKUn eKUn [.int .i64 0, .nils, encMembers up, .int .i64 c] K
def actM (p : Plan) (ch : List Member) : List AV := [.int .i64 10, .int .i64 1, .int .i64 (p.chain.getD 0 default).node, .int .i64 (p.chain.getD 0 default).boot, .int .i64 0, .int .i64 0, .int .i64 p.epoch, .int .i64 p.gen, .int .i64 0, .int .i64 0, .int .i64 0, .int .i64 0, .bool false, .bool p.fresh, .str [], .str [], .cplx .f64 0 0, .cplx .f64 0 0, .int .i64 0, .str [], .str [], .str [], .bool false, .nils, encMembers ch, .nils, .cplx .f64 0 0, .cplx .f64 0 0, .int .i64 0, .nils, .nils]
def hpT (x : WR) (O : AV) (A : List BS) : Heap := hpD x.nb x.e x.g x.ns (opV x.op) (.sl 31 (3 + sft x.nb) 0 x.l.length 0) O x.c (encPlan x.p) wk0 (blkA x.l :: A)
def hpF (y : WR) : Heap := hpD y.nb y.e y.g y.ns (opV y.op) (.sl 31 (3 + sft y.nb) 0 0 0) (.sl 31 (4 + sft y.nb) 0 (y.l.length + 1) 0) y.c (encPlan y.p) wk0 [clrA y.l, .seq true 31 (y.l.length + 1) (canF idC [] (outW y))]
def tailE (x : WR) : Option (AV × Heap) :=
 bif decide ((x.p.chain.length : Int) = 0) then gCH dWR pWR eWR [.ptr 0 0 0, .int .i64 0] (hpT x .nils []) fun y => some (.bool true, hpF y)
 else bif decide (0 < (x.p.chain.length : Int)) then gMs x.p.chain fun ch => gCH dWR pWR eWR [.ptr 0 0 0, .int .i64 0] (hpT x (.sl 31 (4 + sft x.nb) 0 1 1) [.arr true 31 [actM x.p ch]]) fun y => some (.bool true, hpF y) else none
def min1 (l : List Member) : Int := bif decide ((l.length : Int) < 1) then (l.length : Int) else 1
def freshE (s : ES) (g gen : Int) (up : List Member) : Option (AV × Heap) :=
 gChn up s.c.chain fun y => bif decide (0 <= min1 (chainP [] y.1.2 y.2)) && decide (min1 (chainP [] y.1.2 y.2) <= ((chainP [] y.1.2 y.2).length : Int)) then
  gC (dL decMember) shortL eMems [.tr 2 (min1 (chainP [] y.1.2 y.2)).toNat fun i => bif i.blt (min1 (chainP [] y.1.2 y.2)).toNat then encMember ((chainP [] y.1.2 y.2).getD (0 + i) default) else encMember ((chainP [] y.1.2 y.2).getD (chainP [] y.1.2 y.2).length default)] fun v =>
  tailE (wrE s g { s.p with phase := 3, gen := gen, fresh := true, base := s.p.epoch, chain := chainP [] y.1.2 y.2, valid := v }) else none
def kn12 : List Known := [kMsgs, kCloneAlive, kCloneMember, kMay, kBest, kUpM, kLead, kChain, kWas]
theorem kn12_ok : ∀ k ∈ kn12, k.Ok PG := ak kMsgs_ok (ak kCloneAlive_ok (ak kCloneMember_ok (ak kMay_ok (ak kBest_ok (ak kUpM_ok (ak kLead_ok (ak kChain_ok (ak kWas_ok ank))))))))
theorem end_eq (s : ES) (hb : s.nb = false) : callH (envHd kn12) 12 F_coord_desk_end [.ptr 0 0 0, .int .i64 0] (hpE s) =
 bif (s.l.length.beq 0 || s.l.length.ble s.l.length) && true && true then gMayE s fun y0 => bif !mayP y0 then some (.bool false, hpE s) else
  gUpM s.e s.g s.ns s.c fun y1 => gBeE s fun y2 => bif (bestP y2.1 y2.2).isSome then
   bif !s.p.fresh then gLd s.keep (fstB (bestP y2.1 y2.2)) fun y3 => gCh (leadP y3.1 y3.2) (upP y1.ns y1.c.susp) s.c.chain fun y4 => gMs s.keep fun y5 => tailE (wrE s s.g { s.p with phase := 3, chain := chainP y4.1.1 y4.1.2 y4.2, valid := y5 })
   else bif s.p.fresh then bif decide (0 < (s.p.chain.length : Int)) then freshE s (IntKind.i64.wrap (s.g + 1)) (IntKind.i64.wrap (s.g + 1)) (upP y1.ns y1.c.susp) else freshE s s.g s.p.gen (upP y1.ns y1.c.susp)
    else freshE s s.g s.p.gen (upP y1.ns y1.c.susp)
  else bif s.p.fresh then bif decide (0 < (s.p.chain.length : Int)) then freshE s (IntKind.i64.wrap (s.g + 1)) (IntKind.i64.wrap (s.g + 1)) (upP y1.ns y1.c.susp) else freshE s s.g s.p.gen (upP y1.ns y1.c.susp)
   else freshE s s.g s.p.gen (upP y1.ns y1.c.susp)
 else none := by
 obtain ⟨e, g, p, ns, nb, op, keep, fz, fe, he, l, c⟩ := s
 cases hb
 cases op <;> cases fz <;> kernel_rfl
theorem end_eqT (s : ES) (hb : s.nb = true) : callH (envHd kn12) 12 F_coord_desk_end [.ptr 0 0 0, .int .i64 0] (hpE s) =
 bif ((s.ns.length.beq 0 || s.ns.length.ble s.ns.length) && ((s.l.length.beq 0 || s.l.length.ble s.l.length) && true)) && true then gMayE s fun y0 => bif !mayP y0 then some (.bool false, hpE s) else
  bif ((s.ns.length.beq 0 || s.ns.length.ble s.ns.length) && true) && true then gUpM s.e s.g s.ns s.c fun y1 => gBeE s fun y2 => bif (bestP y2.1 y2.2).isSome then
   bif !s.p.fresh then gLd s.keep (fstB (bestP y2.1 y2.2)) fun y3 => gCh (leadP y3.1 y3.2) (upP y1.ns y1.c.susp) s.c.chain fun y4 => gMs s.keep fun y5 => tailE (wrE s s.g { s.p with phase := 3, chain := chainP y4.1.1 y4.1.2 y4.2, valid := y5 })
   else bif s.p.fresh then bif decide (0 < (s.p.chain.length : Int)) then freshE s (IntKind.i64.wrap (s.g + 1)) (IntKind.i64.wrap (s.g + 1)) (upP y1.ns y1.c.susp) else freshE s s.g s.p.gen (upP y1.ns y1.c.susp)
    else freshE s s.g s.p.gen (upP y1.ns y1.c.susp)
  else bif s.p.fresh then bif decide (0 < (s.p.chain.length : Int)) then freshE s (IntKind.i64.wrap (s.g + 1)) (IntKind.i64.wrap (s.g + 1)) (upP y1.ns y1.c.susp) else freshE s s.g s.p.gen (upP y1.ns y1.c.susp)
   else freshE s s.g s.p.gen (upP y1.ns y1.c.susp)
 else none else none := by
 obtain ⟨e, g, p, ns, nb, op, keep, fz, fe, he, l, c⟩ := s
 cases hb
 cases op <;> cases fz <;> kernel_rfl
def aqV (b : Bool) : AV := bif b then .trl 31 [] else .nils
def hpE0 (s : ES) (b : Bool) : Heap := hpD s.nb s.e s.g s.ns (opV s.op) (aqV b) .nils s.c (encPlan s.p) (wkA s) []
def gMay0 {R : Type} (s : ES) (b : Bool) (K : DS -> Option R) : Option R := gC dMy pDS eMy [.tp (dsk s.e s.g (.trl 8 [encPlan s.p]) (encAlives s.ns) (.trl 4 [wkA s]) (opV s.op) (aqV b) s.c .nils) 0, .int .i64 0] K
def hpT0 (x : WR) (b : Bool) (O : AV) (A : List BS) : Heap := hpD x.nb x.e x.g x.ns (opV x.op) (aqV b) O x.c (encPlan x.p) wk0 A
def tailN (x : WR) (b : Bool) : Option (AV × Heap) :=
 bif decide ((x.p.chain.length : Int) = 0) then some (.bool true, hpT0 x b .nils [])
 else bif decide (0 < (x.p.chain.length : Int)) then gMs x.p.chain fun ch => some (.bool true, hpT0 x b (.sl 31 (3 + sft x.nb) 0 1 1) [.arr true 31 [actM x.p ch]]) else none
def freshN (s : ES) (b : Bool) (g gen : Int) (up : List Member) : Option (AV × Heap) :=
 gChn up s.c.chain fun y => bif decide (0 <= min1 (chainP [] y.1.2 y.2)) && decide (min1 (chainP [] y.1.2 y.2) <= ((chainP [] y.1.2 y.2).length : Int)) then
  gC (dL decMember) shortL eMems [.tr 2 (min1 (chainP [] y.1.2 y.2)).toNat fun i => bif i.blt (min1 (chainP [] y.1.2 y.2)).toNat then encMember ((chainP [] y.1.2 y.2).getD (0 + i) default) else encMember ((chainP [] y.1.2 y.2).getD (chainP [] y.1.2 y.2).length default)] fun v =>
  tailN (wrE s g { s.p with phase := 3, gen := gen, fresh := true, base := s.p.epoch, chain := chainP [] y.1.2 y.2, valid := v }) b else none
def kn14 : List Known := [kMsgs, kCloneAlive, kCloneMember, kMay, kBest, kUpM, kLead, kChain]
theorem kn14_ok : ∀ k ∈ kn14, k.Ok PG := ak kMsgs_ok (ak kCloneAlive_ok (ak kCloneMember_ok (ak kMay_ok (ak kBest_ok (ak kUpM_ok (ak kLead_ok (ak kChain_ok ank)))))))
theorem end0_f (s : ES) (b : Bool) (hb : s.nb = false) : callH (envHd kn14) 12 F_coord_desk_end [.ptr 0 0 0, .int .i64 0] (hpE0 s b) =
 gMay0 s b fun y0 => bif !mayP y0 then some (.bool false, hpE0 s b) else
  gUpM s.e s.g s.ns s.c fun y1 => gBeE s fun y2 => bif (bestP y2.1 y2.2).isSome then
   bif !s.p.fresh then gLd s.keep (fstB (bestP y2.1 y2.2)) fun y3 => gCh (leadP y3.1 y3.2) (upP y1.ns y1.c.susp) s.c.chain fun y4 => gMs s.keep fun y5 => tailN (wrE s s.g { s.p with phase := 3, chain := chainP y4.1.1 y4.1.2 y4.2, valid := y5 }) b
   else bif s.p.fresh then bif decide (0 < (s.p.chain.length : Int)) then freshN s b (IntKind.i64.wrap (s.g + 1)) (IntKind.i64.wrap (s.g + 1)) (upP y1.ns y1.c.susp) else freshN s b s.g s.p.gen (upP y1.ns y1.c.susp)
    else freshN s b s.g s.p.gen (upP y1.ns y1.c.susp)
  else bif s.p.fresh then bif decide (0 < (s.p.chain.length : Int)) then freshN s b (IntKind.i64.wrap (s.g + 1)) (IntKind.i64.wrap (s.g + 1)) (upP y1.ns y1.c.susp) else freshN s b s.g s.p.gen (upP y1.ns y1.c.susp)
   else freshN s b s.g s.p.gen (upP y1.ns y1.c.susp) := by
 obtain ⟨e, g, p, ns, nb, op, keep, fz, fe, he, l, c⟩ := s
 cases hb
 cases b <;> cases op <;> cases fz <;> kernel_rfl
theorem end0_t (s : ES) (b : Bool) (hb : s.nb = true) : callH (envHd kn14) 12 F_coord_desk_end [.ptr 0 0 0, .int .i64 0] (hpE0 s b) =
 bif ((s.ns.length.beq 0 || s.ns.length.ble s.ns.length) && true) && true then gMay0 s b fun y0 => bif !mayP y0 then some (.bool false, hpE0 s b) else
  bif ((s.ns.length.beq 0 || s.ns.length.ble s.ns.length) && true) && true then gUpM s.e s.g s.ns s.c fun y1 => gBeE s fun y2 => bif (bestP y2.1 y2.2).isSome then
   bif !s.p.fresh then gLd s.keep (fstB (bestP y2.1 y2.2)) fun y3 => gCh (leadP y3.1 y3.2) (upP y1.ns y1.c.susp) s.c.chain fun y4 => gMs s.keep fun y5 => tailN (wrE s s.g { s.p with phase := 3, chain := chainP y4.1.1 y4.1.2 y4.2, valid := y5 }) b
   else bif s.p.fresh then bif decide (0 < (s.p.chain.length : Int)) then freshN s b (IntKind.i64.wrap (s.g + 1)) (IntKind.i64.wrap (s.g + 1)) (upP y1.ns y1.c.susp) else freshN s b s.g s.p.gen (upP y1.ns y1.c.susp)
    else freshN s b s.g s.p.gen (upP y1.ns y1.c.susp)
  else bif s.p.fresh then bif decide (0 < (s.p.chain.length : Int)) then freshN s b (IntKind.i64.wrap (s.g + 1)) (IntKind.i64.wrap (s.g + 1)) (upP y1.ns y1.c.susp) else freshN s b s.g s.p.gen (upP y1.ns y1.c.susp)
   else freshN s b s.g s.p.gen (upP y1.ns y1.c.susp)
 else none else none := by
 obtain ⟨e, g, p, ns, nb, op, keep, fz, fe, he, l, c⟩ := s
 cases hb
 cases b <;> cases op <;> cases fz <;> kernel_rfl
theorem LN.sub {X Y : Type} {sz : Nat} {e : X -> List AV} {z : X} {e' : Y -> List AV} {z' : Y} {g : X -> Y} (h : ∀ x, SubC (e x) (e' (g x))) (x : LN X) : SubV (x.av sz e z) (encL sz e' z' (x.l.map g)) := by
 cases x with
 | nil => exact .nils
 | emp => exact SubV.trl_encL (e := e') (z := z') []
 | ne a t =>
  show SubV (encL sz e z (a :: t)) (encL sz e' z' ((a :: t).map g))
  have hl : ((a :: t).map g).length = (a :: t).length := by simp
  unfold encL
  rw [hl]
  refine SubV.trs fun i hi => ?_
  have e1 : ((a :: t).map g).getD i z' = g ((a :: t).getD i z) := by
   simp only [List.getD, List.getElem?_map, List.getElem?_eq_getElem hi, Option.map_some, Option.getD_some]
  rw [e1]
  exact h _
theorem LN.dec {X Y : Type} {sz : Nat} {e : X -> List AV} {z : X} {d : List AV -> Y} (x : LN X) : decL d (x.av sz e z) = x.l.map fun y => d (e y) := by
 cases x with
 | nil => rfl
 | emp => rfl
 | ne a t =>
  show (List.range (a :: t).length).map (fun i => d (e ((a :: t).getD i z))) = (a :: t).map fun y => d (e y)
  refine List.ext_getElem (by simp) fun i h1 h2 => ?_
  have hi : i < (a :: t).length := by simpa using h2
  simp only [List.getElem_map, List.getElem_range, List.getD, List.getElem?_eq_getElem hi, Option.getD_some]
def opnM (o : Opn) : Msg := decMsg (encOpn o)
def askM (a : Ask) : Msg := decMsg (encAsk a)
theorem opnM_sub (o : Opn) : SubC (encOpn o) (encMsg (opnM o)) := subC_all (by repeat' (first | exact trivial | exact nilsL | exact SubV.refl _ | refine ⟨?_, ?_⟩))
theorem askM_sub (a : Ask) : SubC (encAsk a) (encMsg (askM a)) := subC_all (by repeat' (first | exact trivial | exact nilsL | exact SubV.refl _ | refine ⟨?_, ?_⟩))
def opMs (x : LN Opn) : List Msg := x.l.map opnM
def akMs (x : LN Ask) : List Msg := x.l.map askM
def akV (x : LN Ask) : AV := x.av 31 encAsk (0, 0)
theorem opV_sub (x : LN Opn) : SubV (opV x) (encMsgs (opMs x)) := LN.sub opnM_sub x
theorem akV_sub (x : LN Ask) : SubV (akV x) (encMsgs (akMs x)) := LN.sub askM_sub x
theorem fzV_sub (x : LN Msg) : SubV (fzV x) (encMsgs x.l) := by
 have := LN.sub (sz := 31) (e := encMsg) (z := default) (e' := encMsg) (z' := default) (g := id) (fun x => .refl _) x
 rwa [List.map_id] at this
theorem opV_dec (x : LN Opn) : decL decMsg (opV x) = opMs x := LN.dec x
theorem akV_dec (x : LN Ask) : decL decMsg (akV x) = akMs x := LN.dec x
theorem fzV_dec (x : LN Msg) : decL decMsg (fzV x) = x.l := by
 have := LN.dec (sz := 31) (e := encMsg) (z := default) (d := decMsg) x
 simp only [dec_encMsg, List.map_id'] at this
 exact this
theorem wkA_dec (s : ES) : decWork (wkA s) = wkE s := by
 show (⟨s.fe, decL decMember (encMembers s.keep), decL decMsg (fzV s.fz), s.he⟩ : Work) = _
 rw [decMembers, fzV_dec]; rfl
theorem wkA_sub (s : ES) : SubC (wkA s) (encWork (wkE s)) := .cons (.refl _) (.cons (.refl _) (.cons (fzV_sub _) (.cons (.refl _) .nil)))
def dsE (s : ES) (aq : List Msg) : DS := ⟨⟨s.e, s.g, s.p, s.ns, wkE s, opMs s.op, aq⟩, s.c, .nils⟩
theorem gMay_of {R : Type} {s : ES} {A : AV} {aq : List Msg} {K : DS -> Option R} (h1 : SubV A (encMsgs aq)) (h2 : decL decMsg A = aq) (h : pDS (dsE s aq)) :
  gC dMy pDS eMy [.tp (dsk s.e s.g (.trl 8 [encPlan s.p]) (encAlives s.ns) (.trl 4 [wkA s]) (opV s.op) A s.c .nils) 0, .int .i64 0] K = K (dsE s aq) := by
 refine gC_eq (dsE s aq) ?_ h ?_
 ·show (⟨⟨s.e, s.g, ([decPlan (encPlan s.p)] : List Plan).headD default, decL decAlive (encAlives s.ns), ([decWork (wkA s)] : List Work).headD default, decL decMsg (opV s.op), decL decMsg A⟩, ⟨s.c.chain, s.c.susp, s.c.sess⟩, .nils⟩ : DS) = _
  rw [dec_encPlan, decAlives, wkA_dec, opV_dec, h2]; rfl
 ·refine .cons (SubV.tp ?_) (.cons (.refl _) .nil)
  have hp : SubV (.trl 8 [encPlan s.p]) (encPlans [s.p]) := SubV.trl_encL (e := encPlan) (z := default) [s.p]
  have hw : SubV (.trl 4 [wkA s]) (encWorks [wkE s]) := by
   refine SubV.trans (SubC.trl (b := [encWork (wkE s)]) rfl fun i hi => ?_) (SubV.trl_encL (e := encWork) (z := default) [wkE s])
   have : i = 0 := by simpa using hi
   subst this
   exact wkA_sub s
  exact .cons (.refl _) (.cons (.refl _) (.cons hp (.cons (.refl _) (.cons hw (.cons (opV_sub _) (.cons h1 (.refl _)))))))
theorem gMayE_of {R : Type} {s : ES} {K : DS -> Option R} (h : pDS (dsE s (s.l.map askM))) : gMayE s K = K (dsE s (s.l.map askM)) := by
 refine gMay_of ?_ ?_ h
 ·have := LN.sub (sz := 31) (z := (0, 0)) (z' := default) askM_sub (match s.l with | [] => .nil | a :: t => .ne a t)
  revert this
  cases s.l with
  | nil => intro _; exact SubV.trs fun i hi => absurd hi (Nat.not_lt_zero i)
  | cons a t => exact id
 ·cases hl : s.l with
  | nil => rfl
  | cons a t => exact LN.dec (sz := 31) (e := encAsk) (z := (0, 0)) (d := decMsg) (.ne a t)
theorem gUpM_of {R : Type} {e g : Int} {ns : List Alive} {c : CConf} {K : UX -> Option R} (h : ns.length <= 100000) : gUpM e g ns c K = K ⟨e, g, ns, c⟩ := by
 unfold gUpM
 exact gC_eq (⟨e, g, ns, c⟩ : UX) (dUX_eq ⟨e, g, ns, c⟩) h (.refl _)
theorem gBeE_of {R : Type} {s : ES} {K : WI -> Option R} (h : pWI (wkE s, s.p.base)) : gBeE s K = K (wkE s, s.p.base) := by
 refine gC_eq (wkE s, s.p.base) ?_ h (.cons (.agg (wkA_sub s)) (.cons (.refl _) .nil))
 show (decWork (wkA s), s.p.base) = _
 rw [wkA_dec]
theorem gLd_of {R : Type} {l : List Member} {m : Member} {K : LM -> Option R} (h : pLd (l, m)) : gLd l m K = K (l, m) := gC_eq (l, m) (by show (decL decMember (encMembers l), decMember (encMember m)) = _; rw [decMembers, dec_encMember]) h (.refl _)
theorem gCh_of {R : Type} {k up : List Member} {c : Int} {K : KUC -> Option R} (h : pKUC ((k, up), c)) : gCh k up c K = K ((k, up), c) := gC_eq ((k, up), c) (by show ((decL decMember (encMembers k), decL decMember (encMembers up)), c) = _; rw [decMembers, decMembers]) h (.refl _)
theorem gChn_of {R : Type} {up : List Member} {c : Int} {K : KUC -> Option R} (h : up.length <= 100000) : gChn up c K = K (([], up), c) := gC_eq (([], up), c) (by show ((([] : List Member), decL decMember (encMembers up)), c) = _; rw [decMembers]) h (.cons (.refl _) (.cons (.refl _) (.cons (.refl _) (.cons (.refl _) .nil))))
theorem chainL_len (keep : List Member) (c : Int) : ∀ (up out : List Member) (n : Nat), out.length <= n -> c <= (n : Int) -> (chainL keep c up out).length <= n
 | [], out, n, h, _ => h
 | m :: r, out, n, h, hc => by
  unfold chainL
  cases hd : decide (c <= (out.length : Int)) with
  | true => exact h
  | false =>
   have hd := of_decide_eq_false hd
   rw [cond_false]
   cases hasNode keep m.node with
   | true => exact chainL_len keep c r out n h hc
   | false => exact chainL_len keep c r (out ++ [m]) n (by simp; omega) hc
theorem chainL_ne (keep : List Member) (c : Int) : ∀ (up out : List Member), out ≠ [] -> chainL keep c up out ≠ []
 | [], out, h => h
 | m :: r, out, h => by
  unfold chainL
  cases decide (c <= (out.length : Int)) with
  | true => exact h
  | false =>
   rw [cond_false]
   cases hasNode keep m.node with
   | true => exact chainL_ne keep c r out h
   | false => exact chainL_ne keep c r (out ++ [m]) (by simp)
theorem chainP_ne {keep up : List Member} {c : Int} (h : keep ≠ []) : chainP keep up c ≠ [] := chainL_ne _ _ _ _ h
theorem chainP_up {up : List Member} {c : Int} (hc : 1 <= c) (h : 0 < up.length) : chainP [] up c ≠ [] := by
 match up, h with
 | m :: r, _ =>
  unfold chainP chainL
  rw [decide_eq_false (by simp; omega), cond_false]
  exact chainL_ne _ _ _ _ (by simp)
theorem dropM_len (m : Member) : ∀ l : List Member, (dropM m l).length <= l.length
 | [] => Nat.le_refl _
 | x :: r => by
  unfold dropM
  cases isM m x with
  | true => exact Nat.le_succ _
  | false => exact Nat.succ_le_succ (dropM_len m r)
theorem leadP_len (l : List Member) (m : Member) : (leadP l m).length <= l.length + 1 := by
 unfold leadP
 cases l.any (isM m) with
 | true => exact Nat.succ_le_succ (dropM_len m l)
 | false => exact Nat.le_succ _
theorem leadP_ne {l : List Member} (m : Member) (h : l ≠ []) : leadP l m ≠ [] := by
 unfold leadP
 cases l.any (isM m) with
 | true => exact fun e => by cases e
 | false => exact h
theorem best_ne {k : Work} {b : Int} (h : (bestP k b).isSome = true) : k.keep ≠ [] := fun e => by
 unfold bestP at h
 rw [e] at h
 cases h
def mayE (s : ES) : Bool := mayP (dsE s (s.l.map askM))
def freshP (s : ES) (g gen : Int) : Int × Plan :=
 (g, { s.p with phase := 3, gen := gen, fresh := true, base := s.p.epoch, chain := chainP [] (upP s.ns s.c.susp) s.c.chain, valid := (chainP [] (upP s.ns s.c.susp) s.c.chain).take 1 })
def endP (s : ES) : Int × Plan :=
 bif (bestP (wkE s) s.p.base).isSome && !s.p.fresh then (s.g, { s.p with phase := 3, chain := chainP (leadP s.keep (fstB (bestP (wkE s) s.p.base))) (upP s.ns s.c.susp) s.c.chain, valid := s.keep })
 else bif s.p.fresh && decide (0 < s.p.chain.length) then freshP s (IntKind.i64.wrap (s.g + 1)) (IntKind.i64.wrap (s.g + 1)) else freshP s s.g s.p.gen
structure EOk (s : ES) : Prop where
 ch : s.p.chain.length <= 1000
 ns : s.ns.length <= 1000
 keep : s.keep.length <= 3
 fz : s.fz.l.length <= 1000
 ver : ∀ f ∈ s.fz.l, VNum f.ver
 c1 : 1 <= s.c.chain
 c2 : s.c.chain <= 1000
 l : s.l.length <= 1000
theorem EOk.wi {s : ES} (h : EOk s) : pWI (wkE s, s.p.base) := ⟨Nat.le_trans h.fz (by omega), Nat.le_trans h.keep (by omega), h.ver⟩
theorem EOk.ds {s : ES} (h : EOk s) (aq : List Msg) : pDS (dsE s aq) := ⟨Nat.le_trans h.ch (by omega), Nat.le_trans h.ns (by omega), h.wi⟩
theorem EOk.up {s : ES} (h : EOk s) : (upP s.ns s.c.susp).length <= 1000 := Nat.le_trans (List.length_filterMap_le _ _) h.ns
theorem EOk.fresh_len {s : ES} (h : EOk s) : (chainP [] (upP s.ns s.c.susp) s.c.chain).length <= 1000 := chainL_len _ _ _ _ _ (by simp) (by have := h.c2; omega)
theorem may_up {s : ES} (h : mayE s = true) (hb : (bestP (wkE s) s.p.base).isSome = false \/ s.p.fresh = true) : 0 < (upP s.ns s.c.susp).length := by
 unfold mayE mayP at h
 change (bif !decide (s.p.phase = 1) then false else bif !s.fe then false else
  bif s.p.fresh then bif decide (0 < s.p.chain.length) then bif !s.p.chain.any (fun m => overP (wkE s) s.ns m) then false else decide (0 < (upP s.ns s.c.susp).length) else decide (0 < (upP s.ns s.c.susp).length)
  else bif s.keep.all (fun m => (frozenP (wkE s) m).2) then bif decide (0 < s.keep.length) then bif (bestP (wkE s) s.p.base).isSome then true else decide (0 < (upP s.ns s.c.susp).length) else false else false) = true at h
 cases h1 : decide (s.p.phase = 1) <;> rw [h1] at h <;> simp only [Bool.not_true, Bool.not_false, cond_true, cond_false] at h
 ·cases h
 cases h2 : s.fe <;> rw [h2] at h <;> simp only [Bool.not_true, Bool.not_false, cond_true, cond_false] at h
 ·cases h
 cases h3 : s.p.fresh <;> rw [h3] at h hb <;> simp only [cond_true, cond_false] at h
 ·rcases hb with hb | hb
  ·rw [hb] at h
   cases h4 : s.keep.all (fun m => (frozenP (wkE s) m).2) <;> rw [h4] at h <;> simp only [cond_true, cond_false] at h
   ·cases h
   cases h5 : decide (0 < s.keep.length) <;> rw [h5] at h <;> simp only [cond_true, cond_false] at h
   ·cases h
   exact of_decide_eq_true h
  ·cases hb
 ·cases h4 : decide (0 < s.p.chain.length) <;> rw [h4] at h <;> simp only [cond_true, cond_false] at h
  ·exact of_decide_eq_true h
  ·cases h5 : s.p.chain.any (fun m => overP (wkE s) s.ns m) <;> rw [h5] at h <;> simp only [Bool.not_true, Bool.not_false, cond_true, cond_false] at h
   ·cases h
   ·exact of_decide_eq_true h
def freshG (T : WR -> Option (AV × Heap)) (s : ES) (g gen : Int) (up : List Member) : Option (AV × Heap) :=
 gChn up s.c.chain fun y => bif decide (0 <= min1 (chainP [] y.1.2 y.2)) && decide (min1 (chainP [] y.1.2 y.2) <= ((chainP [] y.1.2 y.2).length : Int)) then
  gC (dL decMember) shortL eMems [.tr 2 (min1 (chainP [] y.1.2 y.2)).toNat fun i => bif i.blt (min1 (chainP [] y.1.2 y.2)).toNat then encMember ((chainP [] y.1.2 y.2).getD (0 + i) default) else encMember ((chainP [] y.1.2 y.2).getD (chainP [] y.1.2 y.2).length default)] fun v =>
  T (wrE s g { s.p with phase := 3, gen := gen, fresh := true, base := s.p.epoch, chain := chainP [] y.1.2 y.2, valid := v }) else none
theorem min1_eq {l : List Member} (h : l ≠ []) : min1 l = 1 := by
 have : 0 < l.length := List.length_pos_iff.2 h
 unfold min1
 rw [decide_eq_false (by omega), cond_false]
theorem take1_tr {l : List Member} (h : l ≠ []) : SubC [.tr 2 (min1 l).toNat fun i => bif i.blt (min1 l).toNat then encMember (l.getD (0 + i) default) else encMember (l.getD l.length default)] (eMems (l.take 1)) := by
 rw [min1_eq h]
 match l, h with
 | a :: r, _ =>
  refine .cons (SubV.trs fun i hi => ?_) .nil
  have : i = 0 := by
   have : i < 1 := hi
   omega
  subst this
  exact .refl _
theorem take1_dec {l : List Member} (h : l ≠ []) : dL decMember [.tr 2 (min1 l).toNat fun i => bif i.blt (min1 l).toNat then encMember (l.getD (0 + i) default) else encMember (l.getD l.length default)] = l.take 1 := by
 rw [min1_eq h]
 match l, h with
 | a :: r, _ =>
  show [decMember (encMember a)] = _
  rw [dec_encMember]; rfl
theorem freshG_eq {T : WR -> Option (AV × Heap)} {s : ES} {g gen : Int} (h : EOk s) (hu : 0 < (upP s.ns s.c.susp).length) : freshG T s g gen (upP s.ns s.c.susp) = T (wrE s (freshP s g gen).1 (freshP s g gen).2) := by
 have hne : chainP [] (upP s.ns s.c.susp) s.c.chain ≠ [] := chainP_up h.c1 hu
 have hlen : 0 < (chainP [] (upP s.ns s.c.susp) s.c.chain).length := List.length_pos_iff.2 hne
 unfold freshG
 rw [gChn_of (Nat.le_trans h.up (by omega))]
 dsimp only
 have hm := min1_eq hne
 have e1 : decide (0 <= min1 (chainP [] (upP s.ns s.c.susp) s.c.chain)) = true := decide_eq_true (by omega)
 have e2 : decide (min1 (chainP [] (upP s.ns s.c.susp) s.c.chain) <= ((chainP [] (upP s.ns s.c.susp) s.c.chain).length : Int)) = true := decide_eq_true (by omega)
 rw [e1, e2, Bool.and_true, cond_true, gC_eq _ (take1_dec hne) ?_ (take1_tr hne)]
 ·rfl
 ·show shortL _
  unfold shortL LB
  rw [List.length_take]; omega
def coreG (T : WR -> Option (AV × Heap)) (s : ES) : Option (AV × Heap) :=
 gBeE s fun y2 => bif (bestP y2.1 y2.2).isSome then
   bif !s.p.fresh then gLd s.keep (fstB (bestP y2.1 y2.2)) fun y3 => gCh (leadP y3.1 y3.2) (upP s.ns s.c.susp) s.c.chain fun y4 => gMs s.keep fun y5 => T (wrE s s.g { s.p with phase := 3, chain := chainP y4.1.1 y4.1.2 y4.2, valid := y5 })
   else bif s.p.fresh then bif decide (0 < (s.p.chain.length : Int)) then freshG T s (IntKind.i64.wrap (s.g + 1)) (IntKind.i64.wrap (s.g + 1)) (upP s.ns s.c.susp) else freshG T s s.g s.p.gen (upP s.ns s.c.susp)
    else freshG T s s.g s.p.gen (upP s.ns s.c.susp)
  else bif s.p.fresh then bif decide (0 < (s.p.chain.length : Int)) then freshG T s (IntKind.i64.wrap (s.g + 1)) (IntKind.i64.wrap (s.g + 1)) (upP s.ns s.c.susp) else freshG T s s.g s.p.gen (upP s.ns s.c.susp)
   else freshG T s s.g s.p.gen (upP s.ns s.c.susp)
theorem coreG_eq {T : WR -> Option (AV × Heap)} {s : ES} (h : EOk s) (hm : mayE s = true) : coreG T s = T (wrE s (endP s).1 (endP s).2) := by
 have ec : decide (0 < (s.p.chain.length : Int)) = decide (0 < s.p.chain.length) := decide_eq_decide.2 (by omega)
 have hF : ∀ hu : 0 < (upP s.ns s.c.susp).length, (bif s.p.fresh then bif decide (0 < (s.p.chain.length : Int)) then freshG T s (IntKind.i64.wrap (s.g + 1)) (IntKind.i64.wrap (s.g + 1)) (upP s.ns s.c.susp) else freshG T s s.g s.p.gen (upP s.ns s.c.susp)
   else freshG T s s.g s.p.gen (upP s.ns s.c.susp)) = T (wrE s (bif s.p.fresh && decide (0 < s.p.chain.length) then freshP s (IntKind.i64.wrap (s.g + 1)) (IntKind.i64.wrap (s.g + 1)) else freshP s s.g s.p.gen).1 (bif s.p.fresh && decide (0 < s.p.chain.length) then freshP s (IntKind.i64.wrap (s.g + 1)) (IntKind.i64.wrap (s.g + 1)) else freshP s s.g s.p.gen).2) := by
  intro hu
  rw [ec, freshG_eq h hu, freshG_eq h hu]
  cases s.p.fresh with
  | false => rfl
  | true => cases decide (0 < s.p.chain.length) <;> rfl
 unfold coreG
 rw [gBeE_of h.wi]
 dsimp only
 unfold endP
 cases hb : (bestP (wkE s) s.p.base).isSome with
 | false => rw [cond_false, Bool.false_and, cond_false]; exact hF (may_up hm (.inl hb))
 | true =>
  rw [cond_true, Bool.true_and]
  cases hf : s.p.fresh with
  | true =>
   have := hF (may_up hm (.inr hf))
   rw [hf] at this
   exact this
  | false =>
   have hk : s.keep ≠ [] := best_ne (k := wkE s) hb
   have hll := leadP_len s.keep (fstB (bestP (wkE s) s.p.base))
   have hk3 := h.keep
   have hup := h.up
   rw [Bool.not_false, cond_true, cond_true, gLd_of ⟨h.keep, hk⟩]
   dsimp only
   have hp : pKUC ((leadP s.keep (fstB (bestP (wkE s) s.p.base)), upP s.ns s.c.susp), s.c.chain) := ⟨by show (leadP s.keep (fstB (bestP (wkE s) s.p.base))).length <= 100000; omega, by show (upP s.ns s.c.susp).length <= 100000; omega, leadP_ne _ hk⟩
   rw [gCh_of hp]
   dsimp only
   rw [gMs_eq _ (by unfold shortL LB; omega), hf]
theorem endP_chain {s : ES} (h : EOk s) (hm : mayE s = true) : (endP s).2.chain ≠ [] /\ (endP s).2.chain.length <= 1000 := by
 have hc := h.c2
 have hF : ∀ (hu : 0 < (upP s.ns s.c.susp).length) g gen, (freshP s g gen).2.chain ≠ [] /\ (freshP s g gen).2.chain.length <= 1000 := fun hu g gen => ⟨chainP_up h.c1 hu, h.fresh_len⟩
 unfold endP
 cases hb : (bestP (wkE s) s.p.base).isSome with
 | false =>
  have hu := may_up hm (.inl hb)
  rw [Bool.false_and, cond_false]
  cases s.p.fresh && decide (0 < s.p.chain.length) <;> exact hF hu _ _
 | true =>
  rw [Bool.true_and]
  cases hf : s.p.fresh with
  | true =>
   have hu := may_up hm (.inr hf)
   rw [Bool.not_true, cond_false, Bool.true_and]
   cases decide (0 < s.p.chain.length) <;> exact hF hu _ _
  | false =>
   have hk : s.keep ≠ [] := best_ne (k := wkE s) hb
   have hll := leadP_len s.keep (fstB (bestP (wkE s) s.p.base))
   have hk3 := h.keep
   exact ⟨chainP_ne (leadP_ne _ hk), chainL_len _ _ _ _ _ (by omega) (by omega)⟩
theorem conHdH {l : List Known} (h : ∀ k ∈ l, k.Ok PG) {n f : Nat} {args : List AV} {hp : Heap} {r : AV} {hp' : Heap} (e : callH (envHd l) n f args hp = some (r, hp')) : Contract PG f args hp r hp' /\ hp.length <= hp'.length := callH_ok (envHd_ok h) (codeOf_ok rfl) mixed e
theorem aqV_sub (b : Bool) : SubV (aqV b) (encMsgs []) := by
 cases b with
 | false => exact .nils
 | true => exact SubV.trl_encL (e := encMsg) (z := default) []
theorem aqV_dec (b : Bool) : decL decMsg (aqV b) = [] := by cases b <;> rfl
theorem gMay0_of {R : Type} {s : ES} {b : Bool} {K : DS -> Option R} (hl : s.l = []) (h : EOk s) : gMay0 s b K = K (dsE s (s.l.map askM)) := by
 rw [hl]
 exact gMay_of (aqV_sub b) (aqV_dec b) (h.ds _)
def hpEE (s : ES) (b : Bool) : Heap := match s.l with
 | [] => hpE0 s b
 | _ :: _ => hpE s
def outE (x : WR) (b : Bool) : Heap := match x.l with
 | [] => hpT0 x b (.sl 31 (3 + sft x.nb) 0 1 1) [.arr true 31 [actC x.p]]
 | _ :: _ => hpF x
theorem tailN_of {x : WR} {b : Bool} (hl : x.l = []) (hc : x.p.chain ≠ []) (hc2 : x.p.chain.length <= 1000) : tailN x b = some (.bool true, outE x b) := by
 have h0 : 0 < x.p.chain.length := List.length_pos_iff.2 hc
 unfold tailN outE
 rw [decide_eq_false (by omega), cond_false, decide_eq_true (by omega), cond_true, gMs_eq _ (by unfold shortL LB; omega), hl]
 rfl
theorem tailE_of {x : WR} {b : Bool} (hl : x.l ≠ []) (hl2 : x.l.length <= 1000) (hc : x.p.chain ≠ []) (hc2 : x.p.chain.length <= 1000) : tailE x = some (.bool true, outE x b) := by
 have h0 : 0 < x.p.chain.length := List.length_pos_iff.2 hc
 have hw : pWR x := ⟨by omega, hl⟩
 have eh : hpT x (.sl 31 (4 + sft x.nb) 0 1 1) [.arr true 31 [actM x.p x.p.chain]] = (eWR x).2 := by
  obtain ⟨e, g, p, ns, nb, op, l, c⟩ := x
  cases nb <;> rfl
 unfold tailE
 rw [decide_eq_false (by omega), cond_false, decide_eq_true (by omega), cond_true, gMs_eq _ (by unfold shortL LB; omega), eh]
 have e1 := gWas_eq (K := fun y => some (AV.bool true, hpF y)) hw
 unfold gWas at e1
 refine Eq.trans e1 ?_
 unfold outE
 cases hx : x.l with
 | nil => exact absurd hx hl
 | cons a t => rfl
def oEnd (s : ES) (b : Bool) : AV × Heap := (.bool (mayE s), bif mayE s then outE (wrE s (endP s).1 (endP s).2) b else hpEE s b)
theorem core_end {T : WR -> Option (AV × Heap)} {s : ES} {b : Bool} (h : EOk s) (hT : ∀ g p, p.chain ≠ [] -> p.chain.length <= 1000 -> T (wrE s g p) = some (.bool true, outE (wrE s g p) b)) :
  (bif !mayP (dsE s (s.l.map askM)) then some (.bool false, hpEE s b) else coreG T s) = some (oEnd s b) := by
 show (bif !mayE s then some (AV.bool false, hpEE s b) else coreG T s) = some (.bool (mayE s), bif mayE s then outE (wrE s (endP s).1 (endP s).2) b else hpEE s b)
 cases hm : mayE s with
 | false => rfl
 | true =>
  obtain ⟨h1, h2⟩ := endP_chain h hm
  rw [Bool.not_true, cond_false, coreG_eq h hm, hT _ _ h1 h2]
  rfl
theorem end_run {s : ES} {b : Bool} (h : EOk s) : ∃ kn, (∀ k ∈ kn, k.Ok PG) /\ callH (envHd kn) 12 F_coord_desk_end [.ptr 0 0 0, .int .i64 0] (hpEE s b) = some (oEnd s b) := by
 have hn := h.ns
 cases hl : s.l with
 | nil =>
  have eh : hpEE s b = hpE0 s b := by unfold hpEE; rw [hl]
  refine ⟨kn14, kn14_ok, ?_⟩
  have hc := core_end (T := fun x => tailN x b) (b := b) h fun g p h1 h2 => tailN_of (x := wrE s g p) hl h1 h2
  rw [eh] at hc ⊢
  cases hb : s.nb with
  | false =>
   rw [end0_f s b hb, gMay0_of hl h, gUpM_of (by omega)]
   exact hc
  | true =>
   rw [end0_t s b hb, orU, Bool.and_true, Bool.and_true, cond_true, gMay0_of hl h, cond_true, gUpM_of (by omega)]
   exact hc
 | cons a t =>
  have hne : s.l ≠ [] := by rw [hl]; exact List.cons_ne_nil _ _
  have eh : hpEE s b = hpE s := by unfold hpEE; rw [hl]
  refine ⟨kn12, kn12_ok, ?_⟩
  have hc := core_end (T := tailE) (b := b) h fun g p h1 h2 => tailE_of (x := wrE s g p) hne h.l h1 h2
  rw [eh] at hc ⊢
  cases hb : s.nb with
  | false =>
   rw [end_eq s hb, orU, Bool.and_true, Bool.and_true, cond_true, gMayE_of (h.ds _), gUpM_of (by omega)]
   exact hc
  | true =>
   rw [end_eqT s hb, orU, orU, Bool.and_true, Bool.and_true, Bool.and_true, cond_true, gMayE_of (h.ds _), cond_true, gUpM_of (by omega)]
   exact hc
theorem end_con {s : ES} {b : Bool} (h : EOk s) : Contract PG F_coord_desk_end [.ptr 0 0 0, .int .i64 0] (hpEE s b) (oEnd s b).1 (oEnd s b).2 /\ (hpEE s b).length <= (oEnd s b).2.length := by
 obtain ⟨kn, h1, h2⟩ := end_run (b := b) h
 exact conHdH h1 h2
structure EB where
 s : ES
 b : Bool
def eEn (x : EB) : List AV × Heap := ([.ptr 0 0 0, .int .i64 0], hpEE x.s x.b)
def isTrl : AV -> Bool
 | .trl .. => true
 | _ => false
def dEn (_ : List AV) (h : Heap) : EB :=
 let d := cell0 h 0
 let nb := isSl (d.getD 3 .undef)
 let w := cell0 h (2 + sft nb)
 ⟨⟨getI d 0, getI d 1, decPlan (cell0 h 1), bif nb then dNs h 2 else getL decAlive d 3, nb, dLN decOpn (d.getD 5 .undef), getL decMember w 1, dLN decMsg (w.getD 2 .undef), getB w 0, getB w 3, bif isSl (d.getD 6 .undef) then dAsks h (3 + sft nb) else [], ⟨getI d 8, getI d 19, getI d 18⟩⟩, isTrl (d.getD 6 .undef)⟩
def nrm (x : EB) : EB := ⟨x.s, match x.s.l with
 | [] => x.b
 | _ :: _ => false⟩
theorem dEn_eq (x : EB) : dEn (eEn x).1 (eEn x).2 = nrm x := by
 obtain ⟨⟨e, g, p, ns, nb, op, keep, fz, fe, he, l, c⟩, b⟩ := x
 have hA : (List.range l.length).map (fun i => decAsk (encAsk (l.getD i (0, 0)))) = l := decL_encL (e := encAsk) (d := decAsk) (z := (0, 0)) (sz := 31) (fun _ => rfl) l
 have hN : (List.range ns.length).map (fun i => decAlive (encAlive (ns.getD i default))) = ns := decL_encL (e := encAlive) (d := decAlive) (z := default) (sz := 3) dec_encAlive ns
 have hO : dLN decOpn (opV op) = op := dLN_eq (fun _ => rfl) op
 have hF : dLN decMsg (fzV fz) = fz := dLN_eq dec_encMsg fz
 have hK : decL decMember (encMembers keep) = keep := decMembers keep
 have hN2 : decL decAlive (encAlives ns) = ns := decAlives ns
 have hP := dec_encPlan p
 cases l with
 | nil =>
  cases nb <;> cases b
  ·show EB.mk ⟨e, g, decPlan (encPlan p), decL decAlive (encAlives ns), false, dLN decOpn (opV op), decL decMember (encMembers keep), dLN decMsg (fzV fz), fe, he, [], ⟨c.chain, c.susp, c.sess⟩⟩ false = _
   rw [hP, hN2, hO, hK, hF]; rfl
  ·show EB.mk ⟨e, g, decPlan (encPlan p), decL decAlive (encAlives ns), false, dLN decOpn (opV op), decL decMember (encMembers keep), dLN decMsg (fzV fz), fe, he, [], ⟨c.chain, c.susp, c.sess⟩⟩ true = _
   rw [hP, hN2, hO, hK, hF]; rfl
  ·show EB.mk ⟨e, g, decPlan (encPlan p), (List.range ns.length).map (fun i => decAlive (encAlive (ns.getD i default))), true, dLN decOpn (opV op), decL decMember (encMembers keep), dLN decMsg (fzV fz), fe, he, [], ⟨c.chain, c.susp, c.sess⟩⟩ false = _
   rw [hP, hN, hO, hK, hF]; rfl
  ·show EB.mk ⟨e, g, decPlan (encPlan p), (List.range ns.length).map (fun i => decAlive (encAlive (ns.getD i default))), true, dLN decOpn (opV op), decL decMember (encMembers keep), dLN decMsg (fzV fz), fe, he, [], ⟨c.chain, c.susp, c.sess⟩⟩ true = _
   rw [hP, hN, hO, hK, hF]; rfl
 | cons a t =>
  cases nb
  ·show EB.mk ⟨e, g, decPlan (encPlan p), decL decAlive (encAlives ns), false, dLN decOpn (opV op), decL decMember (encMembers keep), dLN decMsg (fzV fz), fe, he, (List.range (a :: t).length).map (fun i => decAsk (encAsk ((a :: t).getD i (0, 0)))), ⟨c.chain, c.susp, c.sess⟩⟩ false = _
   rw [hP, hN2, hO, hK, hF, hA]; rfl
  ·show EB.mk ⟨e, g, decPlan (encPlan p), (List.range ns.length).map (fun i => decAlive (encAlive (ns.getD i default))), true, dLN decOpn (opV op), decL decMember (encMembers keep), dLN decMsg (fzV fz), fe, he, (List.range (a :: t).length).map (fun i => decAsk (encAsk ((a :: t).getD i (0, 0)))), ⟨c.chain, c.susp, c.sess⟩⟩ false = _
   rw [hP, hN, hO, hK, hF, hA]; rfl
def pEn (x : EB) : Prop := EOk x.s
theorem eEn_nrm (x : EB) : eEn (nrm x) = eEn x := by
 obtain ⟨⟨e, g, p, ns, nb, op, keep, fz, fe, he, l, c⟩, b⟩ := x
 cases l <;> rfl
theorem msgsT_con (l : List Msg) (h : pMs l) : Contract PG F_twin_Msgs (eMs l) [] (encMsgs l) [] := by
 have h0 := msgs_con l h
 refine h0.snapped ?_
 show (bif (Nat.beq l.length 0 || Nat.ble (l.length + 0) l.length) then some (AV.tr 31 l.length fun i => encMsg (l.getD (i + 0) default)) else none) = _
 rw [show l.length + 0 = l.length from rfl, orU, cond_true]
 rfl
def kMsgT : Known := Known.onTr <| Known.byE (.specB F_twin_Msgs dAk pAk eAk (outBlk 31 encAsk (0, 0))) (.spec F_twin_Msgs (dL decMsg) pMs eMs encMsgs)
theorem kMsgT_ok : kMsgT.Ok PG := Known.onTr_ok (Known.byE_ok (Known.specB_ok asks_con) (Known.spec_ok msgsT_con) rfl)
def mdK (f : Nat) : Option Nat := bif Nat.beq f F_coord_desk_end then some 5 else mdH f
def envK2 (l : List Known) : Env := { envL [] mdK l with msk := fun f => bif Nat.beq f F_coord_Up then [2, 4, 5, 6] else [] }
theorem envK2_ok {l : List Known} (h : ∀ k ∈ l, k.Ok PG) : EnvOk PG (envK2 l) := ⟨tt_ok rfl, orc_ok h⟩
theorem conK2 {l : List Known} (h : ∀ k ∈ l, k.Ok PG) {n f : Nat} {xs : List AV} {r : AV} (e : callT (envK2 l) n f xs = some r) : Contract PG f xs [] r [] := callT_ok (envK2_ok h) (codeOf_ok rfl) mixed e
def akAV (l : List Ask) (b : Bool) : AV := match l with
 | [] => aqV b
 | _ :: _ => encAsks l
def buV (s : ES) (b : Bool) : List AV := [.int .i64 s.e, .int .i64 s.g, .trl 8 [encPlan s.p], encAlives s.ns, .trl 4 [wkA s], .nils, akAV s.l b]
def isEmpT : AV -> Bool
 | .trl 31 [] => true
 | _ => false
def kMsgE : Known := { f := F_twin_Msgs, ans := fun args hp => match isEmpT (args.getD 0 .undef) with
 | true => match args, hp with
  | [_], [] => some { X := Unit, g := true, a := (), r := fun _ => (.trl 31 [], []) }
  | _, _ => none
 | false => kMsgT.ans args hp }
theorem emp_con : Contract PG F_twin_Msgs [.trl 31 []] [] (.trl 31 []) [] := con0 (n := 20) (by kernel_rfl)
theorem isEmpT_eq {v : AV} (h : isEmpT v = true) : v = .trl 31 [] := by
 unfold isEmpT at h
 split at h
 ·rfl
 ·cases h
theorem kMsgE_ok : kMsgE.Ok PG := by
 intro args hp A e hg
 unfold kMsgE at e
 simp only [] at e
 cases hE : isEmpT (args.getD 0 .undef) with
 | true =>
  rw [hE] at e
  simp only [] at e
  split at e
  ·rename_i v
   cases e
   have : v = .trl 31 [] := isEmpT_eq hE
   subst this
   exact ⟨emp_con, Nat.le_refl _⟩
  ·cases e
 | false => rw [hE] at e; exact kMsgT_ok args hp A e hg
def clrB : BS -> BS
 | .seq _ _ n f => .seq true 31 n fun i => bif i.blt (0 + n) then zMsgC else f i
 | x => x
def outT (hp : Heap) (g : Int) (p : Plan) (l : List Ask) : Heap :=
 let d := cell0 hp 0
 let nb := isSl (d.getD 3 .undef)
 let D := fun (A O : AV) => BS.arr true 23 [[d.getD 0 .undef, .int .i64 g, d.getD 2 .undef, d.getD 3 .undef, d.getD 4 .undef, d.getD 5 .undef, A, .int .i64 3, d.getD 8 .undef, .int .i64 1, .int .i64 0, .int .i64 0, .int .i64 0, .int .i64 0, .int .i64 0, .int .i64 0, .int .i64 0, .int .i64 0, d.getD 18 .undef, d.getD 19 .undef, .int .i64 0, .int .i64 0, O]]
 match d.getD 6 .undef with
 | .sl _ _ _ n _ => bif nb then [D (.sl 31 4 0 0 0) (.sl 31 5 0 (n + 1) 0), .arr true 8 [encPlan p], hget hp 2, .arr true 4 [wk0], clrB (hget hp 4), .seq true 31 (n + 1) (canF idC [] (actC p :: l.map ansC))]
  else [D (.sl 31 3 0 0 0) (.sl 31 4 0 (n + 1) 0), .arr true 8 [encPlan p], .arr true 4 [wk0], clrB (hget hp 3), .seq true 31 (n + 1) (canF idC [] (actC p :: l.map ansC))]
 | A => bif nb then [D A (.sl 31 4 0 1 1), .arr true 8 [encPlan p], hget hp 2, .arr true 4 [wk0], .arr true 31 [actC p]]
  else [D A (.sl 31 3 0 1 1), .arr true 8 [encPlan p], .arr true 4 [wk0], .arr true 31 [actC p]]
theorem outT_eq (s : ES) (b : Bool) (g : Int) (p : Plan) : outT (eEn ⟨s, b⟩).2 g p s.l = outE (wrE s g p) b := by
 obtain ⟨e, g0, p0, ns, nb, op, keep, fz, fe, he, l, c⟩ := s
 cases l <;> cases nb <;> cases b <;> rfl
def GE (t : Bool) (args : List AV) (hp : Heap) : Prop := gPH dEn pEn eEn args hp /\ mayE (dEn args hp).s = t
def kEb (t : Bool) : Known := { f := F_coord_desk_end, ans := fun args hp => some { X := Unit, g := cd (GE t args hp), a := (), r := fun _ => bif t then (.bool true, outT hp (endP (dEn args hp).s).1 (endP (dEn args hp).s).2 (dEn args hp).s.l) else (.bool false, hp) } }
theorem kEb_ok (t : Bool) : (kEb t).Ok PG := by
 intro args hp A e hg
 cases e
 obtain ⟨⟨h1, h2⟩, h3⟩ := cd_iff.1 hg
 have := end_con (b := (dEn args hp).b) (s := (dEn args hp).s) h1
 have e1 : args = (eEn (dEn args hp)).1 := by rw [h2]
 have e2 : hp = (eEn (dEn args hp)).2 := by rw [h2]
 have e3 : hpEE (dEn args hp).s (dEn args hp).b = hp := by rw [h2] at e2; exact congrArg Prod.snd h2
 have e4 : ([.ptr 0 0 0, .int .i64 0] : List AV) = args := congrArg Prod.fst h2
 rw [e3, e4] at this
 cases t with
 | false =>
  have ho : oEnd (dEn args hp).s (dEn args hp).b = (.bool false, hp) := by
   unfold oEnd; rw [h3, e3]; rfl
  rw [ho] at this
  exact this
 | true =>
  have ho : oEnd (dEn args hp).s (dEn args hp).b = (.bool true, outT hp (endP (dEn args hp).s).1 (endP (dEn args hp).s).2 (dEn args hp).s.l) := by
   have hx := outT_eq (dEn args hp).s (dEn args hp).b (endP (dEn args hp).s).1 (endP (dEn args hp).s).2
   have e5 : (eEn ⟨(dEn args hp).s, (dEn args hp).b⟩).2 = hp := congrArg Prod.snd h2
   rw [e5] at hx
   unfold oEnd; rw [h3, hx]; rfl
  rw [ho] at this
  exact this
def gEb {R : Type} (t : Bool) (A : List AV) (H : Heap) (K : Option R) : Option R := gX (GE t A H) () fun _ => K
theorem gEb_eq {R : Type} {t : Bool} {x : EB} {K : Option R} (h : EOk x.s) (ht : mayE x.s = t) : gEb t (eEn x).1 (eEn x).2 K = K := by
 refine gX_of ⟨⟨?_, ?_⟩, ?_⟩
 ·rw [dEn_eq]; exact h
 ·rw [dEn_eq]; exact eEn_nrm x
 ·rw [dEn_eq]; exact ht
def kn21 (t : Bool) : List Known := [kMsgE, kCloneAlive, kCloneMember, kUpM, kEb t]
theorem kn21_ok (t : Bool) : ∀ k ∈ kn21 t, k.Ok PG := ak kMsgE_ok (ak kCloneAlive_ok (ak kCloneMember_ok (ak kUpM_ok (ak (kEb_ok t) ank))))
def gAls {R : Type} (l : List Alive) (k : List Alive -> Option R) : Option R := gC (dL decAlive) shortL eAls [encAlives l] k
def gFzV {R : Type} (fz : LN Msg) (K : AV -> Option R) : Option R := match fz with
 | .nil => K .nils
 | .emp => K (.trl 31 [])
 | .ne a t => gC (dL decMsg) pMs eMs [encMsgs (a :: t)] fun y => K (encMsgs y)
def gAkH {R : Type} (l : List Ask) (b : Bool) (K : AV -> List BS -> Option R) : Option R := match l with
 | [] => K (aqV b) []
 | a :: t => gC dAk pAk eAk [encAsks (a :: t)] fun y => K (.sl 31 3 0 y.length 0) [blkA y]
def fin (H : Heap) : Option AV := snK (.tup [.agg ((cell0 H 0).take 7), (cell0 H 0).getD 22 .undef]) H
def gBu {R : Type} (s : ES) (b : Bool) (K : Plan -> List Alive -> List Member -> AV -> AV -> List BS -> Option R) : Option R :=
 gMs s.p.chain fun y0 => gMs s.p.valid fun y1 => gAls s.ns fun y2 => gMs s.keep fun y3 => gFzV s.fz fun F => gAkH s.l b fun A B => K { s.p with chain := y0, valid := y1 } y2 y3 F A B
def hpB (s : ES) (p : Plan) (ns : List Alive) (W : List AV) (A : AV) (B : List BS) : Heap := hpD false s.e s.g ns .nils A .nils s.c (encPlan p) W B
def endH (t : Bool) (H : Heap) : Heap := bif t then outT H (endP (dEn [] H).s).1 (endP (dEn [] H).s).2 (dEn [] H).s.l else H
def A0 : List AV := [.ptr 0 0 0, .int .i64 0]
def kM (m : Msg) (k : Int) : Msg := { m with kind := k, shard := 0 }
theorem h20 (t : Bool) (s : ES) (b : Bool) (m : Msg) : callT (envK2 (kn21 t)) 20 F_coord_Handle [.agg (buV s b), .agg (encCf s.c), .agg (encMsg (kM m 20))] =
 gBu s b fun p ns ke F A B => bif decide (s.p.phase = 1) then bif decide (s.p.epoch = m.epoch) then
  gEb t A0 (hpB s p ns [.bool true, encMembers ke, F, .bool s.he] A B) (fin (endH t (hpB s p ns [.bool true, encMembers ke, F, .bool s.he] A B)))
  else fin (hpB s p ns [.bool s.fe, encMembers ke, F, .bool s.he] A B) else fin (hpB s p ns [.bool s.fe, encMembers ke, F, .bool s.he] A B) := by
 obtain ⟨e, g, p, ns, nb, op, keep, fz, fe, he, l, c⟩ := s
 cases t <;> cases l <;> cases b <;> cases fz <;> kernel_rfl
def msgZ : Msg := ⟨0, 0, 0, 0, 0, 0, 0, 0, 0, 0, 0, 0, false, false, [], [], ⟨0, 0⟩, ⟨0, 0⟩, ⟨0, [], [], [], false⟩, [], [], [], ⟨⟨0, 0⟩, ⟨0, 0⟩, 0, [], []⟩⟩
def actMg (p : Plan) : Msg := { msgZ with kind := 10, src := 1, dst := (p.chain.getD 0 default).node, boot := (p.chain.getD 0 default).boot, epoch := p.epoch, gen := p.gen, fresh := p.fresh, chain := p.chain }
def wasMg (a : Ask) : Msg := { msgZ with kind := 22, src := 1, dst := a.1, num := a.2 }
theorem act_sub (p : Plan) : SubC (actC p) (encMsg (actMg p)) := subC_all (by repeat' (first | exact trivial | exact nilsL | exact SubV.refl _ | refine ⟨?_, ?_⟩))
theorem was_sub (a : Ask) : SubC (ansC a) (encMsg (wasMg a)) := subC_all (by repeat' (first | exact trivial | exact nilsL | exact SubV.refl _ | refine ⟨?_, ?_⟩))
def buT (s : ES) : List AV := [.int .i64 s.e, .int .i64 s.g, .trl 8 [encPlan s.p], encAlives s.ns, .trl 4 [wkA s], .nils, encAsks s.l]
def endS (s : ES) : ES := { s with g := (endP s).1, p := (endP s).2, fe := false, keep := [], fz := .nil, he := false, l := [] }
def outMs (p : Plan) (l : List Ask) : List Msg := actMg p :: l.map wasMg
def endQ (s : ES) : ES × List Msg := bif mayE s then (endS s, outMs (endP s).2 s.l) else (s, [])
def ansB (x : ES × List Msg) : AV := .tup [.agg (buT x.1), encMsgs x.2]
theorem one_trl {sz : Nat} {a b : List AV} (h : SubC a b) : SubV (.trl sz [a]) (.trl sz [b]) := SubC.trl rfl fun i hi => by
 have : i = 0 := by
  have : i < 1 := hi
  omega
 subst this; exact h
theorem wk0_sub (s : ES) (h1 : s.fe = false) (h2 : s.keep = []) (h3 : s.fz = .nil) (h4 : s.he = false) : SubC wk0 (wkA s) := by
 unfold wkA
 rw [h1, h2, h3, h4]
 exact .cons (.refl _) (.cons nilsL (.cons (.refl _) (.cons (.refl _) .nil)))
theorem aqV_ask (b : Bool) : SubV (aqV b) (encAsks []) := by
 cases b with
 | false => exact .nils
 | true => exact SubV.trl_encL (e := encAsk) (z := (0, 0)) []
theorem outs_sub (p : Plan) (l : List Ask) : SubV (.tr 31 (l.length + 1) fun i => canF idC [] (actC p :: l.map ansC) (i + 0)) (encMsgs (outMs p l)) := by
 have hl : (outMs p l).length = l.length + 1 := by unfold outMs; simp
 unfold encMsgs encL
 rw [hl]
 refine SubV.trs fun i hi => ?_
 have e1 : canF idC [] (actC p :: l.map ansC) (i + 0) = (actC p :: l.map ansC).getD i [] := canF_at (e := idC) (z := []) (by simpa using hi)
 rw [e1]
 cases i with
 | zero => exact act_sub p
 | succ i =>
  have hil : i < l.length := by omega
  have e2 : (actC p :: l.map ansC).getD (i + 1) [] = ansC l[i] := by simp [List.getD, List.getElem?_eq_getElem hil]
  have e3 : (outMs p l).getD (i + 1) default = wasMg l[i] := by unfold outMs; simp [List.getD, List.getElem?_eq_getElem hil]
  rw [e2, e3]
  exact was_sub _
theorem fin_keep {s : ES} (b : Bool) (hn : s.nb = false) (ho : s.op = .nil) : ∃ v, fin (hpEE s b) = some v /\ SubV v (ansB (s, [])) := by
 obtain ⟨e, g, p, ns, nb, op, keep, fz, fe, he, l, c⟩ := s
 subst hn ho
 cases l with
 | nil =>
  refine ⟨.tup [.agg [.int .i64 e, .int .i64 g, .trl 8 [encPlan p], encAlives ns, .trl 4 [wkA ⟨e, g, p, ns, false, .nil, keep, fz, fe, he, [], c⟩], .nils, aqV b], .nils], ?_, ?_⟩
  ·cases b <;> cases fz <;> rfl
  ·exact .tup (.cons (.agg (.cons (.refl _) (.cons (.refl _) (.cons (.refl _) (.cons (.refl _) (.cons (.refl _) (.cons (.refl _) (.cons (aqV_ask b) .nil)))))))) (.cons nilsL .nil))
 | cons a t =>
  refine ⟨.tup [.agg [.int .i64 e, .int .i64 g, .trl 8 [encPlan p], encAlives ns, .trl 4 [wkA ⟨e, g, p, ns, false, .nil, keep, fz, fe, he, a :: t, c⟩], .nils, encAsks (a :: t)], .nils], ?_, ?_⟩
  ·have : (bif ((a :: t).length.beq 0 || ((a :: t).length + 0).ble (a :: t).length) && true && true then some (AV.tup [.agg [.int .i64 e, .int .i64 g, .trl 8 [encPlan p], encAlives ns, .trl 4 [wkA ⟨e, g, p, ns, false, .nil, keep, fz, fe, he, a :: t, c⟩], .nils, encAsks (a :: t)], .nils]) else none) = some (AV.tup [.agg [.int .i64 e, .int .i64 g, .trl 8 [encPlan p], encAlives ns, .trl 4 [wkA ⟨e, g, p, ns, false, .nil, keep, fz, fe, he, a :: t, c⟩], .nils, encAsks (a :: t)], .nils]) := by
    rw [show (a :: t).length + 0 = (a :: t).length from rfl, orU]; rfl
   refine Eq.trans ?_ this
   cases fz <;> rfl
  ·exact .tup (.cons (.refl _) (.cons nilsL .nil))
theorem fin_end {s : ES} (b : Bool) (g : Int) (p : Plan) (hn : s.nb = false) (ho : s.op = .nil) : ∃ v, fin (outE (wrE s g p) b) = some v /\ SubV v (ansB ({ s with g := g, p := p, fe := false, keep := [], fz := .nil, he := false, l := [] }, outMs p s.l)) := by
 obtain ⟨e, g0, p0, ns, nb, op, keep, fz, fe, he, l, c⟩ := s
 subst hn ho
 have hw : SubV (.trl 4 [wk0]) (.trl 4 [wkA ⟨e, g, p, ns, false, .nil, [], .nil, false, false, [], c⟩]) := one_trl (wk0_sub _ rfl rfl rfl rfl)
 cases l with
 | nil =>
  refine ⟨.tup [.agg [.int .i64 e, .int .i64 g, .trl 8 [encPlan p], encAlives ns, .trl 4 [wk0], .nils, aqV b], .trl 31 [actC p]], ?_, ?_⟩
  ·cases b <;> rfl
  ·refine .tup (.cons (.agg (.cons (.refl _) (.cons (.refl _) (.cons (.refl _) (.cons (.refl _) (.cons hw (.cons (.refl _) (.cons (aqV_ask b) .nil)))))))) (.cons ?_ .nil))
   exact SubV.trans (one_trl (act_sub p)) (SubV.trl_encL (e := encMsg) (z := default) [actMg p])
 | cons a t =>
  refine ⟨.tup [.agg [.int .i64 e, .int .i64 g, .trl 8 [encPlan p], encAlives ns, .trl 4 [wk0], .nils, .tr 31 0 fun i => bif (i + 0).blt (0 + (a :: t).length) then zMsgC else encAsk ((a :: t).getD (i + 0) (0, 0))], .tr 31 ((a :: t).length + 1) fun i => canF idC [] (actC p :: (a :: t).map ansC) (i + 0)], ?_, ?_⟩
  ·have : (bif true && ((((a :: t).length + 1).beq 0 || ((a :: t).length + 1 + 0).ble ((a :: t).length + 1)) && true) then some (AV.tup [.agg [.int .i64 e, .int .i64 g, .trl 8 [encPlan p], encAlives ns, .trl 4 [wk0], .nils, .tr 31 0 fun i => bif (i + 0).blt (0 + (a :: t).length) then zMsgC else encAsk ((a :: t).getD (i + 0) (0, 0))], .tr 31 ((a :: t).length + 1) fun i => canF idC [] (actC p :: (a :: t).map ansC) (i + 0)]) else none) = some (AV.tup [.agg [.int .i64 e, .int .i64 g, .trl 8 [encPlan p], encAlives ns, .trl 4 [wk0], .nils, .tr 31 0 fun i => bif (i + 0).blt (0 + (a :: t).length) then zMsgC else encAsk ((a :: t).getD (i + 0) (0, 0))], .tr 31 ((a :: t).length + 1) fun i => canF idC [] (actC p :: (a :: t).map ansC) (i + 0)]) := by
    rw [show (a :: t).length + 1 + 0 = (a :: t).length + 1 from rfl, orU]; rfl
   exact this
  ·refine .tup (.cons (.agg (.cons (.refl _) (.cons (.refl _) (.cons (.refl _) (.cons (.refl _) (.cons hw (.cons (.refl _) (.cons ?_ .nil)))))))) (.cons (outs_sub p (a :: t)) .nil))
   exact SubV.trs fun i hi => absurd hi (Nat.not_lt_zero i)
structure HOk (s : ES) : Prop where
 eok : EOk s
 nb : s.nb = false
 op : s.op = .nil
 val : s.p.valid.length <= 1000
 cp : ∀ f ∈ s.fz.l, CpOk f
def akCell (l : List Ask) (b : Bool) : AV := match l with
 | [] => aqV b
 | _ :: _ => .sl 31 3 0 l.length 0
def akBl (l : List Ask) : List BS := match l with
 | [] => []
 | _ :: _ => [blkA l]
theorem gFzV_eq {R : Type} {fz : LN Msg} {K : AV -> Option R} (h : fz.l.length <= 1000) (hc : ∀ f ∈ fz.l, CpOk f) : gFzV fz K = K (fzV fz) := by
 cases fz with
 | nil => rfl
 | emp => rfl
 | ne a t =>
  have hp : pMs (a :: t) := ⟨Nat.le_trans h (by omega), List.cons_ne_nil _ _, hc⟩
  exact qMs (k := fun y => K (encMsgs y)) hp
theorem gAkH_eq {R : Type} {l : List Ask} {b : Bool} {K : AV -> List BS -> Option R} (h : l.length <= 1000) : gAkH l b K = K (akCell l b) (akBl l) := by
 cases l with
 | nil => rfl
 | cons a t =>
  have hp : pAk (a :: t) := ⟨Nat.le_trans h (by omega), List.cons_ne_nil _ _⟩
  exact qAk (k := fun y => K (.sl 31 3 0 y.length 0) [blkA y]) hp
theorem gAls_eq {R : Type} {l : List Alive} {k : List Alive -> Option R} (h : l.length <= 1000) : gAls l k = k l := gC_eq l (decAlives l) (by unfold shortL LB; omega) (.refl _)
theorem gBu_eq {R : Type} {s : ES} {b : Bool} {K : Plan -> List Alive -> List Member -> AV -> AV -> List BS -> Option R} (h : HOk s) : gBu s b K = K s.p s.ns s.keep (fzV s.fz) (akCell s.l b) (akBl s.l) := by
 have h1 := h.eok.ch
 have h2 := h.val
 have h3 := h.eok.ns
 have h4 := h.eok.keep
 unfold gBu
 rw [gMs_eq _ (by unfold shortL LB; omega), gMs_eq _ (by unfold shortL LB; omega), gAls_eq h3, gMs_eq _ (by unfold shortL LB; omega), gFzV_eq h.eok.fz h.cp, gAkH_eq h.eok.l]
theorem hpB_eq {s : ES} {b : Bool} (fe : Bool) (h : HOk s) : hpB s s.p s.ns [.bool fe, encMembers s.keep, fzV s.fz, .bool s.he] (akCell s.l b) (akBl s.l) = (eEn ⟨{ s with fe := fe }, b⟩).2 := by
 obtain ⟨_, hn, ho, _, _⟩ := h
 obtain ⟨e, g, p, ns, nb, op, keep, fz, fe0, he, l, c⟩ := s
 subst hn ho
 cases l <;> rfl
theorem endH_eq (s : ES) (b : Bool) (t : Bool) : endH t (eEn ⟨s, b⟩).2 = bif t then outE (wrE s (endP s).1 (endP s).2) b else hpEE s b := by
 have e : (dEn [] (eEn ⟨s, b⟩).2).s = s := by
  have := dEn_eq ⟨s, b⟩
  exact congrArg EB.s this
 unfold endH
 rw [e]
 cases t with
 | false => rfl
 | true => exact outT_eq s b _ _
theorem fin_endH {s : ES} (b : Bool) (hn : s.nb = false) (ho : s.op = .nil) : ∃ v, fin (endH (mayE s) (eEn ⟨s, b⟩).2) = some v /\ SubV v (ansB (endQ s)) := by
 rw [endH_eq]
 unfold endQ
 cases mayE s with
 | false => exact fin_keep b hn ho
 | true => exact fin_end b _ _ hn ho
def h20P (s : ES) (m : Msg) : ES × List Msg := bif decide (s.p.phase = 1) && decide (s.p.epoch = m.epoch) then endQ { s with fe := true } else (s, [])
theorem EOk.fe {s : ES} (h : EOk s) (fe : Bool) : EOk { s with fe := fe } := ⟨h.ch, h.ns, h.keep, h.fz, h.ver, h.c1, h.c2, h.l⟩
theorem h20_at {s : ES} {b : Bool} {m : Msg} (h : HOk s) : Contract PG F_coord_Handle [.agg (buV s b), .agg (encCf s.c), .agg (encMsg (kM m 20))] [] (ansB (h20P s m)) [] := by
 have e := h20 (mayE { s with fe := true }) s b m
 rw [gBu_eq h, hpB_eq true h, hpB_eq s.fe h] at e
 have e1 : ∀ K : Option AV, gEb (mayE { s with fe := true }) A0 (eEn ⟨{ s with fe := true }, b⟩).2 K = K := fun K => gEb_eq (x := ⟨{ s with fe := true }, b⟩) (h.eok.fe true) rfl
 rw [e1] at e
 obtain ⟨v1, f1, g1⟩ := fin_endH (s := { s with fe := true }) b h.nb h.op
 obtain ⟨v2, f2, g2⟩ := fin_keep (s := s) b h.nb h.op
 have f2 : fin (eEn ⟨{ s with fe := s.fe }, b⟩).2 = some v2 := f2
 rw [f1, f2] at e
 unfold h20P
 cases hp : decide (s.p.phase = 1) with
 | false =>
  rw [hp, cond_false] at e
  exact (conK2 (kn21_ok _) e).res g2
 | true =>
  rw [hp, cond_true] at e
  cases he : decide (s.p.epoch = m.epoch) with
  | false =>
   rw [he, cond_false] at e
   exact (conK2 (kn21_ok _) e).res g2
  | true =>
   rw [he, cond_true] at e
   exact (conK2 (kn21_ok _) e).res g1
theorem bu_or {s : ES} {x y : AV} (hl : s.l = []) : OrC [.agg (buT s), x, y] [.agg (buV s false), x, y] [.agg (buV s true), x, y] := by
 unfold buT buV akAV
 rw [hl]
 exact OrC.of [] [x, y] (.agg (OrC.of [.int .i64 s.e, .int .i64 s.g, .trl 8 [encPlan s.p], encAlives s.ns, .trl 4 [wkA s], .nils] [] .nil))
theorem bu_ne {s : ES} (hl : s.l ≠ []) : buT s = buV s false := by
 unfold buT buV akAV
 cases h : s.l with
 | nil => exact absurd h hl
 | cons a t => rfl
theorem con_bu {s : ES} {x y : AV} {r : AV} (h : ∀ b, Contract PG F_coord_Handle [.agg (buV s b), x, y] [] r []) : Contract PG F_coord_Handle [.agg (buT s), x, y] [] r [] := by
 by_cases hl : s.l = []
 ·exact Contract.split (bu_or hl) (h false) (h true)
 ·rw [bu_ne hl]; exact h false
theorem h20_con {s : ES} {m : Msg} (h : HOk s) : Contract PG F_coord_Handle [.agg (buT s), .agg (encCf s.c), .agg (encMsg (kM m 20))] [] (ansB (h20P s m)) [] := con_bu fun _ => h20_at h
def fnGi (m : Member) : AV := .fn (.func F_coord_desk_grows_c1_c1) [] [.tp (encMember m) 0]
theorem cloGi : Clo F_slices_IndexFunc_api_Member encMembers default fnGi (fun m k => decide (k.node = m.node)) (fun _ => True) [] where
 hin N l y := by kernel_rfl
 hst N j l y i h := by kernel_rfl
def eGi (p : LM) : List AV := [encMembers p.1, fnGi p.2]
theorem dGi_eq (p : LM) : dLC (eGi p) = p := by
 show (decL decMember (encMembers p.1), decMember (encMember p.2)) = p
 rw [decMembers, dec_encMember]
def kIxGi : Known := .spec F_slices_IndexFunc_api_Member dLC pLC eGi (fun p => .int .i64 (ixFrom (fun k => decide (k.node = p.2.node)) p.1 0))
theorem kIxGi_ok : kIxGi.Ok PG := Known.spec_ok fun p h => cloGi.con ank h trivial
theorem ctGi_eq (l : List Member) (m : Member) : callT (envC2 [kIxGi]) 9 F_slices_ContainsFunc_api_Member [encMembers l, fnGi m] = gC dLC pLC eGi [encMembers l, fnGi m] fun p => some (.bool (decide (0 <= ixFrom (fun k => decide (k.node = p.2.node)) p.1 0))) := by kernel_rfl
theorem ctGi_con (p : LM) (h : pLC p) : Contract PG F_slices_ContainsFunc_api_Member (eGi p) [] (.bool (hasNode p.1 p.2.node)) [] := by
 refine conC2 (ak kIxGi_ok ank) ((ctGi_eq p.1 p.2).trans ((gC_eq p (dGi_eq p) h (.refl _)).trans ?_))
 rw [ixFrom_any]; rfl
def kCtGi : Known := .spec F_slices_ContainsFunc_api_Member dLC pLC eGi (fun p => .bool (hasNode p.1 p.2.node))
theorem kCtGi_ok : kCtGi.Ok PG := Known.spec_ok ctGi_con
def fnGo (p : Plan) : AV := .fn (.func F_coord_desk_grows_c1) [] [.tp (encPlan p) 0]
def gGi {R : Type} (l : List Member) (m : Member) (K : LM -> Option R) : Option R := gC dLC pLC eGi [encMembers l, fnGi m] K
theorem gGi_eq {R : Type} {l : List Member} {m : Member} {K : LM -> Option R} (h : l.length <= 100000) : gGi l m K = K (l, m) := gC_eq (l, m) (dGi_eq (l, m)) h (.refl _)
def isNew (p : Plan) (m : Member) : Bool := !hasNode p.chain m.node
theorem go_st (N j : Nat) (l : List Member) (y : Plan) (i : Int) : LP (envC2 [kCtGi]) (N + 5) 0 F_slices_IndexFunc_api_Member snK 0 [] (j + 1) (SIx3 (encMembers l) (fnGo y) l.length i) = bif decide (i < (l.length : Int)) then rg i l.length <|
  gGi y.chain (l.getD i.toNat default) fun q => bif !hasNode q.1 q.2.node then some (.int .i64 i) else LP (envC2 [kCtGi]) (N + 5) 0 F_slices_IndexFunc_api_Member snK 0 [] j (SIx3 (encMembers l) (fnGo y) l.length (IntKind.i64.wrap (i + 1))) else some (.int .i64 (-1)) := by kernel_rfl
theorem cloGo : Clo F_slices_IndexFunc_api_Member encMembers default fnGo isNew (fun p => p.chain.length <= 100000) [kCtGi] where
 hin N l y := by kernel_rfl
 hst N j l y i h := by
  rw [go_st, gGi_eq h]; rfl
abbrev MPl := List Member × Plan
def dGo (a : List AV) : MPl := (decL decMember (a.getD 0 .nils), match a.getD 1 .nils with
 | .fn _ _ [.tp c _] => decPlan c
 | _ => default)
def eGo (p : MPl) : List AV := [encMembers p.1, fnGo p.2]
def pGo (p : MPl) : Prop := p.1.length <= 100000 /\ p.2.chain.length <= 100000
theorem dGo_eq (p : MPl) : dGo (eGo p) = p := by
 show (decL decMember (encMembers p.1), decPlan (encPlan p.2)) = p
 rw [decMembers, dec_encPlan]
def kIxGo : Known := .spec F_slices_IndexFunc_api_Member dGo pGo eGo (fun p => .int .i64 (ixFrom (isNew p.2) p.1 0))
theorem kIxGo_ok : kIxGo.Ok PG := Known.spec_ok fun p h => cloGo.con (ak kCtGi_ok ank) h.1 h.2
theorem ctGo_eq (l : List Member) (p : Plan) : callT (envC2 [kIxGo]) 9 F_slices_ContainsFunc_api_Member [encMembers l, fnGo p] = gC dGo pGo eGo [encMembers l, fnGo p] fun q => some (.bool (decide (0 <= ixFrom (isNew q.2) q.1 0))) := by kernel_rfl
theorem ctGo_con (p : MPl) (h : pGo p) : Contract PG F_slices_ContainsFunc_api_Member (eGo p) [] (.bool (p.1.any (isNew p.2))) [] := by
 refine conC2 (ak kIxGo_ok ank) ((ctGo_eq p.1 p.2).trans ((gC_eq p (dGo_eq p) h (.refl _)).trans ?_))
 rw [ixFrom_any]
def kCtGo : Known := .spec F_slices_ContainsFunc_api_Member dGo pGo eGo (fun p => .bool (p.1.any (isNew p.2)))
theorem kCtGo_ok : kCtGo.Ok PG := Known.spec_ok ctGo_con
theorem eqm_in (N : Nat) (a : List Member) (b : List Member) : callT env0 (N + 1) F_slices_Equal_api_Member [encMembers a, encMembers b] =
 bif !decide ((↑a.length : Int) = (↑b.length : Int)) then
  some (AV.bool false)
 else
  LP (env0) (N) 0 (F_slices_Equal_api_Member) snK 0 [] (N) ({ fr := [(0, encMembers a), (1, encMembers b), (12, AV.int IntKind.i64 (↑a.length : Int)), (13, AV.int IntKind.i64 0)], hp := [] }) := by kernel_rfl
def SEq (a b : List Member) (i : Int) : St := { fr := [(0, encMembers a), (1, encMembers b), (12, .int .i64 a.length), (13, .int .i64 i)], hp := [] }
theorem eqm_st (N j : Nat) (a b : List Member) (i : Int) : LP env0 N 0 F_slices_Equal_api_Member snK 0 [] (j + 1) (SEq a b i) =
 bif decide (i < (a.length : Int)) then rg i a.length <| rg i b.length <|
  bif !(decide ((a.getD i.toNat default).node = (b.getD i.toNat default).node) && (decide ((a.getD i.toNat default).boot = (b.getD i.toNat default).boot) && true)) then some (.bool false)
  else LP env0 N 0 F_slices_Equal_api_Member snK 0 [] j (SEq a b (IntKind.i64.wrap (i + 1)))
 else some (.bool true) := by kernel_rfl
theorem eqm_con (p : MM) (h : pMM p) : Contract PG F_slices_Equal_api_Member (eMM2 p) [] (.bool (decide (p.1 = p.2))) [] := by
 obtain ⟨a, b⟩ := p
 have ha : a.length <= 100000 := h.1
 have hN : ∃ N, N = 200000 := ⟨_, rfl⟩
 obtain ⟨N, hN⟩ := hN
 refine con0 (n := N + 1) ((eqm_in N a b).trans ?_)
 by_cases hl : a.length = b.length
 ·rw [decide_eq_true (by omega), Bool.not_true, cond_false]
  have run : ∀ d i m, i + d = a.length -> d < m -> LP env0 N 0 F_slices_Equal_api_Member snK 0 [] m (SEq a b (i : Nat)) = some (.bool (decide (a.drop i = b.drop i))) := by
   intro d
   induction d with
   | zero =>
    intro i m hi hm
    obtain ⟨m, rfl⟩ : ∃ k, m = k + 1 := ⟨m - 1, by omega⟩
    rw [eqm_st, decide_eq_false (by omega), cond_false, List.drop_eq_nil_of_le (by omega), List.drop_eq_nil_of_le (by omega)]; rfl
   | succ d ih =>
    intro i m hi hm
    obtain ⟨m, rfl⟩ : ∃ k, m = k + 1 := ⟨m - 1, by omega⟩
    have hia : i < a.length := by omega
    have hib : i < b.length := by omega
    rw [eqm_st, decide_eq_true (by omega), cond_true, rg_eq hia, rg_eq hib, Int.toNat_natCast, wrapS (by omega), ih (i + 1) m (by omega) (by omega), drop_cons (z := default) hia, drop_cons (z := default) hib]
    generalize a.getD i default = x
    generalize b.getD i default = y
    obtain ⟨x1, x2⟩ := x
    obtain ⟨y1, y2⟩ := y
    simp only [List.cons.injEq, Member.mk.injEq, Bool.decide_and, Bool.and_true]
    cases decide (x1 = y1) <;> cases decide (x2 = y2) <;> rfl
  have := run a.length 0 N (by omega) (by omega)
  rw [List.drop_zero, List.drop_zero] at this
  exact this
 ·have : a ≠ b := fun e => hl (by rw [e])
  rw [decide_eq_false (by omega), Bool.not_false, cond_true, decide_eq_false this]
def kEqM : Known := .spec F_slices_Equal_api_Member dMM pMM eMM2 (fun p => .bool (decide (p.1 = p.2)))
theorem kEqM_ok : kEqM.Ok PG := Known.spec_ok eqm_con
def gEq {R : Type} (a b : List Member) (K : MM -> Option R) : Option R := gC dMM pMM eMM2 [encMembers a, encMembers b] K
theorem gEq_eq {R : Type} {a b : List Member} {K : MM -> Option R} (h : pMM (a, b)) : gEq a b K = K (a, b) := gC_eq (a, b) (by show (decL decMember (encMembers a), decL decMember (encMembers b)) = _; rw [decMembers, decMembers]) h (.refl _)
def gGo {R : Type} (l : List Member) (p : Plan) (K : MPl -> Option R) : Option R := gC dGo pGo eGo [encMembers l, fnGo p] K
theorem gGo_eq {R : Type} {l : List Member} {p : Plan} {K : MPl -> Option R} (h : pGo (l, p)) : gGo l p K = K (l, p) := gC_eq (l, p) (dGo_eq (l, p)) h (.refl _)
theorem grows_eq (p : Plan) (x : DX) (up : List Member) : callT (envC6 [kEqM, kCtGo]) 20 F_coord_desk_grows [.tp (encDX x) 0, .agg (encPlan p), encMembers up] =
 bif decide (x.c.chain <= (p.chain.length : Int)) then some (.bool false) else gEq p.valid p.chain fun y => bif !decide (y.1 = y.2) then some (.bool false) else gGo up p fun z => some (.bool (z.1.any (isNew z.2))) := by kernel_rfl
def growsP (p : Plan) (c : CConf) (up : List Member) : Bool := bif decide (c.chain <= (p.chain.length : Int)) then false else decide (p.valid = p.chain) && up.any (isNew p)
structure GX where
 x : DX
 p : Plan
 up : List Member
def dGX (a : List AV) : GX := ⟨dDX (dTpC (a.getD 0 .undef)), decPlan (argC a 1), decL decMember (a.getD 2 .nils)⟩
def eGX (y : GX) : List AV := [.tp (encDX y.x) 0, .agg (encPlan y.p), encMembers y.up]
def pGX (y : GX) : Prop := y.p.chain.length <= 1000 /\ y.p.valid.length <= 1000 /\ y.up.length <= 1000
theorem grows_con (y : GX) (h : pGX y) : Contract PG F_coord_desk_grows (eGX y) [] (.bool (growsP y.p y.x.c y.up)) [] := by
 obtain ⟨x, p, up⟩ := y
 obtain ⟨h1, h2, h3⟩ := h
 simp only [] at h1 h2 h3
 refine conC6 (ak kEqM_ok (ak kCtGo_ok ank)) ((grows_eq p x up).trans ?_)
 rw [gEq_eq ⟨by simp only; omega, by simp only; omega⟩, gGo_eq ⟨by simp only; omega, by simp only; omega⟩]
 unfold growsP
 simp only []
 cases decide (x.c.chain <= (p.chain.length : Int)) with
 | true => rfl
 | false => cases decide (p.valid = p.chain) <;> rfl
def kGrows : Known := .spec F_coord_desk_grows dGX pGX eGX (fun y => .bool (growsP y.p y.x.c y.up))
theorem kGrows_ok : kGrows.Ok PG := Known.spec_ok grows_con
def fnB : AV := .fn (.func F_coord_desk_beat_c1) [] []
def SBs (ns : List Alive) (t i j : Int) : St := { fr := [(0, encAlives ns), (1, .int .i64 t), (2, fnB), (8, .int .i64 ns.length), (9, .int .i64 i), (10, .int .i64 j)], hp := [] }
theorem bs_in (N : Nat) (ns : List Alive) (t : Int) : callT env0 (N + 4) F_slices_BinarySearchFunc_int [encAlives ns, .int .i64 t, fnB] = LP env0 (N + 3) 0 F_slices_BinarySearchFunc_int snK 0 [] (N + 3) (SBs ns t 0 ns.length) := by kernel_rfl
def mid (i j : Int) : Int := IntKind.i64.wrap ((IntKind.u64.wrap (IntKind.i64.wrap (i + j))).fdiv (2 ^ min (Int.toNat 1) IntKind.u64.bits))
def nodeAt (ns : List Alive) (i : Nat) : Int := (ns.getD i default).member.node
theorem bs_st (N m : Nat) (ns : List Alive) (t i j : Int) : LP env0 (N + 3) 0 F_slices_BinarySearchFunc_int snK 0 [] (m + 1) (SBs ns t i j) =
 bif decide (i < j) then rg (mid i j) ns.length <|
  bif decide (nodeAt ns (mid i j).toNat < t) then LP env0 (N + 3) 0 F_slices_BinarySearchFunc_int snK 0 [] m (SBs ns t (IntKind.i64.wrap (mid i j + 1)) j)
  else bif decide (t < nodeAt ns (mid i j).toNat) then LP env0 (N + 3) 0 F_slices_BinarySearchFunc_int snK 0 [] m (SBs ns t i (mid i j)) else LP env0 (N + 3) 0 F_slices_BinarySearchFunc_int snK 0 [] m (SBs ns t i (mid i j))
 else bif decide (i < (ns.length : Int)) then rg i ns.length <|
   bif decide (nodeAt ns i.toNat < t) then some (.tup [.int .i64 i, .bool false]) else bif decide (t < nodeAt ns i.toNat) then some (.tup [.int .i64 i, .bool false]) else some (.tup [.int .i64 i, .bool true])
  else some (.tup [.int .i64 i, .bool false]) := by kernel_rfl
theorem mid_eq {i j : Nat} (hi : i <= 100000) (hj : j <= 100000) : mid (i : Int) (j : Int) = ((i + j) / 2 : Nat) := by
 unfold mid
 have e0 : (2 : Int) ^ min (Int.toNat 1) IntKind.u64.bits = 2 := by decide
 have e1 : IntKind.i64.wrap ((i : Int) + (j : Int)) = ((i + j : Nat) : Int) := by rw [IntKind.wrap_i64]; omega
 have e2 : IntKind.u64.wrap ((i + j : Nat) : Int) = ((i + j : Nat) : Int) := by
  have : IntKind.u64.wrap ((i + j : Nat) : Int) = ((i + j : Nat) : Int) % 18446744073709551616 := rfl
  rw [this]; omega
 rw [e1, e2, e0, Int.fdiv_eq_ediv_of_nonneg _ (by omega), IntKind.wrap_i64]
 omega
def bsL (ns : List Alive) (t : Int) : Nat -> Nat -> Nat -> Nat
 | 0, i, _ => i
 | k + 1, i, j => bif decide (i < j) then bif decide (nodeAt ns ((i + j) / 2) < t) then bsL ns t k ((i + j) / 2 + 1) j else bsL ns t k i ((i + j) / 2) else i
def bsP (ns : List Alive) (t : Int) : Nat := bsL ns t (ns.length + 1) 0 ns.length
theorem bsL_le {ns : List Alive} {t : Int} : ∀ (k i j : Nat), i <= j -> bsL ns t k i j <= j
 | 0, i, j, h => h
 | k + 1, i, j, h => by
  unfold bsL
  by_cases hij : i < j
  ·rw [decide_eq_true hij, cond_true]
   cases decide (nodeAt ns ((i + j) / 2) < t) with
   | true => exact bsL_le k _ _ (by omega)
   | false => exact Nat.le_trans (bsL_le k i ((i + j) / 2) (by omega)) (by omega)
  ·rw [decide_eq_false hij, cond_false]; exact h
theorem bsP_le (ns : List Alive) (t : Int) : bsP ns t <= ns.length := bsL_le _ _ _ (Nat.zero_le _)
def isAt (ns : List Alive) (t : Int) (i : Nat) : Bool := decide (i < ns.length) && (!decide (nodeAt ns i < t) && !decide (t < nodeAt ns i))
def tBs (ns : List Alive) (t : Int) (i : Nat) : AV := .tup [.int .i64 i, .bool (isAt ns t i)]
theorem bs_exit {N m : Nat} {ns : List Alive} {t : Int} {i j : Nat} (hj : j <= ns.length) (hij : ¬ i < j) : LP env0 (N + 3) 0 F_slices_BinarySearchFunc_int snK 0 [] (m + 1) (SBs ns t (i : Int) (j : Int)) = some (tBs ns t i) := by
 rw [bs_st, decide_eq_false (by omega), cond_false]
 unfold tBs isAt
 by_cases hn : i < ns.length
 ·rw [decide_eq_true (by omega), cond_true, rg_eq hn, Int.toNat_natCast, decide_eq_true hn, Bool.true_and]
  cases decide (nodeAt ns i < t) <;> cases decide (t < nodeAt ns i) <;> rfl
 ·rw [decide_eq_false (by omega), cond_false, decide_eq_false hn, Bool.false_and]
theorem bs_con (ns : List Alive) (t : Int) (h : ns.length <= 100000) : Contract PG F_slices_BinarySearchFunc_int [encAlives ns, .int .i64 t, fnB] [] (tBs ns t (bsP ns t)) [] := by
 have hN : ∃ N, N = 200000 := ⟨_, rfl⟩
 obtain ⟨N, hN⟩ := hN
 refine con0 (n := N + 4) ((bs_in N ns t).trans ?_)
 have run : ∀ d i j m, j - i <= d -> i <= j -> j <= ns.length -> d < m -> LP env0 (N + 3) 0 F_slices_BinarySearchFunc_int snK 0 [] m (SBs ns t (i : Nat) (j : Nat)) = some (tBs ns t (bsL ns t (d + 1) i j)) := by
  intro d
  induction d with
  | zero =>
   intro i j m hd hij hj hm
   obtain ⟨m, rfl⟩ : ∃ k, m = k + 1 := ⟨m - 1, by omega⟩
   rw [bs_exit hj (by omega)]
   show _ = some (tBs ns t (bsL ns t 1 i j))
   unfold bsL
   rw [decide_eq_false (by omega), cond_false]
  | succ d ih =>
   intro i j m hd hij hj hm
   obtain ⟨m, rfl⟩ : ∃ k, m = k + 1 := ⟨m - 1, by omega⟩
   by_cases hlt : i < j
   ·have e : bsL ns t (d + 1 + 1) i j = bif decide (nodeAt ns ((i + j) / 2) < t) then bsL ns t (d + 1) ((i + j) / 2 + 1) j else bsL ns t (d + 1) i ((i + j) / 2) := by
     conv => lhs; unfold bsL
     rw [decide_eq_true hlt, cond_true]
    rw [e, bs_st, decide_eq_true (by omega), cond_true, mid_eq (by omega) (by omega), rg_eq (by omega), Int.toNat_natCast, wrapS (by omega)]
    cases decide (nodeAt ns ((i + j) / 2) < t) with
    | true => exact ih _ _ m (by omega) (by omega) hj (by omega)
    | false =>
     rw [cond_false, cond_false]
     have := ih i ((i + j) / 2) m (by omega) (by omega) (by omega) (by omega)
     cases decide (t < nodeAt ns ((i + j) / 2)) <;> exact this
   ·rw [bs_exit hj hlt]
    conv => rhs; unfold bsL
    rw [decide_eq_false hlt, cond_false]
 exact run ns.length 0 ns.length (N + 3) (by omega) (by omega) (Nat.le_refl _) (by omega)
abbrev AlI := List Alive × Int
def dBs (a : List AV) : AlI := (decL decAlive (a.getD 0 .nils), getI a 1)
def eBs (p : AlI) : List AV := [encAlives p.1, .int .i64 p.2, fnB]
def pBs (p : AlI) : Prop := p.1.length <= 100000
def kBs : Known := .spec F_slices_BinarySearchFunc_int dBs pBs eBs (fun p => tBs p.1 p.2 (bsP p.1 p.2))
theorem kBs_ok : kBs.Ok PG := Known.spec_ok fun p h => bs_con p.1 p.2 h
end Go.Wk
end
noncomputable section
namespace Go.Proofs.YtiehekhdjafbaaaGreat
open Go.RowKit
set_option maxHeartbeats 1000000 in
set_option maxRecDepth 100000 in
theorem ins_shift (B q n c i vb voff vc : Nat) (w w1 w2 : World) (hi : i < n) (hroom : n + 1 <= c) (hn63 : n + 1 <= 9223372036854775807)
  (hov : ∀ x lb cb, (callFunc 134 #[.slice (some ⟨vb, voff, none⟩) 1 vc, .slice (some ⟨B, x, none⟩) lb cb]).run Tryz.prog w = .ok (.value (.bool false)) w)
  (hcp1 : ∀ ty l m dc sc, l = n - i -> m = n + 1 - i -> (Builtin.copy_ #[30, 30] ty #[.slice (some ⟨B, q + (i + 1) * 3, none⟩) l dc, .slice (some ⟨B, q + i * 3, none⟩) m sc]).run Tryz.prog w.drew = .ok (goInt (n - i : Nat)) w1)
  (hcp2 : ∀ ty l dc, l = n + 1 - i -> (Builtin.copy_ #[30, 30] ty #[.slice (some ⟨B, q + i * 3, none⟩) l dc, .slice (some ⟨vb, voff, none⟩) 1 vc]).run Tryz.prog w1 = .ok (goInt 1) w2) :
  Calls Tryz.prog 112 #[.slice (some ⟨B, q, none⟩) n c, .int .i64 i, .slice (some ⟨vb, voff, none⟩) 1 vc] w fun e w' =>
   e = .returned (.slice (some ⟨B, q, none⟩) (n + 1) c) /\ w' = w2 := by
 have hz1 : ¬ ((1 : Int) = 0) := by omega
 have hz2 : ¬ ((i : Int) = (n : Int)) := by omega
 have hw1 : IntKind.i64.wrap ((i : Int) + (1 : Int)) = (i : Int) + (1 : Int) := by rw [IntKind.wrap_i64]; omega
 have hw2 : IntKind.i64.wrap ((n : Int) + (1 : Int)) = (n : Int) + (1 : Int) := by rw [IntKind.wrap_i64]; omega
 have hb1 : (0 : Int) <= (i : Int) + (1 : Int) := by omega
 have hin : i <= n := by omega
 have htn : ((i : Int) + (1 : Int)).toNat = i + 1 := by omega
 have hb2 : ¬ (c = i + 1) := by omega
 have hb3 : (i : Int) <= (n : Int) + (1 : Int) := by omega
 have hb4 : ¬ (c = i) := by omega
 have mixed : Tryz.prog.follows .mixedOrders = true := by kernel_rfl
 go_enter Tryz.func112, Tryz.ntmps112
 go_wp2_with (simp only [hov])
 go_region_law_o (refine step_copy_runI rfl _ _ 30 30 rfl _ _ (by simp [Act.eval, Act.put]) (by simp [Act.eval, Act.put]) (hcp1 _ _ _ _ _ (by omega) (by omega)) ?_)
 go_wp2_with (at_builtin; refine wpList_copy_runI _ rfl _ _ 30 30 rfl _ _ rfl rfl (hcp2 _ _ _ (by omega)) ?_)
 go_ret
 exact ⟨rfl, rfl⟩
set_option maxHeartbeats 1000000 in
set_option maxRecDepth 100000 in
theorem ins_grow (B q n i vb voff vc NB G : Nat) (w w1 w2 w3 : World) (hi : i < n) (hG : n + 1 <= G) (hG63 : G <= 9223372036854775807) (hn63 : n + 1 <= 9223372036854775807)
  (hap : ∀ ty x, x = (n : Int) + 1 - i -> (Builtin.append_ #[30, 3] ty #[.slice (some ⟨B, q, none⟩) i n, .int .i64 x]).run Tryz.prog w = .ok (.slice (some ⟨NB, 0, none⟩) (n + 1) G) w1)
  (hcp1 : ∀ ty l dc, l = n + 1 - i -> (Builtin.copy_ #[30, 30] ty #[.slice (some ⟨NB, i * 3, none⟩) l dc, .slice (some ⟨vb, voff, none⟩) 1 vc]).run Tryz.prog w1 = .ok (goInt 1) w2)
  (hcp2 : ∀ ty l m dc sc, l = n - i -> m = n - i -> (Builtin.copy_ #[30, 30] ty #[.slice (some ⟨NB, (i + 1) * 3, none⟩) l dc, .slice (some ⟨B, q + i * 3, none⟩) m sc]).run Tryz.prog w2.drew = .ok (goInt (n - i : Nat)) w3) :
  Calls Tryz.prog 112 #[.slice (some ⟨B, q, none⟩) n n, .int .i64 i, .slice (some ⟨vb, voff, none⟩) 1 vc] w fun e w' =>
   e = .returned (.slice (some ⟨NB, 0, none⟩) (n + 1) G) /\ w' = w3 := by
 have hz1 : ¬ ((1 : Int) = 0) := by omega
 have hz2 : ¬ ((i : Int) = (n : Int)) := by omega
 have hz3 : (n : Int) < (n : Int) + 1 := by omega
 have hw1 : IntKind.i64.wrap ((i : Int) + (1 : Int)) = (i : Int) + (1 : Int) := by rw [IntKind.wrap_i64]; omega
 have hw2 : IntKind.i64.wrap ((n : Int) + (1 : Int)) = (n : Int) + (1 : Int) := by rw [IntKind.wrap_i64]; omega
 have hw3 : IntKind.i64.wrap ((n : Int) + (1 : Int) - (i : Int)) = (n : Int) + (1 : Int) - (i : Int) := by rw [IntKind.wrap_i64]; omega
 have hb1 : (0 : Int) <= (i : Int) + (1 : Int) := by omega
 have hin : i <= n := by omega
 have htn : ((i : Int) + (1 : Int)).toNat = i + 1 := by omega
 have hb3 : (i : Int) <= (n : Int) + (1 : Int) := by omega
 have hb4 : ¬ (n = i) := by omega
 have hb5 : ¬ (G = i) := by omega
 have hb6 : ¬ (G = i + 1) := by omega
 have mixed : Tryz.prog.follows .mixedOrders = true := by kernel_rfl
 go_enter Tryz.func112, Tryz.ntmps112
 go_wp2_with (first
  | (at_builtin; refine Lib.wpList_append_run _ rfl _ _ _ _ rfl _ _ rfl rfl _ _ (hap _ _ (by omega)) ?_)
  | (at_builtin; refine wpList_copy_runI _ rfl _ _ 30 30 rfl _ _ rfl rfl (hcp1 _ _ _ (by omega)) ?_))
 go_region_law_o (refine step_copy_runI rfl _ _ 30 30 rfl _ _ (by simp [Act.eval, Act.put]) (by simp [Act.eval, Act.put]) (hcp2 _ _ _ _ _ (by omega) (by omega)) ?_)
 go_wp2
 go_ret
 exact ⟨rfl, rfl⟩
end Go.Proofs.YtiehekhdjafbaaaGreat
end
noncomputable section
open Go Go.AM Go.Md
namespace Go.Wk
set_option maxRecDepth 100000
set_option maxHeartbeats 400000
theorem run_copy_sz {P : Program} (W : World) (dT sT ty elem : TypeId) (sz B dq dLen dCap sb sq sLen sCap : Nat) (vs : List Value) {c : Array Value} {e : TypeId} {fz : Nat × Nat}
  (hu : P.underlying dT = some (.slice elem)) (hs : (P.info? elem).map (·.size) = some sz) (hn : vs.length = Nat.min sLen dLen * sz)
  (hsrc : ∀ (j : Nat) v, vs[j]? = some v -> W.cell? ⟨sb, sq + j, none⟩ = some v) (hc : W.heap[B]? = some (.cells c e fz)) (hfit : dq + vs.length <= c.size) (ht : thawed c fz) (h1 : ∀ v ∈ vs, v.oneCell' = true) :
  (Builtin.copy_ #[dT, sT] ty #[.slice (some ⟨B, dq, none⟩) dLen dCap, .slice (some ⟨sb, sq, none⟩) sLen sCap]).run P W = .ok (goInt (Nat.min sLen dLen)) (World.setBlk W B (.cells (splice c dq vs) e fz)) := by
 have hl := run_loadCells_of (P := P) (w := W) vs rfl hsrc
 have hst := run_storeCells (P := P) (o := dq) vs 0 c W hc (by omega) ht h1
 rw [Nat.add_zero] at hst
 cases hq : P.info? elem with
 | none => simp [hq] at hs
 | some i =>
  have hi : i.size = sz := by simpa [hq] using hs
  simp [Builtin.copy_, run_underlying hu, Builtin.lenOf, Builtin.firstCells, sizeOf, typeInfo, hq, hi, <- hn, hl, hst]
def insL (l : List Alive) (i : Nat) (a : Alive) : List Alive := l.take i ++ a :: l.drop i
theorem insL_len {l : List Alive} {i : Nat} {a : Alive} (h : i <= l.length) : (insL l i a).length = l.length + 1 := by unfold insL; simp; omega
theorem insL_lt {l : List Alive} {i k : Nat} {a : Alive} (h : i <= l.length) (hk : k < i) : (insL l i a).getD k default = l.getD k default := by
 unfold insL
 simp only [List.getD]
 rw [List.getElem?_append_left (by simp; omega), List.getElem?_take, if_pos hk]
theorem insL_eq {l : List Alive} {i : Nat} {a : Alive} (h : i <= l.length) : (insL l i a).getD i default = a := by
 unfold insL
 simp only [List.getD]
 rw [List.getElem?_append_right (by simp; omega)]
 have : i - (l.take i).length = 0 := by simp; omega
 rw [this]; rfl
theorem insL_gt {l : List Alive} {i k : Nat} {a : Alive} (h : i <= l.length) (hk : i < k) : (insL l i a).getD k default = l.getD (k - 1) default := by
 unfold insL
 simp only [List.getD]
 rw [List.getElem?_append_right (by simp; omega)]
 have : k - (l.take i).length = (k - 1 - i) + 1 := by simp; omega
 rw [this, List.getElem?_cons_succ, List.getElem?_drop]
 have : i + (k - 1 - i) = k - 1 := by omega
 rw [this]
def blkM (l : List Alive) : BS := .seq true 3 l.length fun k => encAlive (l.getD k default)
def cellE (a : Alive) (r : Nat) : AV := (encAlive a).getD r .undef
theorem cellE_get {a : Alive} {r : Nat} (h : r < 3) : (encAlive a)[r]? = some (cellE a r) := by
 match r, h with
 | 0, _ => rfl
 | 1, _ => rfl
 | 2, _ => rfl
theorem cellE_of {a : Alive} {r : Nat} {x : AV} (h : (encAlive a)[r]? = some x) : r < 3 /\ x = cellE a r := by
 have hr : r < 3 := by
  rcases Nat.lt_or_ge r 3 with h' | h'
  ·exact h'
  ·rw [List.getElem?_eq_none (by exact h')] at h; cases h
 rw [cellE_get hr] at h
 cases h
 exact ⟨hr, rfl⟩
theorem cellE_free (a : Alive) (r : Nat) : refFree (cellE a r) = true := by
 unfold cellE
 match r with
 | 0 => rfl
 | 1 => rfl
 | 2 => rfl
 | _ + 3 => rfl
theorem setBlk_two (w : World) (B : Nat) (x y : Obj) : World.setBlk (World.setBlk w B x) B y = World.setBlk w B y := by
 simp only [World.setBlk, Array.setIfInBounds_setIfInBounds]
theorem ov_run {w : World} {B B2 voff vc x lb cb : Nat} {c c2 : Array Value} {e e2 : TypeId} {fz fz2 : Nat × Nat} (hB : w.heap[B]? = some (.cells c e fz)) (hV : w.heap[B2]? = some (.cells c2 e2 fz2)) (hne : B2 ≠ B) (hc : c.size ≠ 0)
  (ht : thawed c2 fz2) (hs : notStr c2 fz2 3) (hv : voff < c2.size) :
  (callFunc 134 #[.slice (some ⟨B2, voff, none⟩) 1 vc, .slice (some ⟨B, x, none⟩) lb cb]).run PG w = .ok (.value (.bool false)) w := by
 have hov := Lib.run_overlaps_apart (P := PG) w 30 4 75 (by kernel_rfl) 3 (fun w => by
  have : tiOf PG 75 = some ((tiOf PG 75).getD ⟨0, 0, false, .bool, none, false, none⟩) := by kernel_rfl
  rw [AM.run_sizeOf this w]
  have h3 : ((tiOf PG 75).getD ⟨0, 0, false, .bool, none, false, none⟩).size = 3 := by kernel_rfl
  rw [h3]) ⟨B2, voff, none⟩ ⟨B, x, none⟩ 1 vc lb cb hne e2 e c2.size c.size (by simp [World.shape?, hV]) (by simp [World.shape?, hB]) hc (frozen_of hV ht hv) (by
   simp only [World.frozen?, hV]
   have := hs.resolve_left (by decide)
   simpa using this)
 rw [run_callFunc_extern (P := PG) (f := 134) (fn := Go.Proofs.Tryz.f134) Go.Proofs.Tryz.func134 (by kernel_rfl) (by kernel_rfl) (by kernel_rfl) (e := Extern.SlicesOverlaps.overlaps #[30, 30] #[4]) (by kernel_rfl), hov]
 rfl
end Go.Wk
end
noncomputable section
open Go Go.AM Go.Md
namespace Go.Wk
set_option maxRecDepth 100000
set_option maxHeartbeats 1000000
def insH (l : List Alive) (a : Alive) : Heap := [blkM l, .arr true 3 [encAlive a]]
def insO (l : List Alive) (i : Nat) (a : Alive) : Heap := [.dead, .arr true 3 [encAlive a], blkM (insL l i a)]
theorem insO_rd (l : List Alive) (i : Nat) (a : Alive) : hget (insO l i a) = rdput (rdput (hget (insH l a)) 0 .dead) 2 (blkM (insL l i a)) := by
 funext b
 match b with
 | 0 => rfl
 | 1 => rfl
 | 2 => rfl
 | _ + 3 => rfl
theorem row_cells {w : World} {I : Nat -> Prop} {φ : Phi} {rd : Nat -> BS} {b B o : Nat} {l : List Alive} (hh : RH w I φ rd) (hb : rd b = blkM l) (h0 : φ b = some (B, o, 3)) :
  ∃ c e fz, w.heap[B]? = some (.cells c e fz) /\ thawed c fz /\ notStr c fz 3 /\ ∀ k r, k < l.length -> r < 3 -> ∃ u, c[o + k * 3 + r]? = some u /\ u.oneCell' = true /\ RV w I Phi.no (cellE (l.getD k default) r) u := by
 obtain ⟨B', o', sz', e, hrb⟩ := hh.blk b (by rw [hb]; rfl)
 rw [h0] at e; cases e
 rw [hb] at hrb
 obtain ⟨_, ⟨c, e, fz, hc, ht⟩, _, hcell⟩ := hrb
 refine ⟨c, e, fz, hc, (ht rfl).1, (ht rfl).2, fun k r hk hr => ?_⟩
 obtain ⟨u, h1, h2, h3⟩ := hcell k r _ hk (cellE_get hr)
 rw [cell_of hc] at h1
 exact ⟨u, h1, h2, h3⟩
theorem one_cells {w : World} {I : Nat -> Prop} {φ : Phi} {rd : Nat -> BS} {b B o : Nat} {a : Alive} (hh : RH w I φ rd) (hb : rd b = .arr true 3 [encAlive a]) (h0 : φ b = some (B, o, 3)) :
  ∃ c e fz, w.heap[B]? = some (.cells c e fz) /\ thawed c fz /\ notStr c fz 3 /\ ∃ vs : List Value, vs.length = 3 /\ (∀ r v, vs[r]? = some v -> c[o + r]? = some v /\ v.oneCell' = true /\ RV w I Phi.no (cellE a r) v) := by
 obtain ⟨B', o', sz', e, hrb⟩ := hh.blk b (by rw [hb]; rfl)
 rw [h0] at e; cases e
 rw [hb] at hrb
 obtain ⟨_, ⟨c, e, fz, hc, ht⟩, _, hcell⟩ := hrb
 have g : ∀ r, r < 3 -> ∃ u, c[o + r]? = some u /\ u.oneCell' = true /\ RV w I Phi.no (cellE a r) u := fun r hr => by
  obtain ⟨u, h1, h2, h3⟩ := hcell 0 (encAlive a) r _ rfl (cellE_get hr)
  rw [cell_of hc, Nat.zero_mul, Nat.add_zero] at h1
  exact ⟨u, h1, h2, h3.free (cellE_free a r)⟩
 obtain ⟨u0, a0⟩ := g 0 (by omega)
 obtain ⟨u1, a1⟩ := g 1 (by omega)
 obtain ⟨u2, a2⟩ := g 2 (by omega)
 refine ⟨c, e, fz, hc, (ht rfl).1, (ht rfl).2, [u0, u1, u2], rfl, fun r v hv => ?_⟩
 match r with
 | 0 => cases hv; exact a0
 | 1 => cases hv; exact a1
 | 2 => cases hv; exact a2
 | _ + 3 => simp at hv
def piece (c : Array Value) (p m : Nat) : List Value := (List.range m).map fun j => c.getD (p + j) default
theorem piece_len (c : Array Value) (p m : Nat) : (piece c p m).length = m := by simp [piece]
theorem piece_get {c : Array Value} {p m j : Nat} (h : p + m <= c.size) (hj : j < m) : (piece c p m)[j]? = c[p + j]? := by
 unfold piece
 rw [List.getElem?_map, List.getElem?_range hj, Option.map_some, Array.getElem?_eq_getElem (by omega), Array.getD_eq_getD_getElem?, Array.getElem?_eq_getElem (by omega)]
 rfl
theorem split3 {n j : Nat} (h : j < n * 3) : j / 3 < n /\ j % 3 < 3 /\ j = j / 3 * 3 + j % 3 := by omega
def insC (c : Array Value) (q i n : Nat) (src : List Value) (vs : List Value) : Array Value := splice (splice c (q + (i + 1) * 3) src) (q + i * 3) vs
theorem insC_get {c : Array Value} {q i n : Nat} {src vs : List Value} (hi : i <= n) (hs : src.length = (n - i) * 3) (hv : vs.length = 3) (hc : q + (n + 1) * 3 <= c.size) {k r : Nat} (hk : k < n + 1) (hr : r < 3) :
  (insC c q i n src vs)[q + k * 3 + r]? = if k < i then c[q + k * 3 + r]? else if k = i then vs[r]? else src[(k - 1 - i) * 3 + r]? := by
 unfold insC
 rw [splice_get _ _ _ _ (by rw [splice_size, hv]; omega), splice_get _ _ _ _ (by rw [hs]; omega), hv, hs]
 by_cases h1 : k < i
 ·rw [if_pos h1, if_neg (by omega), if_neg (by omega)]
 ·rw [if_neg h1]
  by_cases h2 : k = i
  ·subst h2
   rw [if_pos rfl, if_pos (by omega)]
   congr 1; omega
  ·rw [if_neg h2, if_neg (by omega), if_pos (by omega)]
   congr 1
   omega
theorem insRB {w W : World} {I : Nat -> Prop} {φ' : Phi} {B q : Nat} {l : List Alive} {i : Nat} {a : Alive} {c' : Array Value} {e : TypeId} {fz : Nat × Nat} (hi : i <= l.length) (hW : W.heap[B]? = some (.cells c' e fz)) (ht : thawed c' fz) (hn : notStr c' fz 3)
  (mono : ∀ {v : AV} {u : Value}, RV w I Phi.no v u -> RV W I Phi.no v u)
  (hg : ∀ k r, k < l.length + 1 -> r < 3 -> ∃ u, c'[q + k * 3 + r]? = some u /\ u.oneCell' = true /\ RV w I Phi.no (cellE ((insL l i a).getD k default) r) u) : RB W I φ' B q 3 (blkM (insL l i a)) := by
 have hl := insL_len (a := a) hi
 refine ⟨rfl, ⟨c', e, fz, hW, fun _ => ⟨ht, hn⟩⟩, fun k _ => rfl, fun k r cc hk hcc => ?_⟩
 obtain ⟨hr, rfl⟩ := cellE_of hcc
 obtain ⟨u, h1, h2, h3⟩ := hg k r (by omega) hr
 exact ⟨u, by rw [cell_of hW]; exact h1, h2, mono h3⟩
theorem ins_place {w : World} {I : Nat -> Prop} {φ : Phi} {l : List Alive} {i : Nat} {a : Alive} (hh : RH w I φ (hget (insH l a))) {B o cap B2 o2 vc : Nat} (h0 : φ 0 = some (B, o, 3)) (h1 : φ 1 = some (B2, o2, 3)) (hi : i < l.length) (hl : l.length <= 100000)
  (hcap : l.length + 1 <= cap) (hs : o + cap * 3 <= csize w B) :
  ∃ w2, (Calls PG F_slices_Insert_api_Alive #[.slice (some ⟨B, o, none⟩) l.length cap, .int .i64 i, .slice (some ⟨B2, o2, none⟩) 1 vc] w fun e w' => e = .returned (.slice (some ⟨B, o, none⟩) (l.length + 1) cap) /\ w' = w2) /\
   RH w2 I (φ.set 2 (B, o, 3)) (hget (insO l i a)) /\ Step 2 (hget (insH l a)) φ I w (hget (insO l i a)) (φ.set 2 (B, o, 3)) I w2 /\ csize w2 B = csize w B := by
 obtain ⟨c, e, fz, hc, ht, hns, hcell⟩ := row_cells (b := 0) hh rfl h0
 obtain ⟨c2, e2, fz2, hc2, ht2, hns2, vs, hvl, hvs⟩ := one_cells (b := 1) hh rfl h1
 have hne : B2 ≠ B := fun hE => by
  have := hh.inj 1 0 B2 o2 3 o 3 rfl rfl h1 (hE ▸ h0)
  cases this
 have hcs : csize w B = c.size := by unfold AM.csize; rw [hc]
 rw [hcs] at hs
 have hin : i <= l.length := by omega
 have hv0 : o2 < c2.size := by
  obtain ⟨h, _⟩ := hvs 0 _ (List.getElem?_eq_getElem (by omega : 0 < vs.length))
  rw [Nat.add_zero] at h
  exact (Array.getElem?_eq_some_iff.1 h).1
 have hsrcl : (piece c (o + i * 3) ((l.length - i) * 3)).length = (l.length - i) * 3 := piece_len _ _ _
 have hpf : o + i * 3 + (l.length - i) * 3 <= c.size := by omega
 have hpg : ∀ j, j < (l.length - i) * 3 -> (piece c (o + i * 3) ((l.length - i) * 3))[j]? = c[o + i * 3 + j]? := fun j hj => piece_get hpf hj
 have hdr := hh.drew 2
 have hone : ∀ v ∈ piece c (o + i * 3) ((l.length - i) * 3), v.oneCell' = true := fun v hv => by
  obtain ⟨j, hj⟩ := List.getElem?_of_mem hv
  have hjl : j < (l.length - i) * 3 := by
   rcases Nat.lt_or_ge j ((l.length - i) * 3) with h | h
   ·exact h
   ·rw [List.getElem?_eq_none (by rw [hsrcl]; exact h)] at hj; cases hj
  rw [hpg j hjl] at hj
  obtain ⟨s1, s2, s3⟩ := split3 hjl
  obtain ⟨u, g1, g2, _⟩ := hcell (i + j / 3) (j % 3) (by omega) s2
  have : o + (i + j / 3) * 3 + j % 3 = o + i * 3 + j := by omega
  rw [this, hj] at g1
  cases g1
  exact g2
 have hvone : ∀ v ∈ vs, v.oneCell' = true := fun v hv => by
  obtain ⟨j, hj⟩ := List.getElem?_of_mem hv
  exact (hvs j v hj).2.1
 have hu30 : PG.underlying 30 = some (.slice 75) := by kernel_rfl
 have hs75 : (PG.info? 75).map (·.size) = some 3 := by kernel_rfl
 have hcd : w.drew.heap[B]? = some (.cells c e fz) := hc
 have hm1 : Nat.min (l.length + 1 - i) (l.length - i) = l.length - i := Nat.min_eq_right (by omega)
 have hm2 : Nat.min 1 (l.length + 1 - i) = 1 := Nat.min_eq_left (by omega)
 have hcp1 : ∀ ty ll m dc sc, ll = l.length - i -> m = l.length + 1 - i -> (Builtin.copy_ #[30, 30] ty #[.slice (some ⟨B, o + (i + 1) * 3, none⟩) ll dc, .slice (some ⟨B, o + i * 3, none⟩) m sc]).run PG w.drew =
   .ok (goInt (l.length - i : Nat)) (World.setBlk w.drew B (.cells (splice c (o + (i + 1) * 3) (piece c (o + i * 3) ((l.length - i) * 3))) e fz)) := by
  intro ty ll m dc sc h2 h3
  subst h2 h3
  have := run_copy_sz (P := PG) w.drew 30 30 ty 75 3 B (o + (i + 1) * 3) (l.length - i) dc B (o + i * 3) (l.length + 1 - i) sc (piece c (o + i * 3) ((l.length - i) * 3)) hu30 hs75 (by rw [hsrcl, hm1])
   (fun j v hj => by
    have hjl : j < (l.length - i) * 3 := by
     rcases Nat.lt_or_ge j ((l.length - i) * 3) with h | h
     ·exact h
     ·rw [List.getElem?_eq_none (by rw [hsrcl]; exact h)] at hj; cases hj
    rw [cell_of hcd, <- hpg j hjl]; exact hj) hcd (by rw [hsrcl]; omega) ht hone
  rw [hm1] at this
  exact this
 have hW1 := setBlk_same (w := w.drew) (o := .cells (splice c (o + (i + 1) * 3) (piece c (o + i * 3) ((l.length - i) * 3))) e fz) (lt_of_heap hcd)
 have ht1 : thawed (splice c (o + (i + 1) * 3) (piece c (o + i * 3) ((l.length - i) * 3))) fz := fun k hk => ht k (by simpa using hk)
 have hcp2 : ∀ ty ll dc, ll = l.length + 1 - i -> (Builtin.copy_ #[30, 30] ty #[.slice (some ⟨B, o + i * 3, none⟩) ll dc, .slice (some ⟨B2, o2, none⟩) 1 vc]).run PG (World.setBlk w.drew B (.cells (splice c (o + (i + 1) * 3) (piece c (o + i * 3) ((l.length - i) * 3))) e fz)) =
   .ok (goInt 1) (World.setBlk w.drew B (.cells (insC c o i l.length (piece c (o + i * 3) ((l.length - i) * 3)) vs) e fz)) := by
  intro ty ll dc h2
  subst h2
  have := run_copy_sz (P := PG) (World.setBlk w.drew B (.cells (splice c (o + (i + 1) * 3) (piece c (o + i * 3) ((l.length - i) * 3))) e fz)) 30 30 ty 75 3 B (o + i * 3) (l.length + 1 - i) dc B2 o2 1 vc vs hu30 hs75 (by rw [hvl, hm2])
   (fun j v hj => by
    have h3 : (World.setBlk w.drew B (.cells (splice c (o + (i + 1) * 3) (piece c (o + i * 3) ((l.length - i) * 3))) e fz)).heap[B2]? = some (.cells c2 e2 fz2) := by rw [setBlk_ne hne]; exact hc2
    rw [cell_of h3]; exact (hvs j v hj).1) hW1 (by rw [hvl, splice_size]; omega) ht1 hvone
  rw [hm2, setBlk_two] at this
  exact this
 have hsz : (insC c o i l.length (piece c (o + i * 3) ((l.length - i) * 3)) vs).size = c.size := by unfold insC; rw [splice_size, splice_size]
 have hrun := Go.Proofs.YtiehekhdjafbaaaGreat.ins_shift B o l.length cap i B2 o2 vc w _ _ hi hcap (by omega) (fun x lb cb => ov_run hc hc2 hne (by omega) ht2 hns2 hv0) hcp1 hcp2
 have hM : Mut φ (hget (insH l a)) B := ⟨0, o, 3, rfl, h0⟩
 have ext := Ext.setBlk (M := Mut φ (hget (insH l a))) (c' := insC c o i l.length (piece c (o + i * 3) ((l.length - i) * 3)) vs) hcd hsz hM
 have mono : ∀ {v : AV} {u : Value}, RV w I Phi.no v u -> RV (World.setBlk w.drew B (.cells (insC c o i l.length (piece c (o + i * 3) ((l.length - i) * 3)) vs) e fz)) I Phi.no v u := fun hvu =>
  hvu.mono (fun B' hB' => ⟨hB', (ext.keep B' (hdr.1.lt B' hB') fun ⟨b, o', sz, hm, e'⟩ => hh.disj b B' o' sz hm e' hB').trans rfl⟩) (fun B' => ext.csize B') (Phi.le_refl _)
 have hnss : notStr (insC c o i l.length (piece c (o + i * 3) ((l.length - i) * 3)) vs) fz 3 := by
  unfold notStr at *; rw [hsz]; exact hns
 have hmv := hdr.1.move (b := 0) (nx := 2) h0 rfl rfl hcd hsz (blkM (insL l i a)) o rfl (insRB (w := w) hin (setBlk_same (lt_of_heap hcd)) (fun k hk => ht k (by rw [<- hsz]; exact hk)) hnss mono fun k r hk hr => by
  rw [insC_get hin hsrcl hvl (by omega) hk hr]
  by_cases c1 : k < i
  ·rw [if_pos c1, insL_lt hin c1]
   exact hcell k r (by omega) hr
  ·rw [if_neg c1]
   by_cases c2 : k = i
   ·subst c2
    rw [if_pos rfl, insL_eq hin]
    have hv : vs[r]? = some vs[r] := List.getElem?_eq_getElem (by omega)
    obtain ⟨g1, g2, g3⟩ := hvs r _ hv
    exact ⟨_, hv, g2, g3⟩
   ·rw [if_neg c2, insL_gt hin (by omega), hpg _ (by omega)]
    have : o + i * 3 + ((k - 1 - i) * 3 + r) = o + (k - 1) * 3 + r := by omega
    rw [this]
    exact hcell (k - 1) r (by omega) hr) 2
 rw [<- insO_rd] at hmv
 refine ⟨_, hrun, hmv.1, hdr.2.trans hmv.2.1, ?_⟩
 rw [hcs]
 unfold AM.csize
 rw [setBlk_same (lt_of_heap hcd)]
 exact hsz
theorem growC_get {R : Array Value} {i n : Nat} {src vs : List Value} (hi : i <= n) (hs : src.length = (n - i) * 3) (hv : vs.length = 3) (hc : (n + 1) * 3 <= R.size) {k r : Nat} (hk : k < n + 1) (hr : r < 3) :
  (splice (splice R (i * 3) vs) ((i + 1) * 3) src)[0 + k * 3 + r]? = if k < i then R[k * 3 + r]? else if k = i then vs[r]? else src[(k - 1 - i) * 3 + r]? := by
 rw [splice_get _ _ _ _ (by rw [splice_size, hs]; omega), splice_get _ _ _ _ (by rw [hv]; omega), hv, hs, Nat.zero_add]
 by_cases h1 : k < i
 ·rw [if_pos h1, if_neg (by omega), if_neg (by omega)]
 ·rw [if_neg h1]
  by_cases h2 : k = i
  ·subst h2
   rw [if_pos rfl, if_neg (by omega), if_pos (by omega)]
   congr 1; omega
  ·rw [if_neg h2, if_pos (by omega)]
   congr 1
   omega
theorem zeroCells_size (z : Array Value) (n : Nat) : (Builtin.zeroCells z n).size = n * z.size := by simp [Builtin.zeroCells]
theorem ins_new {w : World} {I : Nat -> Prop} {φ : Phi} {l : List Alive} {i : Nat} {a : Alive} (hh : RH w I φ (hget (insH l a))) {B o B2 o2 vc : Nat} (h0 : φ 0 = some (B, o, 3)) (h1 : φ 1 = some (B2, o2, 3)) (hi : i < l.length) (hl : l.length <= 100000)
  (hs : o + l.length * 3 <= csize w B) :
  ∃ w2 G, l.length + 1 <= G /\ (Calls PG F_slices_Insert_api_Alive #[.slice (some ⟨B, o, none⟩) l.length l.length, .int .i64 i, .slice (some ⟨B2, o2, none⟩) 1 vc] w fun e w' => e = .returned (.slice (some ⟨w.heap.size, 0, none⟩) (l.length + 1) G) /\ w' = w2) /\
   RH w2 I (φ.set 2 (w.heap.size, 0, 3)) (hget (insO l i a)) /\ Step 2 (hget (insH l a)) φ I w (hget (insO l i a)) (φ.set 2 (w.heap.size, 0, 3)) I w2 /\ G * 3 <= csize w2 w.heap.size := by
 obtain ⟨c, e, fz, hc, ht, hns, hcell⟩ := row_cells (b := 0) hh rfl h0
 obtain ⟨c2, e2, fz2, hc2, ht2, hns2, vs, hvl, hvs⟩ := one_cells (b := 1) hh rfl h1
 have hcs : csize w B = c.size := by unfold AM.csize; rw [hc]
 rw [hcs] at hs
 have hin : i <= l.length := by omega
 have hBlt := lt_of_heap hc
 have hB2lt := lt_of_heap hc2
 have hsrcl : (piece c (o + i * 3) ((l.length - i) * 3)).length = (l.length - i) * 3 := piece_len _ _ _
 have hpg : ∀ j, j < (l.length - i) * 3 -> (piece c (o + i * 3) ((l.length - i) * 3))[j]? = c[o + i * 3 + j]? := fun j hj => piece_get (by omega) hj
 have hol : (piece c o (i * 3)).length = i * 3 := piece_len _ _ _
 have hog : ∀ j, j < i * 3 -> (piece c o (i * 3))[j]? = c[o + j]? := fun j hj => piece_get (by omega) hj
 have hdr := hh.drew 2
 have hone : ∀ v ∈ piece c (o + i * 3) ((l.length - i) * 3), v.oneCell' = true := fun v hv => by
  obtain ⟨j, hj⟩ := List.getElem?_of_mem hv
  have hjl : j < (l.length - i) * 3 := by
   rcases Nat.lt_or_ge j ((l.length - i) * 3) with h | h
   ·exact h
   ·rw [List.getElem?_eq_none (by rw [hsrcl]; exact h)] at hj; cases hj
  rw [hpg j hjl] at hj
  obtain ⟨s1, s2, s3⟩ := split3 hjl
  obtain ⟨u, g1, g2, _⟩ := hcell (i + j / 3) (j % 3) (by omega) s2
  have : o + (i + j / 3) * 3 + j % 3 = o + i * 3 + j := by omega
  rw [this, hj] at g1
  cases g1
  exact g2
 have hvone : ∀ v ∈ vs, v.oneCell' = true := fun v hv => by
  obtain ⟨j, hj⟩ := List.getElem?_of_mem hv
  exact (hvs j v hj).2.1
 have hu30 : PG.underlying 30 = some (.slice 75) := by kernel_rfl
 have hu3 : PG.underlying 3 = some (.int .i64) := by kernel_rfl
 have hs75 : (PG.info? 75).map (·.size) = some 3 := by kernel_rfl
 have hi75 : (PG.info? 75).map (fun i => (i.size, i.bytes, i.zero.map (·.cells.size))) = some (3, 24, some 3) := by kernel_rfl
 obtain ⟨i0, hi0, e1, e3, z, hz, hzs⟩ : ∃ i0, PG.info? 75 = some i0 /\ i0.size = 3 /\ i0.bytes = 24 /\ ∃ z, i0.zero = some z /\ z.cells.size = 3 := by
  cases hq : PG.info? 75 with
  | none => rw [hq] at hi75; cases hi75
  | some i0 =>
   rw [hq] at hi75
   simp only [Option.map_some, Option.some.injEq, Prod.mk.injEq] at hi75
   obtain ⟨a1, a2, a3⟩ := hi75
   cases hz : i0.zero with
   | none => rw [hz] at a3; cases a3
   | some z => rw [hz] at a3; exact ⟨i0, rfl, a1, a2, z, hz, by simpa using a3⟩
 have hold : (Builtin.firstCells i0.size i (.slice (some ⟨B, o, none⟩) i l.length)).run PG w.drew = .ok (piece c o (i * 3)).toArray w.drew := by
  rw [e1]
  exact run_loadCells_of (P := PG) (w := w.drew) (piece c o (i * 3)) hol fun j v hj => by
   have hjl : j < i * 3 := by
    rcases Nat.lt_or_ge j (i * 3) with h | h
    ·exact h
    ·rw [List.getElem?_eq_none (by rw [hol]; exact h)] at hj; cases hj
   rw [cell_of (w := w.drew) hc, <- hog j hjl]; exact hj
 have hik : i + (l.length + 1 - i) = l.length + 1 := by omega
 have hap := Lib.run_append_grow_zeros (P := PG) w 30 3
 obtain ⟨G, hG⟩ : ∃ G, G = grownCap w (l.length + 1) l.length 75 := ⟨_, rfl⟩
 obtain ⟨R, hR⟩ : ∃ R : Array Value, R = (piece c o (i * 3)).toArray ++ Builtin.zeroCells z.cells (l.length + 1 - i) ++ Builtin.zeroCells z.cells (G - (l.length + 1)) := ⟨_, rfl⟩
 have hGn : l.length + 1 <= G := by rw [hG]; exact grownCap_ge w _ _ _
 have hG63 : G <= 9223372036854775807 := by
  have := grownCap_le_maxLen w (l.length + 1) l.length 75 (by unfold maxLen; omega)
  rw [<- hG] at this
  unfold maxLen at this
  omega
 have hRs : R.size = G * 3 := by
  rw [hR, Array.size_append, Array.size_append, zeroCells_size, zeroCells_size, hzs]
  have : (piece c o (i * 3)).toArray.size = i * 3 := by simpa using hol
  rw [this]; omega
 have hRg : ∀ j, j < i * 3 -> R[j]? = c[o + j]? := fun j hj => by
  have h2 : (piece c o (i * 3)).toArray.size = i * 3 := by simpa using hol
  rw [hR, Array.append_assoc, Array.getElem?_append_left (by rw [h2]; exact hj), <- hog j hj]
  simp
 have happ : ∀ ty x, x = (l.length : Int) + 1 - i -> (Builtin.append_ #[30, 3] ty #[.slice (some ⟨B, o, none⟩) i l.length, .int .i64 x]).run PG w = .ok (.slice (some ⟨w.heap.size, 0, none⟩) (l.length + 1) G) (w.drew.alloc (.cells R 75)) := by
  intro ty x hx
  have h := hap ty 75 i0 z .i64 .i64 hu30 hu3 hi0 hz (some ⟨B, o, none⟩) i l.length (piece c o (i * 3)) hold (l.length + 1 - i) (by omega) (by omega) (by omega) (by omega) (by rw [e3]; omega) (by rw [e3, hik]; exact growslice_fits (by omega) (by omega))
  rw [hik, <- hG, <- hR] at h
  have : x = ((l.length + 1 - i : Nat) : Int) := by omega
  rw [this]
  exact h
 have hW1 : (w.drew.alloc (.cells R 75)).heap[w.heap.size]? = some (.cells R 75 (0, 0)) := alloc_new w.drew _
 have hth0 : ∀ {c : Array Value}, thawed c (0, 0) := fun k _ h => Nat.not_lt_zero _ h.2
 have hns0 : ∀ {c : Array Value}, notStr c (0, 0) 3 := .inr fun h => Nat.not_lt_zero _ h.2
 have hm1 : Nat.min 1 (l.length + 1 - i) = 1 := Nat.min_eq_left (by omega)
 have hm2 : Nat.min (l.length - i) (l.length - i) = l.length - i := Nat.min_self _
 have hcp1 : ∀ ty ll dc, ll = l.length + 1 - i -> (Builtin.copy_ #[30, 30] ty #[.slice (some ⟨w.heap.size, i * 3, none⟩) ll dc, .slice (some ⟨B2, o2, none⟩) 1 vc]).run PG (w.drew.alloc (.cells R 75)) =
   .ok (goInt 1) (World.setBlk (w.drew.alloc (.cells R 75)) w.heap.size (.cells (splice R (i * 3) vs) 75 (0, 0))) := by
  intro ty ll dc h2
  subst h2
  have := run_copy_sz (P := PG) (w.drew.alloc (.cells R 75)) 30 30 ty 75 3 w.heap.size (i * 3) (l.length + 1 - i) dc B2 o2 1 vc vs hu30 hs75 (by rw [hvl, hm1])
   (fun j v hj => by
    have h3 : (w.drew.alloc (.cells R 75)).heap[B2]? = some (.cells c2 e2 fz2) := by rw [alloc_old w.drew _ hB2lt]; exact hc2
    rw [cell_of h3]; exact (hvs j v hj).1) hW1 (by rw [hvl, hRs]; omega) hth0 hvone
  rw [hm1] at this
  exact this
 have hW2 : (World.setBlk (w.drew.alloc (.cells R 75)) w.heap.size (.cells (splice R (i * 3) vs) 75 (0, 0))).drew.heap[w.heap.size]? = some (.cells (splice R (i * 3) vs) 75 (0, 0)) := setBlk_same (lt_of_heap hW1)
 have hcp2 : ∀ ty ll m dc sc, ll = l.length - i -> m = l.length - i -> (Builtin.copy_ #[30, 30] ty #[.slice (some ⟨w.heap.size, (i + 1) * 3, none⟩) ll dc, .slice (some ⟨B, o + i * 3, none⟩) m sc]).run PG (World.setBlk (w.drew.alloc (.cells R 75)) w.heap.size (.cells (splice R (i * 3) vs) 75 (0, 0))).drew =
   .ok (goInt (l.length - i : Nat)) (World.setBlk (World.setBlk (w.drew.alloc (.cells R 75)) w.heap.size (.cells (splice R (i * 3) vs) 75 (0, 0))).drew w.heap.size (.cells (splice (splice R (i * 3) vs) ((i + 1) * 3) (piece c (o + i * 3) ((l.length - i) * 3))) 75 (0, 0))) := by
  intro ty ll m dc sc h2 h3
  subst h2 h3
  have := run_copy_sz (P := PG) (World.setBlk (w.drew.alloc (.cells R 75)) w.heap.size (.cells (splice R (i * 3) vs) 75 (0, 0))).drew 30 30 ty 75 3 w.heap.size ((i + 1) * 3) (l.length - i) dc B (o + i * 3) (l.length - i) sc (piece c (o + i * 3) ((l.length - i) * 3)) hu30 hs75 (by rw [hsrcl, hm2])
   (fun j v hj => by
    have hjl : j < (l.length - i) * 3 := by
     rcases Nat.lt_or_ge j ((l.length - i) * 3) with h | h
     ·exact h
     ·rw [List.getElem?_eq_none (by rw [hsrcl]; exact h)] at hj; cases hj
    have h3 : (World.setBlk (w.drew.alloc (.cells R 75)) w.heap.size (.cells (splice R (i * 3) vs) 75 (0, 0))).drew.heap[B]? = some (.cells c e fz) := by
     show (World.setBlk (w.drew.alloc (.cells R 75)) w.heap.size (.cells (splice R (i * 3) vs) 75 (0, 0))).heap[B]? = _
     rw [setBlk_ne (by omega), alloc_old w.drew _ hBlt]; exact hc
    rw [cell_of h3, <- hpg j hjl]; exact hj) hW2 (by rw [hsrcl, splice_size, hRs]; omega) hth0 hone
  rw [hm2] at this
  exact this
 have hrun := Go.Proofs.YtiehekhdjafbaaaGreat.ins_grow B o l.length i B2 o2 vc w.heap.size G w _ _ _ hi hGn hG63 (by omega) happ hcp1 hcp2
 have x0 : ∀ {W : World} {φ' : Phi} {cc : Array Value}, W.heap[w.heap.size]? = some (.cells cc 75 (0, 0)) -> RB W I φ' w.heap.size 0 3 (.arr true 3 []) := fun hW =>
  ⟨rfl, ⟨_, _, _, hW, fun _ => ⟨hth0, hns0⟩⟩, fun i cs h => by simp at h, fun i cs k c h => by simp at h⟩
 have r2 := hdr.1.alloc (nx := 2) rfl (.cells R 75) (.arr true 3 []) 3 rfl (x0 hW1) okObj.row 2
 have r3 := r2.1.write (b := 2) (Phi.set_same _ _ _) rfl hW1 (splice_size vs R (i * 3)) (.arr true 3 []) rfl (x0 (setBlk_same (lt_of_heap hW1))) 2
 have r4 := r3.1.drew 2
 have st4 := ((hdr.2.trans r2.2.1).trans r3.2).trans r4.2
 have e5 := Ext.setBlk (M := fun B' => B' = w.heap.size) (c' := splice (splice R (i * 3) vs) ((i + 1) * 3) (piece c (o + i * 3) ((l.length - i) * 3))) hW2 (splice_size _ _ _) rfl
 have mono : ∀ {v : AV} {u : Value}, RV w I Phi.no v u -> RV (World.setBlk (World.setBlk (w.drew.alloc (.cells R 75)) w.heap.size (.cells (splice R (i * 3) vs) 75 (0, 0))).drew w.heap.size (.cells (splice (splice R (i * 3) vs) ((i + 1) * 3) (piece c (o + i * 3) ((l.length - i) * 3))) 75 (0, 0))) I Phi.no v u := fun hvu =>
  (hvu.mono (fun B' hB' => ⟨hB', st4.ext.keep B' (hh.lt B' hB') fun ⟨b, o', sz, hm, e'⟩ => hh.disj b B' o' sz hm e' hB'⟩) (fun B' => st4.ext.csize B') (Phi.le_refl _)).mono
   (fun B' hB' => ⟨hB', e5.keep B' (r4.1.lt B' hB') (fun hE => by have := hh.lt B' hB'; omega)⟩) (fun B' => e5.csize B') (Phi.le_refl _)
 have r5 := r4.1.write (b := 2) (Phi.set_same _ _ _) rfl hW2 (splice_size _ _ _) (blkM (insL l i a)) rfl (insRB (w := w) (q := 0) hin (setBlk_same (lt_of_heap hW2)) hth0 hns0 mono fun k r hk hr => by
  rw [growC_get hin hsrcl hvl (by rw [hRs]; omega) hk hr]
  by_cases c1 : k < i
  ·rw [if_pos c1, insL_lt hin c1, hRg _ (by omega)]
   have : o + (k * 3 + r) = o + k * 3 + r := by omega
   rw [this]
   exact hcell k r (by omega) hr
  ·rw [if_neg c1]
   by_cases c2 : k = i
   ·subst c2
    rw [if_pos rfl, insL_eq hin]
    have hv : vs[r]? = some vs[r] := List.getElem?_eq_getElem (by omega)
    obtain ⟨g1, g2, g3⟩ := hvs r _ hv
    exact ⟨_, hv, g2, g3⟩
   ·rw [if_neg c2, insL_gt hin (by omega), hpg _ (by omega)]
    have : o + i * 3 + ((k - 1 - i) * 3 + r) = o + (k - 1) * 3 + r := by omega
    rw [this]
    exact hcell (k - 1) r (by omega) hr) 2
 have r6 := r5.1.kill 0 rfl 2
 have hrd : rdput (rdput (rdput (rdput (hget (insH l a)) 2 (.arr true 3 [])) 2 (.arr true 3 [])) 2 (blkM (insL l i a))) 0 .dead = hget (insO l i a) := by
  funext b
  match b with
  | 0 => rfl
  | 1 => rfl
  | 2 => rfl
  | _ + 3 => rfl
 rw [hrd] at r6
 refine ⟨_, G, hGn, hrun, r6.1, (st4.trans r5.2).trans r6.2, ?_⟩
 unfold AM.csize
 rw [setBlk_same (lt_of_heap hW2)]
 simp only [splice_size]
 omega
def insA (l : List Alive) (i : Nat) : List AV := [.sl 3 0 0 l.length 0, .int .i64 i, .sl 3 1 0 1 1]
theorem enter112 (ra : Array Value) (w : World) : (callFunc F_slices_Insert_api_Alive ra).run PG w = .ok (.enter F_slices_Insert_api_Alive ra) w := by
 have hfn : PG.funcs[F_slices_Insert_api_Alive]? = some Go.Proofs.Tryz.f112 := Go.Proofs.Tryz.func112
 have hname : (Go.Proofs.Tryz.f112.name == "runtime.NumGoroutine") = false := by kernel_rfl
 have hbody : Go.Proofs.Tryz.f112.body.isNone = false := by kernel_rfl
 simp only [callFunc, Sem.run_bind, run_program, Result.andThen_ok, hfn, hname, hbody, Bool.false_eq_true, if_false, Sem.run_pure]
theorem sl_inv {w : World} {I : Nat -> Prop} {φ : Phi} {sz b off len cm : Nat} {u : Value} (h : RV w I φ (.sl sz b off len cm) u) (hn : 0 < len) :
  ∃ B o cap, φ b = some (B, o, sz) /\ len <= cap /\ cm <= cap /\ o + (off + cap) * sz <= csize w B /\ u = .slice (some ⟨B, o + off * sz, none⟩) len cap := by
 cases h with
 | sl _ _ B o _ _ _ cap q h hq hl hc hs => exact ⟨B, o, cap, h, hl, hc, hs, by rw [hq]⟩
 | sle => omega
theorem ins_con {l : List Alive} {i : Nat} {a : Alive} (hi : i < l.length) (hl : l.length <= 100000) :
  Contract PG F_slices_Insert_api_Alive (insA l i) (insH l a) (.sl 3 2 0 (l.length + 1) 0) (insO l i a) /\ (insH l a).length <= (insO l i a).length := by
 refine ⟨fun w I φ ra hh hx => ?_, by show 2 <= 3; omega⟩
 obtain ⟨hsz, hel⟩ := hx
 have hsz : ra.size = 3 := hsz.symm
 have g0 := hel 0 _ ra[0] rfl (Array.getElem?_eq_getElem (by omega))
 have g1 := hel 1 _ ra[1] rfl (Array.getElem?_eq_getElem (by omega))
 have g2 := hel 2 _ ra[2] rfl (Array.getElem?_eq_getElem (by omega))
 obtain ⟨B, o, cap, h0, hc1, _, hs, e0⟩ := sl_inv g0 (by omega)
 obtain ⟨B2, o2, vc, h1, _, _, _, e2⟩ := sl_inv g2 (by omega)
 have e1 : ra[1] = .int .i64 i := by
  generalize ra[1] = v at g1
  cases g1
  rfl
 have hra : ra = #[.slice (some ⟨B, o, none⟩) l.length cap, .int .i64 i, .slice (some ⟨B2, o2, none⟩) 1 vc] := by
  rw [Nat.zero_mul, Nat.add_zero] at e0 e2
  refine Array.ext (by simp [hsz]) fun j h3 h4 => ?_
  match j, h3 with
  | 0, _ => exact e0
  | 1, _ => exact e1
  | 2, _ => exact e2
  | j + 3, h => omega
 subst hra
 rw [Nat.zero_add] at hs
 refine .inl ⟨enter112 _ _, ?_⟩
 by_cases hr : l.length + 1 <= cap
 ·obtain ⟨w2, hrun, a1, a2, a3⟩ := ins_place hh h0 h1 hi hl hr hs
  refine Calls.mono hrun fun e w' ⟨he, hw⟩ => ⟨_, he, φ.set 2 (B, o, 3), I, ?_, hw ▸ a1, hw ▸ a2⟩
  subst hw
  exact .sl 3 2 B o 0 _ 0 cap o (Phi.set_same _ _ _) (by omega) hr (Nat.zero_le _) (by rw [a3]; omega)
 ·have hcap : cap = l.length := by omega
  subst hcap
  obtain ⟨w2, G, hG, hrun, a1, a2, a3⟩ := ins_new hh h0 h1 hi hl hs
  refine Calls.mono hrun fun e w' ⟨he, hw⟩ => ⟨_, he, φ.set 2 (w.heap.size, 0, 3), I, ?_, hw ▸ a1, hw ▸ a2⟩
  subst hw
  exact .sl 3 2 w.heap.size 0 0 _ 0 G 0 (Phi.set_same _ _ _) (by omega) hG (Nat.zero_le _) (by omega)
end Go.Wk
end
noncomputable section
open Go Go.AM Go.Md
namespace Go.Wk
set_option maxRecDepth 100000
set_option maxHeartbeats 400000
theorem RH.congr {w : World} {I : Nat -> Prop} {φ : Phi} {rd rd' : Nat -> BS} (h : RH w I φ rd) (h1 : ∀ b, rd' b = .none -> rd b = .none) (h2 : ∀ b, live (rd' b) = live (rd b)) (h3 : ∀ b, mutable (rd' b) = mutable (rd b))
  (h4 : ∀ b B o sz, RB w I φ B o sz (rd b) -> RB w I φ B o sz (rd' b)) : RH w I φ rd' :=
 ⟨fun b hb => h.none b (h1 b hb), fun b hb => by
   obtain ⟨B, o, sz, e, r⟩ := h.blk b (by rw [<- h2]; exact hb)
   exact ⟨B, o, sz, e, h4 b B o sz r⟩,
  fun b b' B o sz o' sz' hm hm' => h.inj b b' B o sz o' sz' (by rw [<- h3]; exact hm) (by rw [<- h3]; exact hm'), fun b B o sz hm => h.disj b B o sz (by rw [<- h3]; exact hm),
  fun b B o sz hl hm => h.imm b B o sz (by rw [<- h2]; exact hl) (by rw [<- h3]; exact hm), h.lt⟩
theorem Step.congr {base : Nat} {rd rd1 rd1' : Nat -> BS} {φ φ' : Phi} {I I' : Nat -> Prop} {w w' : World} (h : Step base rd φ I w rd1 φ' I' w') (h3 : ∀ b, mutable (rd1' b) = mutable (rd1 b)) : Step base rd φ I w rd1' φ' I' w' :=
 ⟨h.le, h.Ile, h.Inew, fun B ⟨b, o, sz, hm, e⟩ => h.mt B ⟨b, o, sz, by rw [<- h3]; exact hm, e⟩, h.ext⟩
theorem RB.seq_congr {w : World} {I : Nat -> Prop} {φ : Phi} {B o sz s n : Nat} {m : Bool} {f g : Nat -> List AV} (h : RB w I φ B o sz (.seq m s n f)) (hfg : ∀ i, i < n -> f i = g i) : RB w I φ B o sz (.seq m s n g) :=
 ⟨h.1, h.2.1, fun i hi => by rw [<- hfg i hi]; exact h.2.2.1 i hi, fun i k c hi e => h.2.2.2 i k c hi (by rw [hfg i hi]; exact e)⟩
def envI : Env := envL [] (fun _ => none) []
theorem insEnd (n : Nat) (f : Nat -> List AV) (a : Alive) (i : Int) : callH envI 5 F_slices_Insert_api_Alive [AV.sl 3 0 0 (n + 1) 0, AV.int IntKind.i64 i, AV.sl 3 1 0 1 1] [BS.seq true 3 (n + 1) f, BS.arr true 3 [encAlive a]] =
 bif decide (0 <= i) && decide (i <= (↑(n + 1) : Int)) then
  bif decide (i = (↑(n + 1) : Int)) then
   bif (n + 1).ble (n + 1) then
    bif ((n + 1 + 1) * 24).ble 140737488355328 && (n + 1 + 1).ble 140737488355328 then
     some ((AV.sl 3 2 0 (n + 1 + 1) 0, [BS.dead, BS.arr true 3 [encAlive a], BS.seq true 3 (n + 1 + 1) fun i => bif i.blt (n + 1) then f i else bif i.blt (n + 1 + 1) then [encAlive a].getD (i - (n + 1)) [] else f (n + 1)]))
    else none
   else none
  else none
 else none := by kernel_rfl
theorem Contract.congrH {f : Nat} {args : List AV} {hp hp1 hp2 : Heap} {r : AV} (h : Contract PG f args hp r hp1) (h1 : ∀ b, hget hp2 b = .none -> hget hp1 b = .none) (h2 : ∀ b, live (hget hp2 b) = live (hget hp1 b)) (h3 : ∀ b, mutable (hget hp2 b) = mutable (hget hp1 b))
  (h4 : ∀ (w : World) (I : Nat -> Prop) (φ : Phi) b B o sz, RB w I φ B o sz (hget hp1 b) -> RB w I φ B o sz (hget hp2 b)) : Contract PG f args hp r hp2 := fun w I φ ra hh hx =>
 (h w I φ ra hh hx).mono fun u w' ⟨φ', I', a1, a2, a3⟩ => ⟨φ', I', a1, RH.congr a2 h1 h2 h3 (h4 w' I' φ'), Step.congr a3 h3⟩
theorem insEnd_con {l : List Alive} {a : Alive} (hne : l ≠ []) (hl : l.length <= 100000) :
  Contract PG F_slices_Insert_api_Alive (insA l l.length) (insH l a) (.sl 3 2 0 (l.length + 1) 0) (insO l l.length a) := by
 obtain ⟨n, hn⟩ : ∃ n, l.length = n + 1 := ⟨l.length - 1, by have := List.length_pos_iff.2 hne; omega⟩
 have e := insEnd n (fun k => encAlive (l.getD k default)) a ((n + 1 : Nat) : Int)
 rw [decide_eq_true (by omega), decide_eq_true (Int.le_refl _), Bool.and_true, cond_true, decide_eq_true rfl, cond_true, ble_true (Nat.le_refl _), cond_true, ble_true (by omega), ble_true (by omega), Bool.and_true, cond_true] at e
 have hc := (callH_ok (envL_ok ank) envL_code mixed e).1
 have ea : insA l l.length = [.sl 3 0 0 (n + 1) 0, .int .i64 ((n + 1 : Nat) : Int), .sl 3 1 0 1 1] := by unfold insA; rw [hn]
 have eh : insH l a = [.seq true 3 (n + 1) (fun k => encAlive (l.getD k default)), .arr true 3 [encAlive a]] := by unfold insH blkM; rw [hn]
 have er : (AV.sl 3 2 0 (l.length + 1) 0) = .sl 3 2 0 (n + 1 + 1) 0 := by rw [hn]
 have hil : (insL l l.length a).length = n + 1 + 1 := by rw [insL_len (Nat.le_refl _), hn]
 have eo : blkM (insL l l.length a) = .seq true 3 (n + 1 + 1) fun k => encAlive ((insL l l.length a).getD k default) := by unfold blkM; rw [hil]
 rw [ea, eh, er]
 unfold insO
 rw [eo]
 refine Contract.congrH hc (fun b hb => ?_) (fun b => ?_) (fun b => ?_) fun w I φ b B o sz hr => ?_
 ·match b, hb with
  | 0, hb => cases hb
  | 1, hb => cases hb
  | 2, hb => cases hb
  | _ + 3, _ => rfl
 ·match b with
  | 0 => rfl
  | 1 => rfl
  | 2 => rfl
  | _ + 3 => rfl
 ·match b with
  | 0 => rfl
  | 1 => rfl
  | 2 => rfl
  | _ + 3 => rfl
 ·match b, hr with
  | 0, hr => exact hr
  | 1, hr => exact hr
  | 2, hr =>
   refine RB.seq_congr hr fun k hk => ?_
   by_cases h1 : k < n + 1
   ·rw [blt_true h1, cond_true, insL_lt (Nat.le_refl _) (by omega)]
   ·have : k = l.length := by omega
    subst this
    rw [blt_false (by omega), cond_false, blt_true (by omega), cond_true, insL_eq (Nat.le_refl _)]
    have : l.length - (n + 1) = 0 := by omega
    rw [this]; rfl
  | _ + 3, hr => exact hr
structure IX where
 l : List Alive
 i : Nat
 a : Alive
def dIX (args : List AV) (h : Heap) : IX := ⟨dNs h 0, (getI args 1).toNat, decAlive (cell0 h 1)⟩
def pIX (x : IX) : Prop := x.i <= x.l.length /\ x.l.length <= 100000 /\ x.l ≠ []
def eIX (x : IX) : List AV × Heap := (insA x.l x.i, insH x.l x.a)
def oIX (x : IX) : AV × Heap := (.sl 3 2 0 (x.l.length + 1) 0, insO x.l x.i x.a)
theorem dIX_eq (x : IX) : dIX (eIX x).1 (eIX x).2 = x := by
 obtain ⟨l, i, a⟩ := x
 have h2 : (List.range l.length).map (fun k => decAlive (encAlive (l.getD k default))) = l := decL_encL (e := encAlive) (d := decAlive) (z := default) (sz := 3) dec_encAlive l
 show (⟨(List.range l.length).map (fun k => decAlive (encAlive (l.getD k default))), ((i : Int)).toNat, decAlive (encAlive a)⟩ : IX) = _
 rw [h2, Int.toNat_natCast, dec_encAlive]
theorem insAt_con (x : IX) (h : pIX x) : Contract PG F_slices_Insert_api_Alive (eIX x).1 (eIX x).2 (oIX x).1 (oIX x).2 /\ (eIX x).2.length <= (oIX x).2.length := by
 obtain ⟨l, i, a⟩ := x
 obtain ⟨h1, h2, h3⟩ := h
 simp only [] at h1 h2 h3
 refine ⟨?_, by show 2 <= 3; omega⟩
 by_cases hi : i < l.length
 ·exact (ins_con hi h2).1
 ·have : i = l.length := by omega
  subst this
  exact insEnd_con h3 h2
def kIns : Known := .specH F_slices_Insert_api_Alive dIX pIX eIX oIX
theorem kIns_ok : kIns.Ok PG := Known.specH_ok insAt_con
def gIns {R : Type} (x : IX) (K : IX -> Option R) : Option R := gCH dIX pIX eIX (eIX x).1 (eIX x).2 K
theorem gIns_eq {R : Type} {x : IX} {K : IX -> Option R} (h : pIX x) : gIns x K = K x := gCH_eq x (dIX_eq x) h rfl
def envB2 : Env := envL [] (fun f => bif Nat.beq f F_slices_Clone_api_Alive then some 1 else none) []
theorem cloA_eq (n : Nat) (f : Nat -> List AV) : callH envB2 2 F_slices_Clone_api_Alive [.tr 3 (n + 1) f] [] = bif Nat.ble ((0 + (n + 1)) * 24) 140737488355328 && Nat.ble (0 + (n + 1)) 140737488355328 then some (.sl 3 0 0 (n + 1) 0, [.seq true 3 (n + 1) f]) else none := by kernel_rfl
theorem cloA_con (l : List Alive) (h : l.length <= 1000 /\ l ≠ []) : Contract PG F_slices_Clone_api_Alive (eAls l) [] (outBlk 3 encAlive default l).1 (outBlk 3 encAlive default l).2 := by
 obtain ⟨h1, h2⟩ := h
 obtain ⟨n, hn⟩ : ∃ n, l.length = n + 1 := ⟨l.length - 1, by have := List.length_pos_iff.2 h2; omega⟩
 have e := cloA_eq n (fun k => encAlive (l.getD k default))
 rw [ble_true (by omega), ble_true (by omega), Bool.and_true, cond_true] at e
 have hc := (callH_ok (envL_ok ank) envL_code mixed e).1
 unfold eAls encAlives encL outBlk
 rw [hn]
 exact hc
def kCloA : Known := .specB F_slices_Clone_api_Alive (dL decAlive) (fun l => l.length <= 1000 /\ l ≠ []) eAls (outBlk 3 encAlive default)
theorem kCloA_ok : kCloA.Ok PG := Known.specB_ok cloA_con
def mdT (f : Nat) : Option Nat := bif nmem f [F_slices_Clone_api_Alive] then some 1 else bif nmem f [F_slices_BinarySearchFunc_int] then some 0 else bif nmem f [F_slices_Insert_api_Alive] then some 5 else mdK f
def envT2 (l : List Known) : Env := { envL [] mdT l with msk := fun f => bif Nat.beq f F_coord_Up then [2, 4, 5, 6] else [] }
theorem envT2_ok {l : List Known} (h : ∀ k ∈ l, k.Ok PG) : EnvOk PG (envT2 l) := ⟨tt_ok rfl, orc_ok h⟩
theorem conT2 {l : List Known} (h : ∀ k ∈ l, k.Ok PG) {n f : Nat} {xs : List AV} {r : AV} (e : callT (envT2 l) n f xs = some r) : Contract PG f xs [] r [] := callT_ok (envT2_ok h) (codeOf_ok rfl) mixed e
def kn28 : List Known := [kMsgE, kCloA, kCloneMember, kBs, kIns]
theorem kn28_ok : ∀ k ∈ kn28, k.Ok PG := ak kMsgE_ok (ak kCloA_ok (ak kCloneMember_ok (ak kBs_ok (ak kIns_ok ank))))
inductive VF where
 | nil
 | emp
 | one (v : Md.View)
def VF.av : VF -> AV
 | .nil => .nils
 | .emp => .trl 5 []
 | .one v => .trl 5 [encView { v with shard := 0 }]
def beM (m : Msg) (x : VF) : List AV := (encMsg { m with kind := 7 }).set 25 x.av
def gVw {R : Type} (x : VF) (s : ES) (m : Msg) (p : Plan) (K : Plan -> Bool -> Option R) : Option R := match x with
 | .nil => K p s.he
 | .emp => K p s.he
 | .one v => bif !decide (s.p.phase = 3) then K p s.he else bif !decide (s.p.epoch = v.epoch) then K p s.he else bif decide ((p.chain.length : Int) = 0) then K p s.he else bif decide (0 < (p.chain.length : Int)) then
   bif !(decide ((p.chain.getD (Int.toNat 0) default).node = m.src) && (decide ((p.chain.getD (Int.toNat 0) default).boot = m.sboot) && true)) then K p s.he else
   bif decide (v.phase = 3) then gMs p.chain fun y => K { p with valid := y } true else K p true else none
def gAkN {R : Type} (l : List Ask) (b : Bool) (K : AV -> List BS -> Option R) : Option R := match l with
 | [] => K (aqV b) []
 | a :: t => gC dAk pAk eAk [encAsks (a :: t)] fun y => K (.sl 31 4 0 y.length 0) [blkA y]
def hpN (s : ES) (p : Plan) (n : Nat) (Nb : BS) (W : List AV) (A : AV) (B : List BS) : Heap := .arr true 23 [dsk s.e s.g (.sl 8 1 0 1 1) (.sl 3 2 0 n 0) (.sl 4 3 0 1 1) .nils A s.c .nils] :: .arr true 8 [encPlan p] :: Nb :: .arr true 4 [W] :: B
def gCA {R : Type} (l : List Alive) (k : List Alive -> Option R) : Option R := gC (dL decAlive) (fun l => l.length <= 1000 /\ l ≠ []) eAls [encAlives l] k
def gBuN {R : Type} (s : ES) (b : Bool) (K : Plan -> List Alive -> List Member -> AV -> AV -> List BS -> Option R) : Option R :=
 gMs s.p.chain fun y0 => gMs s.p.valid fun y1 => gCA s.ns fun y2 => gMs s.keep fun y3 => gFzV s.fz fun F => gAkN s.l b fun A B => K { s.p with chain := y0, valid := y1 } y2 y3 F A B
def gBs {R : Type} (ns : List Alive) (t : Int) (K : AlI -> Option R) : Option R := gC dBs pBs eBs [encAlives ns, .int .i64 t, fnB] K
def setN (ns : List Alive) (i : Int) (m : Msg) : BS := .seq true 3 ns.length fun k => bif k.beq (0 + i.toNat) then [.int .i64 m.src, .int .i64 m.sboot, .int .i64 0] else encAlive (ns.getD k default)
def putN (x : VF) (s : ES) (m : Msg) (p : Plan) (ns : List Alive) (ke : List Member) (F A : AV) (B : List BS) (y : AlI) : Option AV :=
 bif isAt y.1 y.2 (bsP y.1 y.2) then bif decide (((bsP y.1 y.2 : Nat) : Int) < (ns.length : Int)) then bif (0 + ((bsP y.1 y.2 : Nat) : Int).toNat).blt ns.length && true then
   gVw x s m p fun p' he => fin (hpN s p' ns.length (setN ns (bsP y.1 y.2 : Nat) m) [.bool s.fe, encMembers ke, F, .bool he] A B) else none else none
 else gCH dIX pIX eIX [.sl 3 0 0 ns.length 0, .int .i64 ((bsP y.1 y.2 : Nat) : Int), .sl 3 1 0 1 1] [blkM ns, .arr true 3 [[.int .i64 m.src, .int .i64 m.sboot, .int .i64 0]]] fun z =>
  gVw x s m p fun p' he => fin (hpN s p' (z.l.length + 1) (blkM (insL z.l z.i z.a)) [.bool s.fe, encMembers ke, F, .bool he] A B)
theorem h7 (s : ES) (b : Bool) (m : Msg) (x : VF) (hne : s.ns ≠ []) : callT (envT2 kn28) 20 F_coord_Handle [.agg (buV s b), .agg (encCf s.c), .agg (beM m x)] =
 gBuN s b fun p ns ke F A B => bif (ns.length.beq 0 || ns.length.ble ns.length) && true then gBs ns m.src fun y =>
  bif isAt y.1 y.2 (bsP y.1 y.2) then bif decide (((bsP y.1 y.2 : Nat) : Int) < (ns.length : Int)) then bif (0 + ((bsP y.1 y.2 : Nat) : Int).toNat).blt ns.length then
   bif decide (m.sboot < (ns.getD (0 + ((bsP y.1 y.2 : Nat) : Int).toNat) default).member.boot) then fin (hpN s p ns.length (blkM ns) [.bool s.fe, encMembers ke, F, .bool s.he] A B)
   else putN x s m p ns ke F A B y else none else none
  else putN x s m p ns ke F A B y else none := by
 obtain ⟨e, g, p, ns, nb, op, keep, fz, fe, he, l, c⟩ := s
 cases ns with
 | nil => exact absurd rfl hne
 | cons n0 nt => cases x <;> cases l <;> cases b <;> cases fz <;> kernel_rfl
def akCellN (l : List Ask) (b : Bool) : AV := match l with
 | [] => aqV b
 | _ :: _ => .sl 31 4 0 l.length 0
theorem gAkN_eq {R : Type} {l : List Ask} {b : Bool} {K : AV -> List BS -> Option R} (h : l.length <= 1000) : gAkN l b K = K (akCellN l b) (akBl l) := by
 cases l with
 | nil => rfl
 | cons a t =>
  have hp : pAk (a :: t) := ⟨Nat.le_trans h (by omega), List.cons_ne_nil _ _⟩
  exact qAk (k := fun y => K (.sl 31 4 0 y.length 0) [blkA y]) hp
theorem gCA_eq {R : Type} {l : List Alive} {k : List Alive -> Option R} (h : l.length <= 1000) (hne : l ≠ []) : gCA l k = k l := gC_eq l (decAlives l) ⟨h, hne⟩ (.refl _)
theorem gBs_eq {R : Type} {ns : List Alive} {t : Int} {K : AlI -> Option R} (h : ns.length <= 1000) : gBs ns t K = K (ns, t) := by
 have hp : pBs (ns, t) := Nat.le_trans h (by omega)
 exact gC_eq (ns, t) (by show (decL decAlive (encAlives ns), t) = _; rw [decAlives]) hp (.refl _)
theorem gBuN_eq {R : Type} {s : ES} {b : Bool} {K : Plan -> List Alive -> List Member -> AV -> AV -> List BS -> Option R} (h : HOk s) (hne : s.ns ≠ []) : gBuN s b K = K s.p s.ns s.keep (fzV s.fz) (akCellN s.l b) (akBl s.l) := by
 have h1 := h.eok.ch
 have h2 := h.val
 have h3 := h.eok.ns
 have h4 := h.eok.keep
 unfold gBuN
 rw [gMs_eq _ (by unfold shortL LB; omega), gMs_eq _ (by unfold shortL LB; omega), gCA_eq h3 hne, gMs_eq _ (by unfold shortL LB; omega), gFzV_eq h.eok.fz h.cp, gAkN_eq h.eok.l]
def alM (m : Msg) : Alive := ⟨⟨m.src, m.sboot⟩, 0⟩
def putNs (ns : List Alive) (m : Msg) : List Alive := bif isAt ns m.src (bsP ns m.src) then ns.set (bsP ns m.src) (alM m) else insL ns (bsP ns m.src) (alM m)
def stale (ns : List Alive) (m : Msg) : Bool := isAt ns m.src (bsP ns m.src) && decide (m.sboot < (ns.getD (bsP ns m.src) default).member.boot)
def serves (s : ES) (m : Msg) (v : Md.View) : Bool := decide (s.p.phase = 3) && (decide (s.p.epoch = v.epoch) && (decide (0 < s.p.chain.length) && (decide ((s.p.chain.getD 0 default).node = m.src) && decide ((s.p.chain.getD 0 default).boot = m.sboot))))
def vwP (x : VF) (s : ES) (m : Msg) : Plan × Bool := match x with
 | .one v => bif serves s m v then (bif decide (v.phase = 3) then { s.p with valid := s.p.chain } else s.p, true) else (s.p, s.he)
 | _ => (s.p, s.he)
def h7P (s : ES) (m : Msg) (x : VF) : ES := bif stale s.ns m then s else { s with p := (vwP x s m).1, he := (vwP x s m).2, ns := putNs s.ns m }
theorem gVw_eq {R : Type} {x : VF} {s : ES} {m : Msg} {K : Plan -> Bool -> Option R} (h : HOk s) : gVw x s m s.p K = K (vwP x s m).1 (vwP x s m).2 := by
 cases x with
 | nil => rfl
 | emp => rfl
 | one v =>
  have h1 := h.eok.ch
  unfold gVw vwP serves
  rw [gMs_eq _ (by unfold shortL LB; omega)]
  simp only [show (Int.toNat 0) = 0 from rfl]
  cases decide (s.p.phase = 3) with
  | false => rfl
  | true =>
   cases decide (s.p.epoch = v.epoch) with
   | false => rfl
   | true =>
    by_cases hc : 0 < s.p.chain.length
    ·rw [decide_eq_false (p := (s.p.chain.length : Int) = 0) (by omega), decide_eq_true (p := 0 < (s.p.chain.length : Int)) (by omega), decide_eq_true hc]
     cases decide ((s.p.chain.getD 0 default).node = m.src) <;> cases decide ((s.p.chain.getD 0 default).boot = m.sboot) <;> cases decide (v.phase = 3) <;> rfl
    ·rw [decide_eq_true (p := (s.p.chain.length : Int) = 0) (by omega), decide_eq_false hc]
     rfl
theorem fin_N {s : ES} {b : Bool} {p : Plan} {he : Bool} {n : Nat} {f : Nat -> List AV} {ns : List Alive} (hn : n = ns.length) (hf : ∀ k, k < n -> f k = encAlive (ns.getD k default)) (ho : s.op = .nil) (hnb : s.nb = false) :
  ∃ v, fin (hpN s p n (.seq true 3 n f) [.bool s.fe, encMembers s.keep, fzV s.fz, .bool he] (akCellN s.l b) (akBl s.l)) = some v /\ SubV v (ansB ({ s with p := p, he := he, ns := ns }, [])) := by
 have hN : SubV (.tr 3 n fun k => f (k + 0)) (encAlives ns) := by
  subst hn
  exact SubV.trs fun k hk => by rw [Nat.add_zero, hf k hk]; exact .refl _
 obtain ⟨e, g, p0, ns0, nb, op, keep, fz, fe, he0, l, c⟩ := s
 simp only [] at ho hnb
 subst ho hnb
 cases l with
 | nil =>
  refine ⟨.tup [.agg [.int .i64 e, .int .i64 g, .trl 8 [encPlan p], .tr 3 n fun k => f (k + 0), .trl 4 [[.bool fe, encMembers keep, fzV fz, .bool he]], .nils, aqV b], .nils], ?_, ?_⟩
  ·have : (bif (n.beq 0 || (n + 0).ble n) && true && true then some (AV.tup [.agg [.int .i64 e, .int .i64 g, .trl 8 [encPlan p], .tr 3 n fun k => f (k + 0), .trl 4 [[.bool fe, encMembers keep, fzV fz, .bool he]], .nils, aqV b], .nils]) else none) = some (AV.tup [.agg [.int .i64 e, .int .i64 g, .trl 8 [encPlan p], .tr 3 n fun k => f (k + 0), .trl 4 [[.bool fe, encMembers keep, fzV fz, .bool he]], .nils, aqV b], .nils]) := by
    rw [show n + 0 = n from rfl, orU]; rfl
   refine Eq.trans ?_ this
   cases b <;> cases fz <;> rfl
  ·exact .tup (.cons (.agg (.cons (.refl _) (.cons (.refl _) (.cons (.refl _) (.cons hN (.cons (.refl _) (.cons (.refl _) (.cons (aqV_ask b) .nil)))))))) (.cons nilsL .nil))
 | cons a t =>
  refine ⟨.tup [.agg [.int .i64 e, .int .i64 g, .trl 8 [encPlan p], .tr 3 n fun k => f (k + 0), .trl 4 [[.bool fe, encMembers keep, fzV fz, .bool he]], .nils, encAsks (a :: t)], .nils], ?_, ?_⟩
  ·have : (bif ((n.beq 0 || (n + 0).ble n) && (((a :: t).length.beq 0 || ((a :: t).length + 0).ble (a :: t).length) && true)) && true then some (AV.tup [.agg [.int .i64 e, .int .i64 g, .trl 8 [encPlan p], .tr 3 n fun k => f (k + 0), .trl 4 [[.bool fe, encMembers keep, fzV fz, .bool he]], .nils, encAsks (a :: t)], .nils]) else none) = some (AV.tup [.agg [.int .i64 e, .int .i64 g, .trl 8 [encPlan p], .tr 3 n fun k => f (k + 0), .trl 4 [[.bool fe, encMembers keep, fzV fz, .bool he]], .nils, encAsks (a :: t)], .nils]) := by
    rw [show n + 0 = n from rfl, orU, show (a :: t).length + 0 = (a :: t).length from rfl, orU]; rfl
   refine Eq.trans ?_ this
   cases fz <;> rfl
  ·exact .tup (.cons (.agg (.cons (.refl _) (.cons (.refl _) (.cons (.refl _) (.cons hN (.refl _)))))) (.cons nilsL .nil))
theorem isAt_lt {ns : List Alive} {t : Int} {i : Nat} (h : isAt ns t i = true) : i < ns.length := by
 unfold isAt at h
 rw [Bool.and_eq_true] at h
 exact of_decide_eq_true h.1
theorem set_get {ns : List Alive} {i k : Nat} {a : Alive} (hk : k < ns.length) : (bif k.beq i then encAlive a else encAlive (ns.getD k default)) = encAlive ((ns.set i a).getD k default) := by
 by_cases h : k = i
 ·subst h
  have : Nat.beq k k = true := Nat.beq_refl k
  rw [this, cond_true]
  simp [List.getD, hk]
 ·have : Nat.beq k i = false := by
   cases hb : Nat.beq k i with
   | false => rfl
   | true => exact absurd (Nat.eq_of_beq_eq_true hb) h
  rw [this, cond_false]
  simp [List.getD, List.getElem?_set_ne (Ne.symm h)]
theorem h7_at {s : ES} {b : Bool} {m : Msg} {x : VF} (h : HOk s) (hne : s.ns ≠ []) : Contract PG F_coord_Handle [.agg (buV s b), .agg (encCf s.c), .agg (beM m x)] [] (ansB (h7P s m x, [])) [] := by
 have hl := h.eok.ns
 have e := h7 s b m x hne
 rw [gBuN_eq h hne, orU, Bool.and_true, cond_true, gBs_eq hl] at e
 dsimp only at e
 have hput : ∃ v, putN x s m s.p s.ns s.keep (fzV s.fz) (akCellN s.l b) (akBl s.l) (s.ns, m.src) = some v /\ SubV v (ansB ({ s with p := (vwP x s m).1, he := (vwP x s m).2, ns := putNs s.ns m }, [])) := by
  unfold putN
  dsimp only
  unfold putNs
  cases hA : isAt s.ns m.src (bsP s.ns m.src) with
  | true =>
   have hi := isAt_lt hA
   rw [cond_true, cond_true, decide_eq_true (by omega), cond_true, Int.toNat_natCast, Nat.zero_add, blt_true hi, Bool.and_true, cond_true, gVw_eq h]
   exact fin_N (by simp) (fun k hk => by rw [Int.toNat_natCast, Nat.zero_add]; exact set_get (i := bsP s.ns m.src) (a := alM m) hk) h.op h.nb
  | false =>
   rw [cond_false, cond_false]
   have e1 := gIns_eq (x := ⟨s.ns, bsP s.ns m.src, alM m⟩) (K := fun z => gVw x s m s.p fun p' he => fin (hpN s p' (z.l.length + 1) (blkM (insL z.l z.i z.a)) [.bool s.fe, encMembers s.keep, fzV s.fz, .bool he] (akCellN s.l b) (akBl s.l))) ⟨bsP_le _ _, by simp only; omega, hne⟩
   have e2 := fin_N (s := s) (b := b) (p := (vwP x s m).1) (he := (vwP x s m).2) (n := s.ns.length + 1) (f := fun k => encAlive ((insL s.ns (bsP s.ns m.src) (alM m)).getD k default)) (ns := insL s.ns (bsP s.ns m.src) (alM m)) (insL_len (bsP_le _ _)).symm (fun k _ => rfl) h.op h.nb
   obtain ⟨v, f1, f2⟩ := e2
   refine ⟨v, ?_, f2⟩
   refine Eq.trans e1 ?_
   dsimp only
   rw [gVw_eq h]
   unfold blkM
   rw [insL_len (bsP_le _ _)]
   exact f1
 obtain ⟨v2, f2, g2⟩ := hput
 rw [f2] at e
 unfold h7P stale
 cases hA : isAt s.ns m.src (bsP s.ns m.src) with
 | false =>
  rw [hA, cond_false] at e
  exact (conT2 kn28_ok e).res g2
 | true =>
  have hi := isAt_lt hA
  rw [hA, cond_true, decide_eq_true (by omega), cond_true, Int.toNat_natCast, Nat.zero_add, blt_true hi, cond_true] at e
  cases hs : decide (m.sboot < (s.ns.getD (bsP s.ns m.src) default).member.boot) with
  | true =>
   rw [hs, cond_true] at e
   obtain ⟨v1, f1, g1⟩ := fin_N (s := s) (b := b) (p := s.p) (he := s.he) (n := s.ns.length) (f := fun k => encAlive (s.ns.getD k default)) (ns := s.ns) rfl (fun k _ => rfl) h.op h.nb
   have f1 : fin (hpN s s.p s.ns.length (blkM s.ns) [.bool s.fe, encMembers s.keep, fzV s.fz, .bool s.he] (akCellN s.l b) (akBl s.l)) = some v1 := f1
   rw [f1] at e
   exact (conT2 kn28_ok e).res g1
  | false =>
   rw [hs, cond_false] at e
   exact (conT2 kn28_ok e).res g2
theorem h7_con {s : ES} {m : Msg} {x : VF} (h : HOk s) (hne : s.ns ≠ []) : Contract PG F_coord_Handle [.agg (buT s), .agg (encCf s.c), .agg (beM m x)] [] (ansB (h7P s m x, [])) [] := con_bu fun _ => h7_at h hne
def kn32 : List Known := [kMsgE, kCloneMember, kBs]
theorem kn32_ok : ∀ k ∈ kn32, k.Ok PG := ak kMsgE_ok (ak kCloneMember_ok (ak kBs_ok ank))
def nA (n : Bool) : AV := bif n then .trl 3 [] else .nils
def buV0 (s : ES) (b n : Bool) : List AV := [.int .i64 s.e, .int .i64 s.g, .trl 8 [encPlan s.p], nA n, .trl 4 [wkA s], .nils, akAV s.l b]
def gBu0 {R : Type} (s : ES) (b : Bool) (K : Plan -> List Member -> AV -> AV -> List BS -> Option R) : Option R :=
 gMs s.p.chain fun y0 => gMs s.p.valid fun y1 => gMs s.keep fun y3 => gFzV s.fz fun F => gAkN s.l b fun A B => K { s.p with chain := y0, valid := y1 } y3 F A B
def hpO (s : ES) (p : Plan) (c : List AV) (W : List AV) (A : AV) (B : List BS) : Heap := .arr true 23 [dsk s.e s.g (.sl 8 1 0 1 1) (.sl 3 2 0 1 1) (.sl 4 3 0 1 1) .nils A s.c .nils] :: .arr true 8 [encPlan p] :: .arr true 3 [c] :: .arr true 4 [W] :: B
theorem h70 (s : ES) (b n : Bool) (m : Msg) (x : VF) : callT (envT2 kn32) 20 F_coord_Handle [.agg (buV0 s b n), .agg (encCf s.c), .agg (beM m x)] =
 gBu0 s b fun p ke F A B => gC dBs pBs eBs [nA n, .int .i64 m.src, fnB] fun y =>
  bif isAt y.1 y.2 (bsP y.1 y.2) then none else bif isAt y.1 y.2 (bsP y.1 y.2) then none else
  bif decide (((bsP y.1 y.2 : Nat) : Int) <= ((0 : Nat) : Int)) then bif decide (((bsP y.1 y.2 : Nat) : Int) = ((0 : Nat) : Int)) then
   gVw x s m p fun p' he => fin (hpO s p' [.int .i64 m.src, .int .i64 m.sboot, .int .i64 0] [.bool s.fe, encMembers ke, F, .bool he] A B) else none else none := by
 obtain ⟨e, g, p, ns, nb, op, keep, fz, fe, he, l, c⟩ := s
 cases x <;> cases l <;> cases b <;> cases n <;> cases fz <;> kernel_rfl
theorem gBu0_eq {R : Type} {s : ES} {b : Bool} {K : Plan -> List Member -> AV -> AV -> List BS -> Option R} (h : HOk s) : gBu0 s b K = K s.p s.keep (fzV s.fz) (akCellN s.l b) (akBl s.l) := by
 have h1 := h.eok.ch
 have h2 := h.val
 have h4 := h.eok.keep
 unfold gBu0
 rw [gMs_eq _ (by unfold shortL LB; omega), gMs_eq _ (by unfold shortL LB; omega), gMs_eq _ (by unfold shortL LB; omega), gFzV_eq h.eok.fz h.cp, gAkN_eq h.eok.l]
theorem nA_sub (n : Bool) : SubV (nA n) (encAlives []) := by
 cases n with
 | false => exact .nils
 | true => exact SubV.trl_encL (e := encAlive) (z := default) []
theorem gBs0_eq {R : Type} {n : Bool} {t : Int} {K : AlI -> Option R} : gC dBs pBs eBs [nA n, .int .i64 t, fnB] K = K ([], t) := by
 have hp : pBs ([], t) := Nat.zero_le _
 refine gC_eq ([], t) ?_ hp (.cons (nA_sub n) (.refl _))
 show (decL decAlive (nA n), t) = _
 cases n <;> rfl
theorem fin_O {s : ES} {b : Bool} {p : Plan} {he : Bool} {a : Alive} (ho : s.op = .nil) (hnb : s.nb = false) :
  ∃ v, fin (hpO s p (encAlive a) [.bool s.fe, encMembers s.keep, fzV s.fz, .bool he] (akCellN s.l b) (akBl s.l)) = some v /\ SubV v (ansB ({ s with p := p, he := he, ns := [a] }, [])) := by
 have hN : SubV (.trl 3 [encAlive a]) (encAlives [a]) := SubV.trl_encL (e := encAlive) (z := default) [a]
 obtain ⟨e, g, p0, ns0, nb, op, keep, fz, fe, he0, l, c⟩ := s
 simp only [] at ho hnb
 subst ho hnb
 cases l with
 | nil =>
  refine ⟨.tup [.agg [.int .i64 e, .int .i64 g, .trl 8 [encPlan p], .trl 3 [encAlive a], .trl 4 [[.bool fe, encMembers keep, fzV fz, .bool he]], .nils, aqV b], .nils], ?_, ?_⟩
  ·cases b <;> cases fz <;> rfl
  ·exact .tup (.cons (.agg (.cons (.refl _) (.cons (.refl _) (.cons (.refl _) (.cons hN (.cons (.refl _) (.cons (.refl _) (.cons (aqV_ask b) .nil)))))))) (.cons nilsL .nil))
 | cons a1 t =>
  refine ⟨.tup [.agg [.int .i64 e, .int .i64 g, .trl 8 [encPlan p], .trl 3 [encAlive a], .trl 4 [[.bool fe, encMembers keep, fzV fz, .bool he]], .nils, encAsks (a1 :: t)], .nils], ?_, ?_⟩
  ·have : (bif ((a1 :: t).length.beq 0 || ((a1 :: t).length + 0).ble (a1 :: t).length) && true && true then some (AV.tup [.agg [.int .i64 e, .int .i64 g, .trl 8 [encPlan p], .trl 3 [encAlive a], .trl 4 [[.bool fe, encMembers keep, fzV fz, .bool he]], .nils, encAsks (a1 :: t)], .nils]) else none) = some (AV.tup [.agg [.int .i64 e, .int .i64 g, .trl 8 [encPlan p], .trl 3 [encAlive a], .trl 4 [[.bool fe, encMembers keep, fzV fz, .bool he]], .nils, encAsks (a1 :: t)], .nils]) := by
    rw [show (a1 :: t).length + 0 = (a1 :: t).length from rfl, orU]; rfl
   refine Eq.trans ?_ this
   cases fz <;> rfl
  ·exact .tup (.cons (.agg (.cons (.refl _) (.cons (.refl _) (.cons (.refl _) (.cons hN (.refl _)))))) (.cons nilsL .nil))
theorem bsP_nil (t : Int) : bsP [] t = 0 := rfl
theorem isAt_nil (t : Int) (i : Nat) : isAt [] t i = false := by unfold isAt; rw [decide_eq_false (by simp), Bool.false_and]
theorem h70_at {s : ES} {b n : Bool} {m : Msg} {x : VF} (h : HOk s) (hns : s.ns = []) : Contract PG F_coord_Handle [.agg (buV0 s b n), .agg (encCf s.c), .agg (beM m x)] [] (ansB (h7P s m x, [])) [] := by
 have e := h70 s b n m x
 rw [gBu0_eq h, gBs0_eq] at e
 dsimp only at e
 rw [isAt_nil, cond_false, cond_false, bsP_nil, decide_eq_true (by omega), cond_true, decide_eq_true rfl, cond_true, gVw_eq h] at e
 obtain ⟨v, f1, f2⟩ := fin_O (s := s) (b := b) (p := (vwP x s m).1) (he := (vwP x s m).2) (a := alM m) h.op h.nb
 have f1 : fin (hpO s (vwP x s m).1 [.int .i64 m.src, .int .i64 m.sboot, .int .i64 0] [.bool s.fe, encMembers s.keep, fzV s.fz, .bool (vwP x s m).2] (akCellN s.l b) (akBl s.l)) = some v := f1
 rw [f1] at e
 have hh : h7P s m x = { s with p := (vwP x s m).1, he := (vwP x s m).2, ns := [alM m] } := by
  unfold h7P stale putNs
  rw [hns, isAt_nil, Bool.false_and, cond_false, bsP_nil]
  rfl
 rw [hh]
 exact (conT2 kn32_ok e).res f2
def buT0 (s : ES) (n : Bool) : List AV := [.int .i64 s.e, .int .i64 s.g, .trl 8 [encPlan s.p], nA n, .trl 4 [wkA s], .nils, encAsks s.l]
theorem h70_asks {s : ES} {n : Bool} {m : Msg} {x : VF} (h : HOk s) (hns : s.ns = []) : Contract PG F_coord_Handle [.agg (buT0 s n), .agg (encCf s.c), .agg (beM m x)] [] (ansB (h7P s m x, [])) [] := by
 by_cases hl : s.l = []
 ·refine Contract.split (args1 := [.agg (buV0 s false n), .agg (encCf s.c), .agg (beM m x)]) (args2 := [.agg (buV0 s true n), .agg (encCf s.c), .agg (beM m x)]) ?_ (h70_at h hns) (h70_at h hns)
  unfold buT0 buV0 akAV
  rw [hl]
  exact OrC.of [] [.agg (encCf s.c), .agg (beM m x)] (.agg (OrC.of [.int .i64 s.e, .int .i64 s.g, .trl 8 [encPlan s.p], nA n, .trl 4 [wkA s], .nils] [] .nil))
 ·have : buT0 s n = buV0 s false n := by
   unfold buT0 buV0 akAV
   cases h : s.l with
   | nil => exact absurd h hl
   | cons a t => rfl
  rw [this]
  exact h70_at h hns
theorem h7_all {s : ES} {m : Msg} {x : VF} (h : HOk s) : Contract PG F_coord_Handle [.agg (buT s), .agg (encCf s.c), .agg (beM m x)] [] (ansB (h7P s m x, [])) [] := by
 by_cases hns : s.ns = []
 ·refine Contract.split (args1 := [.agg (buT0 s false), .agg (encCf s.c), .agg (beM m x)]) (args2 := [.agg (buT0 s true), .agg (encCf s.c), .agg (beM m x)]) ?_ (h70_asks h hns) (h70_asks h hns)
  unfold buT buT0
  rw [hns]
  exact OrC.of [] [.agg (encCf s.c), .agg (beM m x)] (.agg (OrC.of [.int .i64 s.e, .int .i64 s.g, .trl 8 [encPlan s.p]] [.trl 4 [wkA s], .nils, encAsks s.l] .nil))
 ·exact h7_con h hns
def kn40 : List Known := [kUpM, kOneDown, kOneUp, kGrows, kBoth]
theorem kn40_ok : ∀ k ∈ kn40, k.Ok PG := ak kUpM_ok (ak kOneDown_ok (ak kOneUp_ok (ak kGrows_ok (ak kBoth_ok ank))))
inductive ND where
 | blk
 | emp (n : Bool)
def ND.q : ND -> Nat
 | .blk => 4
 | .emp _ => 3
def nV (d : ND) (ns : List Alive) : AV := match d with
 | .blk => encAlives ns
 | .emp n => nA n
def akCellK (d : ND) (l : List Ask) (b : Bool) : AV := match l with
 | [] => aqV b
 | _ :: _ => .sl 31 d.q 0 l.length 0
def akBlK (l : List Ask) : List BS := match l with
 | [] => []
 | _ :: _ => [blkA l]
def hpK (d : ND) (t : Bool) (s : ES) (P W : List AV) (A O : AV) (B : List BS) : Heap := match d with
 | .emp n => .arr true 23 [dsk s.e s.g (.sl 8 1 0 1 1) (nA n) (.sl 4 2 0 1 1) .nils A s.c O] :: .arr true 8 [P] :: .arr true 4 [W] :: B
 | .blk => .arr true 23 [dsk s.e s.g (.sl 8 1 0 1 1) (.sl 3 2 0 s.ns.length 0) (.sl 4 3 0 1 1) .nils A s.c O] :: .arr true 8 [P] :: (.seq t 3 s.ns.length fun i => encAlive (s.ns.getD i default)) :: .arr true 4 [W] :: B
def gNN {R : Type} (d : ND) (ns : List Alive) (K : Option R) : Option R := match d with
 | .blk => bif (ns.length.beq 0 || ns.length.ble ns.length) && true && true then K else none
 | .emp _ => K
def gUpN {R : Type} (d : ND) (s : ES) (K : UX -> Option R) : Option R := gC dUX pUX eUX [mkU s.e s.g (nV d s.ns), .agg (encCf s.c)] K
def gNA {R : Type} (d : ND) (ns : List Alive) (l : List Ask) (K : Option R) : Option R := match d, l with
 | .blk, [] => bif (ns.length.beq 0 || ns.length.ble ns.length) && true && true then K else none
 | .blk, _ :: _ => bif (ns.length.beq 0 || ns.length.ble ns.length) && ((l.length.beq 0 || l.length.ble l.length) && true) && true then K else none
 | .emp _, [] => K
 | .emp _, _ :: _ => bif (l.length.beq 0 || l.length.ble l.length) && true && true then K else none
def gGr {R : Type} (d : ND) (s : ES) (b : Bool) (up : List Member) (K : GX -> Option R) : Option R := gC dGX pGX eGX [.tp (dsk s.e s.g (.trl 8 [encPlan s.p]) (nV d s.ns) (.trl 4 [wkA s]) .nils (akAV s.l b) s.c .nils) 0, .agg (encPlan s.p), encMembers up] K
def lkO (d : ND) (s : ES) (b : Bool) (P W : List AV) : Option (AV × Heap) := some (.tup [], hpK d false s P W (akCellK d s.l b) .nils (akBlK s.l))
def lkS (d : ND) (s : ES) (b : Bool) : Option (AV × Heap) := lkO d s b (encPlan s.p) (wkA s)
def begP (p : Plan) (fr : Bool) : Plan := { p with epoch := IntKind.i64.wrap (p.epoch + 1), phase := 1, fresh := fr }
def lkT (d : ND) (s : ES) (b : Bool) : Option (AV × Heap) := bif decide (1099511627776 <= s.p.epoch) then lkS d s b else lkO d s b (encPlan (begP s.p true)) wk0
def lkF (d : ND) (s : ES) (b : Bool) : Option (AV × Heap) := bif decide (1099511627776 <= s.p.epoch) then lkS d s b else gNN d s.ns (gUpN d s fun y => gEq s.p.valid (upP y.ns y.c.susp) fun z => lkO d s b (encPlan (begP s.p false)) [.bool false, encMembers (bothP z.1 z.2), .nils, .bool false])
def lkG (d : ND) (s : ES) (b : Bool) (up : List Member) : Option (AV × Heap) := gNA d s.ns s.l (gGr d s b up fun y => bif growsP y.p y.x.c y.up then lkF d s b else lkS d s b)
theorem look_eq (d : ND) (s : ES) (b : Bool) : callH (envK2 kn40) 20 F_coord_desk_look A0 (hpK d true s (encPlan s.p) (wkA s) (akCellK d s.l b) .nils (akBlK s.l)) =
 gNN d s.ns (gUpN d s fun y0 => bif decide (s.p.phase = 0) then bif decide (0 < ((upP y0.ns y0.c.susp).length : Int)) then lkT d s b else lkS d s b
  else bif decide (s.p.phase = 3) then gEq s.p.chain (upP y0.ns y0.c.susp) fun y1 => bif y1.1.any (fun m => !inUp y1.2 m) then gEq s.p.valid (upP y0.ns y0.c.susp) fun y2 => bif y2.1.any (fun m => inUp y2.2 m) then lkF d s b else lkG d s b (upP y0.ns y0.c.susp)
   else lkG d s b (upP y0.ns y0.c.susp)
  else bif decide (s.p.phase = 1) then bif !s.p.fresh then bif decide ((s.keep.length : Int) = 0) then gEq s.p.valid (upP y0.ns y0.c.susp) fun y3 => bif y3.1.any (fun m => inUp y3.2 m) then lkF d s b else lkS d s b
    else gEq s.keep (upP y0.ns y0.c.susp) fun y4 => bif y4.1.any (fun m => !inUp y4.2 m) then gEq s.p.valid (upP y0.ns y0.c.susp) fun y5 => bif y5.1.any (fun m => inUp y5.2 m) then lkF d s b else lkS d s b else lkS d s b
   else lkS d s b
  else lkS d s b) := by
 obtain ⟨e, g, p, ns, nb, op, keep, fz, fe, he, l, c⟩ := s
 rcases d with _ | n
 ·cases fz <;> cases l <;> cases b <;> kernel_rfl
 ·cases n <;> cases fz <;> cases l <;> cases b <;> kernel_rfl
def qOf (d : ND) (l : List Ask) : Nat := match l with
 | [] => d.q
 | _ :: _ => d.q + 1
def kMayF : Known := { f := F_coord_desk_may, ans := fun args hp => match hp with
 | [] => some { X := Unit, g := cd (gP dMy pDS eMy args /\ mayP (dMy args) = false), a := (), r := fun _ => (.bool false, []) }
 | _ => none }
theorem kMayF_ok : kMayF.Ok PG := by
 intro args hp A e hg
 cases hp with
 | nil =>
  cases e
  obtain ⟨⟨h1, h2⟩, h3⟩ := cd_iff.1 hg
  have := (may_con (dMy args) h1).args h2
  rw [h3] at this
  exact ⟨this, Nat.le_refl _⟩
 | cons x r => cases e
def gMayF {R : Type} (d : ND) (s : ES) (b : Bool) (K : Option R) : Option R :=
 gX (gP dMy pDS eMy [.tp (dsk s.e s.g (.trl 8 [encPlan s.p]) (nV d s.ns) (.trl 4 [wkA s]) .nils (akAV s.l b) s.c .nils) 0, .int .i64 0] /\ mayP (dMy [.tp (dsk s.e s.g (.trl 8 [encPlan s.p]) (nV d s.ns) (.trl 4 [wkA s]) .nils (akAV s.l b) s.c .nils) 0, .int .i64 0]) = false) () fun _ => K
def lv41 (q : Nat) : List (Nat × Nat × List Nat) := [(F_coord_desk_again, 1, [0, 1, 4, 5, 57, 58, 59, 1000 + q])]
def env41 (q : Nat) (l : List Known) : Env := { envL (lv41 q) mdK l with msk := fun f => bif Nat.beq f F_coord_Up then [2, 4, 5, 6] else [] }
theorem env41_ok {q : Nat} {l : List Known} (h : ∀ k ∈ l, k.Ok PG) : EnvOk PG (env41 q l) := ⟨tt_ok rfl, orc_ok h⟩
theorem con41H {q : Nat} {l : List Known} (h : ∀ k ∈ l, k.Ok PG) {n f : Nat} {args : List AV} {hp : Heap} {r : AV} {hp' : Heap} (e : callH (env41 q l) n f args hp = some (r, hp')) : Contract PG f args hp r hp' /\ hp.length <= hp'.length := callH_ok (env41_ok h) (codeOf_ok rfl) mixed e
def kn41 (d : ND) (t : Bool) : List Known := match d with
 | .blk => [kEb t, kFrozen, kCloneMember]
 | .emp _ => [kMayF, kFrozen, kCloneMember]
theorem kn41_ok (d : ND) (t : Bool) : ∀ k ∈ kn41 d t, k.Ok PG := by
 cases d with
 | blk => exact ak (kEb_ok t) (ak kFrozen_ok (ak kCloneMember_ok ank))
 | emp n => exact ak kMayF_ok (ak kFrozen_ok (ak kCloneMember_ok ank))
def frC (m : Member) (ep : Int) : List AV := [.int .i64 8, .int .i64 1, .int .i64 m.node, .int .i64 m.boot, .int .i64 0, .int .i64 0, .int .i64 ep, .int .i64 0, .int .i64 0, .int .i64 0, .int .i64 0, .int .i64 0, .bool false, .bool false, .str [], .str [], .cplx .f64 0 0, .cplx .f64 0 0, .int .i64 0, .str [], .str [], .str [], .bool false, .nils, .nils, .nils, .cplx .f64 0 0, .cplx .f64 0 0, .int .i64 0, .nils, .nils]
def feC (ep : Int) : List AV := [.int .i64 19, .int .i64 1, .int .i64 0, .int .i64 0, .int .i64 0, .int .i64 0, .int .i64 ep, .int .i64 0, .int .i64 0, .int .i64 0, .int .i64 0, .int .i64 0, .bool false, .bool false, .str [], .str [], .cplx .f64 0 0, .cplx .f64 0 0, .int .i64 0, .str [], .str [], .str [], .bool false, .nils, .nils, .nils, .cplx .f64 0 0, .cplx .f64 0 0, .int .i64 0, .nils, .nils]
def hpQ (d : ND) (s : ES) (b : Bool) (V : AV) (O : List BS) : Heap := hpK d false s (encPlan s.p) (wkA s) (akCellK d s.l b) V (akBlK s.l ++ O)
def pcB (t : Bool) (s : ES) : BS := bif t then .seq true 8 1 fun i => [encPlan s.p].getD i (encPlan s.p) else .arr true 8 [encPlan s.p]
def SAg (d : ND) (s : ES) (b t : Bool) (V : AV) (O : List BS) (l : List Member) (i : Int) : St := { fr := [(0, .ptr 0 0 0), (1, .int .i64 0), (4, .ptr (qOf d s.l + O.length) 0 0), (5, .ptr (qOf d s.l + O.length + 1) 0 0), (57, encMembers l), (58, .int .i64 l.length), (59, .int .i64 i), (1000 + qOf d s.l, .undef)], hp := hpK d false s (encPlan s.p) (wkA s) (akCellK d s.l b) V (akBlK s.l ++ (O ++ [pcB t s, .arr true 4 [wkA s]])) }
def LAg (d : ND) (t0 : Bool) (N : Nat) (s : ES) (b t : Bool) (l : List Member) (j : Nat) (V : AV) (O : List BS) (i : Int) : Option (AV × Heap) := LP (env41 (qOf d s.l) (kn41 d t0)) (N + 9) (qOf d s.l) F_coord_desk_again (hnK (qOf d s.l)) 1 [] j (SAg d s b t V O l i)
def gFzA {R : Type} (s : ES) (m : Member) (K : WM -> Option R) : Option R := gC dWM pWM eWM [.agg (wkA s), .agg (encMember m)] K
theorem ag_0 (d : ND) (t0 : Bool) (N j : Nat) (s : ES) (b : Bool) (l : List Member) (i : Int) : LAg d t0 N s b true l (j + 1) .nils [] i =
 bif decide (i < (l.length : Int)) then rg i l.length <| gFzA s (l.getD i.toNat default) fun y => bif (frozenP y.1 y.2).2 then LAg d t0 N s b true l j .nils [] (IntKind.i64.wrap (i + 1))
  else LAg d t0 N s b true l j (.sl 31 (qOf d s.l) 0 1 1) [.seq true 31 1 fun k => [frC (l.getD i.toNat default) s.p.epoch].getD k (frC (l.getD i.toNat default) s.p.epoch)] (IntKind.i64.wrap (i + 1))
 else some (.tup [], hpQ d s b .nils []) := by
 obtain ⟨e, g, p, ns, nb, op, keep, fz, fe, he, l0, c⟩ := s
 rcases d with _ | n
 ·cases t0 <;> cases fz <;> cases l0 <;> cases b <;> kernel_rfl
 ·cases n <;> cases fz <;> cases l0 <;> cases b <;> kernel_rfl
theorem ag_1 (d : ND) (t0 : Bool) (N j : Nat) (s : ES) (b t : Bool) (l : List Member) (f : Nat -> List AV) (i : Int) : LAg d t0 N s b t l (j + 1) (.sl 31 (qOf d s.l) 0 1 1) [.seq true 31 1 f] i =
 bif decide (i < (l.length : Int)) then rg i l.length <| gFzA s (l.getD i.toNat default) fun y => bif (frozenP y.1 y.2).2 then LAg d t0 N s b t l j (.sl 31 (qOf d s.l) 0 1 1) [.seq true 31 1 f] (IntKind.i64.wrap (i + 1))
  else LAg d t0 N s b t l j (.sl 31 (qOf d s.l) 0 2 0) [.seq true 31 2 fun k => bif k.blt 1 then f k else bif k.blt 2 then [frC (l.getD i.toNat default) s.p.epoch].getD (k - 1) [] else f 1] (IntKind.i64.wrap (i + 1))
 else some (.tup [], hpQ d s b (.sl 31 (qOf d s.l) 0 1 1) [.seq true 31 1 f]) := by
 obtain ⟨e, g, p, ns, nb, op, keep, fz, fe, he, l0, c⟩ := s
 rcases d with _ | n
 ·cases t0 <;> cases fz <;> cases l0 <;> cases b <;> cases t <;> kernel_rfl
 ·cases n <;> cases fz <;> cases l0 <;> cases b <;> cases t <;> kernel_rfl
theorem ag_n (d : ND) (t0 : Bool) (N j : Nat) (s : ES) (b t : Bool) (l : List Member) (n : Nat) (f : Nat -> List AV) (i : Int) : LAg d t0 N s b t l (j + 1) (.sl 31 (qOf d s.l) 0 n 0) [.seq true 31 n f] i =
 bif decide (i < (l.length : Int)) then rg i l.length <| gFzA s (l.getD i.toNat default) fun y => bif (frozenP y.1 y.2).2 then LAg d t0 N s b t l j (.sl 31 (qOf d s.l) 0 n 0) [.seq true 31 n f] (IntKind.i64.wrap (i + 1))
  else room1 n 392 (LAg d t0 N s b t l j (.sl 31 (qOf d s.l) 0 (n + 1) 0) [.seq true 31 (n + 1) fun k => bif k.blt n then f k else bif k.blt (n + 1) then [frC (l.getD i.toNat default) s.p.epoch].getD (k - n) [] else f n] (IntKind.i64.wrap (i + 1)))
 else some (.tup [], hpQ d s b (.sl 31 (qOf d s.l) 0 n 0) [.seq true 31 n f]) := by
 obtain ⟨e, g, p, ns, nb, op, keep, fz, fe, he, l0, c⟩ := s
 rcases d with _ | n
 ·cases t0 <;> cases fz <;> cases l0 <;> cases b <;> cases t <;> kernel_rfl
 ·cases n <;> cases fz <;> cases l0 <;> cases b <;> cases t <;> kernel_rfl
theorem ag_t (N : Nat) (s : ES) (b : Bool) : callH (env41 (qOf .blk s.l) (kn41 .blk true)) (N + 10) F_coord_desk_again A0 (hpQ .blk s b .nils []) =
 gEb true A0 (hpQ .blk s b .nils []) (hnK (qOf .blk s.l) (.tup []) (endH true (hpQ .blk s b .nils []))) := by
 obtain ⟨e, g, p, ns, nb, op, keep, fz, fe, he, l0, c⟩ := s
 cases fz <;> cases l0 <;> cases b <;> kernel_rfl
def gMF {R : Type} (n : Bool) (s : ES) (b : Bool) (K : Option R) : Option R := match s.l with
 | [] => gMayF (.emp n) s b K
 | _ :: _ => bif (s.l.length.beq 0 || s.l.length.ble s.l.length) && true && true then gMayF (.emp n) s b K else none
def gEnF {R : Type} (d : ND) (s : ES) (b : Bool) (K : Option R) : Option R := match d with
 | .blk => gEb false A0 (hpQ .blk s b .nils []) K
 | .emp n => gMF n s b K
theorem ag_f (d : ND) (N : Nat) (s : ES) (b : Bool) : callH (env41 (qOf d s.l) (kn41 d false)) (N + 10) F_coord_desk_again A0 (hpQ d s b .nils []) =
 gEnF d s b (bif decide (s.p.phase = 1) then
   bif !s.fe then bif s.p.fresh then LAg d false N s b false s.p.chain (N + 9) (.sl 31 (qOf d s.l) 0 1 1) [.seq true 31 1 fun k => [feC s.p.epoch].getD k (feC s.p.epoch)] 0 else LAg d false N s b false s.keep (N + 9) (.sl 31 (qOf d s.l) 0 1 1) [.seq true 31 1 fun k => [feC s.p.epoch].getD k (feC s.p.epoch)] 0
   else bif s.p.fresh then LAg d false N s b true s.p.chain (N + 9) .nils [] 0 else LAg d false N s b true s.keep (N + 9) .nils [] 0
  else bif decide (s.p.phase = 3) then
   bif !s.he then bif decide ((s.p.chain.length : Int) = 0) then some (.tup [], hpQ d s b .nils []) else bif decide (0 < (s.p.chain.length : Int)) then
    gMs s.p.chain fun ch => some (.tup [], hpQ d s b (.sl 31 (qOf d s.l) 0 1 1) [.arr true 31 [actM s.p ch]]) else none
   else some (.tup [], hpQ d s b .nils [])
  else some (.tup [], hpQ d s b .nils [])) := by
 obtain ⟨e, g, p, ns, nb, op, keep, fz, fe, he, l0, c⟩ := s
 rcases d with _ | n
 ·cases fz <;> cases l0 <;> cases b <;> kernel_rfl
 ·cases n <;> cases fz <;> cases l0 <;> cases b <;> kernel_rfl
def SubF (c c' : AV) : Prop := ∀ (w : World) (I : Nat -> Prop) (φ : Phi) (u : Value), RV w I φ c u -> RV w I φ c' u
def SubFs (cs cs' : List AV) : Prop := cs.length = cs'.length /\ ∀ (k : Nat) c c', cs[k]? = some c -> cs'[k]? = some c' -> SubF c c'
theorem SubF.refl (c : AV) : SubF c c := fun _ _ _ _ h => h
theorem SubFs.refl (cs : List AV) : SubFs cs cs := ⟨rfl, fun k c c' e e' => by rw [e] at e'; cases e'; exact .refl _⟩
theorem SubFs.cons {c c' : AV} {cs cs' : List AV} (h : SubF c c') (h' : SubFs cs cs') : SubFs (c :: cs) (c' :: cs') := by
 refine ⟨by simp [h'.1], fun k x x' e e' => ?_⟩
 cases k with
 | zero => simp at e e'; subst e; subst e'; exact h
 | succ k => exact h'.2 k x x' (by simpa using e) (by simpa using e')
theorem SubF.nils {sz : Nat} {f : Nat -> List AV} : SubF .nils (.tr sz 0 f) := fun w I φ u h => by cases h; exact .trn _ _ _
theorem SubF.slack {sz b off len cm : Nat} : SubF (.sl sz b off len cm) (.sl sz b off len 0) := fun w I φ u h => RV.slack h
theorem SubFs.rvs {w : World} {I : Nat -> Prop} {φ : Phi} {cs cs' : List AV} {vs : Array Value} (h : SubFs cs cs') (hv : RVs w I φ cs vs) : RVs w I φ cs' vs := by
 refine ⟨by rw [<- h.1]; exact hv.1, fun k x u e e' => ?_⟩
 have hk : k < cs.length := by
  have := (List.getElem?_eq_some_iff.1 e).1
  rw [h.1]; exact this
 exact h.2 k _ _ (List.getElem?_eq_getElem hk) e w I φ u (hv.2 k _ u (List.getElem?_eq_getElem hk) e')
structure SubB (x y : BS) : Prop where
 non : y = BS.none ↔ x = BS.none
 lv : AM.live y = AM.live x
 mt : mutable y = mutable x
 rb : ∀ (w : World) (I : Nat -> Prop) (φ : Phi) (B o sz : Nat), RB w I φ B o sz x -> RB w I φ B o sz y
theorem SubB.refl (x : BS) : SubB x x := ⟨.rfl, rfl, rfl, fun _ _ _ _ _ _ h => h⟩
theorem SubB.arr {m : Bool} {sz : Nat} {es es' : List (List AV)} (hl : es.length = es'.length) (h : ∀ (i : Nat) c c', es[i]? = some c -> es'[i]? = some c' -> SubFs c c') : SubB (.arr m sz es) (.arr m sz es') := by
 refine ⟨⟨(fun e => by cases e), (fun e => by cases e)⟩, rfl, rfl, fun w I φ B o s ⟨h0, h1, h2, h3⟩ => ⟨h0, h1, fun i cs e => ?_, fun i cs k c e e' => ?_⟩⟩
 ·have hi : i < es.length := by rw [hl]; exact (List.getElem?_eq_some_iff.1 e).1
  rw [<- (h i _ _ (List.getElem?_eq_getElem hi) e).1]
  exact h2 i _ (List.getElem?_eq_getElem hi)
 ·have hi : i < es.length := by rw [hl]; exact (List.getElem?_eq_some_iff.1 e).1
  have hs := h i _ _ (List.getElem?_eq_getElem hi) e
  have hk : k < es[i].length := by rw [hs.1]; exact (List.getElem?_eq_some_iff.1 e').1
  obtain ⟨u, a1, a2, a3⟩ := h3 i _ k _ (List.getElem?_eq_getElem hi) (List.getElem?_eq_getElem hk)
  exact ⟨u, a1, a2, hs.2 k _ _ (List.getElem?_eq_getElem hk) e' w I φ u a3⟩
theorem SubB.arr1 {m : Bool} {sz : Nat} {c c' : List AV} (h : SubFs c c') : SubB (.arr m sz [c]) (.arr m sz [c']) := .arr rfl fun i x x' e e' => by
 cases i with
 | zero => simp at e e'; subst e; subst e'; exact h
 | succ i => simp at e
theorem SubB.arr_seq {m : Bool} {sz : Nat} {c : List AV} {f : Nat -> List AV} (hf : c.all refFree = true) (h : f 0 = c) : SubB (.arr m sz [c]) (.seq m sz 1 f) := by
 refine ⟨⟨(fun e => by cases e), (fun e => by cases e)⟩, rfl, rfl, fun w I φ B o s ⟨h0, h1, h2, h3⟩ => ⟨h0, h1, fun i hi => ?_, fun i k x hi e => ?_⟩⟩
 ·have : i = 0 := by omega
  subst this
  rw [h]; exact h2 0 c rfl
 ·have : i = 0 := by omega
  subst this
  rw [h] at e
  obtain ⟨u, a1, a2, a3⟩ := h3 0 c k x rfl e
  exact ⟨u, a1, a2, a3.free (List.all_eq_true.1 hf x (List.mem_of_getElem? e))⟩
def SubH (h1 h2 : Heap) : Prop := h1.length = h2.length /\ ∀ b, SubB (hget h1 b) (hget h2 b)
theorem SubH.refl (h : Heap) : SubH h h := ⟨rfl, fun _ => .refl _⟩
theorem SubH.cons {x y : BS} {a b : Heap} (h : SubB x y) (h' : SubH a b) : SubH (x :: a) (y :: b) := ⟨by simp [h'.1], fun k => by
 cases k with
 | zero => exact h
 | succ k => exact h'.2 k⟩
theorem Contract.outH {f : Nat} {args : List AV} {hp h1 h2 : Heap} {r : AV} (h : Contract PG f args hp r h1) (s : SubH h1 h2) : Contract PG f args hp r h2 :=
 Contract.congrH h (fun b hb => ((s.2 b).non).1 hb) (fun b => (s.2 b).lv) (fun b => (s.2 b).mt) fun w I φ b B o sz => (s.2 b).rb w I φ B o sz
theorem Contract.inH {f : Nat} {args args' : List AV} {hp hp' h1 : Heap} {r : AV} (h : Contract PG f args' hp' r h1) (sa : SubFs args args') (s : SubH hp hp') : Contract PG f args hp r h1 := by
 intro w I φ ra hh hx
 have hh' : RH w I φ (hget hp') := RH.congr hh (fun b hb => ((s.2 b).non).1 hb) (fun b => (s.2 b).lv) (fun b => (s.2 b).mt) fun b B o sz => (s.2 b).rb w I φ B o sz
 refine (h w I φ ra hh' (sa.rvs hx)).mono fun u w' ⟨φ', I', a1, a2, a3⟩ => ⟨φ', I', a1, a2, ?_⟩
 have hm : ∀ B, Mut φ (hget hp') B -> Mut φ (hget hp) B := fun B ⟨b, o, sz, e1, e2⟩ => ⟨b, o, sz, by rw [<- (s.2 b).mt]; exact e1, e2⟩
 have hm' : ∀ B, Mut φ (hget hp) B -> Mut φ (hget hp') B := fun B ⟨b, o, sz, e1, e2⟩ => ⟨b, o, sz, by rw [(s.2 b).mt]; exact e1, e2⟩
 have e : Mut φ (hget hp') = Mut φ (hget hp) := funext fun B => propext ⟨hm B, hm' B⟩
 have el : hp.length = hp'.length := s.1
 rw [el]
 exact ⟨a3.le, a3.Ile, fun B hB => (a3.Inew B hB).imp id fun x => x.imp (hm B) id, fun B hB => (a3.mt B hB).imp (hm B) id, by rw [<- e]; exact a3.ext⟩
theorem gNN_eq {R : Type} {d : ND} {ns : List Alive} {K : Option R} : gNN d ns K = K := by
 cases d with
 | emp n => rfl
 | blk =>
  unfold gNN
  simp only [orU, Bool.and_true, cond_true]
theorem gNA_eq {R : Type} {d : ND} {ns : List Alive} {l : List Ask} {K : Option R} : gNA d ns l K = K := by
 unfold gNA
 cases d <;> cases l <;> simp only [orU, Bool.and_true, cond_true]
theorem nV_sub {d : ND} {ns : List Alive} (h : d = .blk \/ ns = []) : SubV (nV d ns) (encAlives ns) := by
 cases d with
 | blk => exact .refl _
 | emp n =>
  rcases h with h | h
  ·cases h
  ·subst h; exact nA_sub n
theorem nV_dec {d : ND} {ns : List Alive} (h : d = .blk \/ ns = []) : decL decAlive (nV d ns) = ns := by
 cases d with
 | blk => exact decAlives ns
 | emp n =>
  rcases h with h | h
  ·cases h
  ·subst h; cases n <;> rfl
theorem gUpN_of {R : Type} {d : ND} {s : ES} {K : UX -> Option R} (hd : d = .blk \/ s.ns = []) (h : s.ns.length <= 100000) : gUpN d s K = K ⟨s.e, s.g, s.ns, s.c⟩ := by
 refine gC_eq (⟨s.e, s.g, s.ns, s.c⟩ : UX) ?_ h (.cons (.agg (.cons (.refl _) (.cons (.refl _) (.cons (.refl _) (.cons (nV_sub hd) (.refl _)))))) (.refl _))
 show (⟨s.e, s.g, decL decAlive (nV d s.ns), ⟨s.c.chain, s.c.susp, s.c.sess⟩⟩ : UX) = _
 rw [nV_dec hd]
theorem akAV_sub (l : List Ask) (b : Bool) : SubV (akAV l b) (encMsgs (l.map askM)) := by
 cases l with
 | nil => exact aqV_sub b
 | cons a t => exact akV_sub (.ne a t)
theorem akAV_dec (l : List Ask) (b : Bool) : decL decMsg (akAV l b) = l.map askM := by
 cases l with
 | nil => exact aqV_dec b
 | cons a t => exact akV_dec (.ne a t)
theorem dsk_sub {d : ND} {s : ES} {A : AV} {aq : List Msg} (hd : d = .blk \/ s.ns = []) (h1 : SubV A (encMsgs aq)) : SubC (dsk s.e s.g (.trl 8 [encPlan s.p]) (nV d s.ns) (.trl 4 [wkA s]) (opV s.op) A s.c .nils) (encDS (dsE s aq)) := by
 have hp : SubV (.trl 8 [encPlan s.p]) (encPlans [s.p]) := SubV.trl_encL (e := encPlan) (z := default) [s.p]
 have hw : SubV (.trl 4 [wkA s]) (encWorks [wkE s]) := SubV.trans (one_trl (wkA_sub s)) (SubV.trl_encL (e := encWork) (z := default) [wkE s])
 exact .cons (.refl _) (.cons (.refl _) (.cons hp (.cons (nV_sub hd) (.cons hw (.cons (opV_sub _) (.cons h1 (.refl _)))))))
theorem dsk_dec {d : ND} {s : ES} {A : AV} {aq : List Msg} (hd : d = .blk \/ s.ns = []) (h : decL decMsg A = aq) : dDX (dsk s.e s.g (.trl 8 [encPlan s.p]) (nV d s.ns) (.trl 4 [wkA s]) (opV s.op) A s.c .nils) = (dsE s aq).dx := by
 show (⟨⟨⟨s.e, s.g, [decPlan (encPlan s.p)]⟩, decL decAlive (nV d s.ns), [decWork (wkA s)], decL decMsg (opV s.op), decL decMsg A⟩, ⟨s.c.chain, s.c.susp, s.c.sess⟩, .nils⟩ : DX) = _
 rw [dec_encPlan, nV_dec hd, wkA_dec, opV_dec, h]; rfl
theorem gGr_of {R : Type} {d : ND} {s : ES} {b : Bool} {up : List Member} {K : GX -> Option R} (hd : d = .blk \/ s.ns = []) (ho : s.op = .nil) (h : pGX ⟨(dsE s (s.l.map askM)).dx, s.p, up⟩) : gGr d s b up K = K ⟨(dsE s (s.l.map askM)).dx, s.p, up⟩ := by
 have h1 := dsk_sub (s := s) hd (akAV_sub s.l b)
 have h2 := dsk_dec (s := s) hd (akAV_dec s.l b)
 rw [ho] at h1 h2
 refine gC_eq _ ?_ h (.cons (SubV.tp h1) (.refl _))
 show (⟨dDX _, decPlan (encPlan s.p), decL decMember (encMembers up)⟩ : GX) = _
 have h2' : dDX (dsk s.e s.g (.trl 8 [encPlan s.p]) (nV d s.ns) (.trl 4 [wkA s]) .nils (akAV s.l b) s.c .nils) = (dsE s (s.l.map askM)).dx := h2
 rw [dec_encPlan, decMembers]
 exact congrArg (fun x => (⟨x, s.p, up⟩ : GX)) h2'
def wkS (s : ES) (p : Plan) (keep : List Member) : ES := { s with p := p, keep := keep, fe := false, fz := .nil, he := false }
def beginS (s : ES) (fr : Bool) : ES := bif decide (1099511627776 <= s.p.epoch) then s else wkS s (begP s.p fr) (bif fr then [] else bothP s.p.valid (upP s.ns s.c.susp))
def lookP (s : ES) : ES :=
 bif decide (s.p.phase = 0) then bif decide (0 < (upP s.ns s.c.susp).length) then beginS s true else s
 else bif decide (s.p.phase = 3) then bif s.p.chain.any (fun m => !inUp (upP s.ns s.c.susp) m) && s.p.valid.any (fun m => inUp (upP s.ns s.c.susp) m) || growsP s.p s.c (upP s.ns s.c.susp) then beginS s false else s
 else bif decide (s.p.phase = 1) && !s.p.fresh then bif (decide (s.keep.length = 0) || s.keep.any (fun m => !inUp (upP s.ns s.c.susp) m)) && s.p.valid.any (fun m => inUp (upP s.ns s.c.susp) m) then beginS s false else s
 else s
def ND.isB : ND -> Bool
 | .blk => true
 | .emp _ => false
structure TOk (d : ND) (s : ES) : Prop where
 eok : EOk s
 nd : d = .blk \/ s.ns = []
 no : d ≠ .blk -> mayE s = false
 nb : s.nb = d.isB
 op : s.op = .nil
 val : s.p.valid.length <= 3
 cp : ∀ f ∈ s.fz.l, CpOk f
 pc : s.p.chain.length <= 1000
def hpT9 (d : ND) (t : Bool) (s : ES) (b : Bool) : Heap := hpK d t s (encPlan s.p) (wkA s) (akCellK d s.l b) .nils (akBlK s.l)
theorem lkS_ok {d : ND} {s s' : ES} {b : Bool} (hs : s' = s) : ∃ H, lkS d s b = some (.tup [], H) /\ SubH H (hpT9 d false s' b) := ⟨_, rfl, by subst hs; exact .refl _⟩
theorem lkO_ok {d : ND} {s : ES} {b : Bool} {W : List AV} {p : Plan} {keep : List Member} (h : SubFs W (wkA (wkS s p keep))) : ∃ H, lkO d s b (encPlan p) W = some (.tup [], H) /\ SubH H (hpT9 d false (wkS s p keep) b) :=
by
 refine ⟨_, rfl, ?_⟩
 cases d with
 | blk => exact .cons (.refl _) (.cons (.refl _) (.cons (.refl _) (.cons (SubB.arr1 h) (.refl _))))
 | emp n => exact .cons (.refl _) (.cons (.refl _) (.cons (SubB.arr1 h) (.refl _)))
theorem wk0_subF (s : ES) (p : Plan) : SubFs wk0 (wkA (wkS s p [])) := .cons (.refl _) (.cons .nils (.cons (.refl _) (.cons (.refl _) (.refl _))))
theorem lkT_ok {d : ND} {s : ES} {b : Bool} : ∃ H, lkT d s b = some (.tup [], H) /\ SubH H (hpT9 d false (beginS s true) b) := by
 unfold lkT beginS
 cases decide (1099511627776 <= s.p.epoch) with
 | true => exact lkS_ok rfl
 | false => exact lkO_ok (wk0_subF s _)
theorem lkF_ok {d : ND} {s : ES} {b : Bool} (h : TOk d s) : ∃ H, lkF d s b = some (.tup [], H) /\ SubH H (hpT9 d false (beginS s false) b) := by
 have hu := h.eok.up
 have hv := h.val
 have hn := h.eok.ns
 unfold lkF beginS
 rw [gNN_eq, gUpN_of h.nd (by omega), gEq_eq ⟨by simp only; omega, by simp only; omega⟩]
 cases decide (1099511627776 <= s.p.epoch) with
 | true => exact lkS_ok rfl
 | false => exact lkO_ok (.refl _)
theorem look_run {d : ND} {s : ES} {b : Bool} (h : TOk d s) : ∃ H, callH (envK2 kn40) 20 F_coord_desk_look A0 (hpT9 d true s b) = some (.tup [], H) /\ SubH H (hpT9 d false (lookP s) b) := by
 have hu := h.eok.up
 have hv := h.val
 have hn := h.eok.ns
 have hk := h.eok.keep
 have hc := h.pc
 have hG : ∃ H, lkG d s b (upP s.ns s.c.susp) = some (.tup [], H) /\ SubH H (hpT9 d false (bif growsP s.p s.c (upP s.ns s.c.susp) then beginS s false else s) b) := by
  unfold lkG
  rw [gNA_eq, gGr_of (up := upP s.ns s.c.susp) h.nd h.op ⟨hc, by show s.p.valid.length <= 1000; omega, hu⟩]
  show ∃ H, (bif growsP s.p s.c (upP s.ns s.c.susp) then lkF d s b else lkS d s b) = _ /\ _
  cases growsP s.p s.c (upP s.ns s.c.susp) with
  | true => exact lkF_ok h
  | false => exact lkS_ok rfl
 have hF := lkF_ok (b := b) h
 have hT := lkT_ok (d := d) (s := s) (b := b)
 have hS := lkS_ok (d := d) (s := s) (b := b) rfl
 unfold hpT9
 have qE : ∀ (l : List Member) (K : MM -> Option (AV × Heap)), l.length <= 1000 -> gEq l (upP s.ns s.c.susp) K = K (l, upP s.ns s.c.susp) := fun l K hl => gEq_eq ⟨by simp only; omega, by simp only; omega⟩
 have qC := fun K => qE s.p.chain K hc
 have qV := fun K => qE s.p.valid K (by omega)
 have qK := fun K => qE s.keep K (by omega)
 rw [look_eq, gNN_eq, gUpN_of h.nd (by omega)]
 simp only [qC, qV, qK]
 have e0 : decide (0 < ((upP s.ns s.c.susp).length : Int)) = decide (0 < (upP s.ns s.c.susp).length) := decide_eq_decide.2 (by omega)
 have e1 : decide ((s.keep.length : Int) = 0) = decide (s.keep.length = 0) := decide_eq_decide.2 (by omega)
 rw [e0, e1]
 unfold lookP
 cases decide (s.p.phase = 0) with
 | true =>
  cases decide (0 < (upP s.ns s.c.susp).length) with
  | true => exact hT
  | false => exact hS
 | false =>
  cases decide (s.p.phase = 3) with
  | true =>
   cases s.p.chain.any (fun m => !inUp (upP s.ns s.c.susp) m) with
   | false => exact hG
   | true =>
    cases s.p.valid.any (fun m => inUp (upP s.ns s.c.susp) m) with
    | true => exact hF
    | false => exact hG
  | false =>
   cases decide (s.p.phase = 1) with
   | false => exact hS
   | true =>
    cases s.p.fresh with
    | true => exact hS
    | false =>
     cases decide (s.keep.length = 0) with
     | true =>
      cases s.p.valid.any (fun m => inUp (upP s.ns s.c.susp) m) with
      | true => exact hF
      | false => exact hS
     | false =>
      cases s.keep.any (fun m => !inUp (upP s.ns s.c.susp) m) with
      | false => exact hS
      | true =>
       cases s.p.valid.any (fun m => inUp (upP s.ns s.c.susp) m) with
       | true => exact hF
       | false => exact hS
theorem conK2H {l : List Known} (h : ∀ k ∈ l, k.Ok PG) {n f : Nat} {args : List AV} {hp : Heap} {r : AV} {hp' : Heap} (e : callH (envK2 l) n f args hp = some (r, hp')) : Contract PG f args hp r hp' /\ hp.length <= hp'.length := callH_ok (envK2_ok h) (codeOf_ok rfl) mixed e
theorem look_con {d : ND} {s : ES} {b : Bool} (h : TOk d s) : Contract PG F_coord_desk_look A0 (hpT9 d true s b) (.tup []) (hpT9 d false (lookP s) b) /\ (hpT9 d true s b).length <= (hpT9 d false (lookP s) b).length := by
 obtain ⟨H, h1, h2⟩ := look_run (b := b) h
 have := conK2H kn40_ok h1
 refine ⟨Contract.outH this.1 h2, ?_⟩
 rw [<- h2.1]; exact this.2
structure Grow2 {X R : Type} (sz bw b : Nat) (e : X -> List AV) (n : Nat) (pick : Nat -> Option X) (L : Nat -> AV -> List BS -> Int -> Option R) (E : AV -> List BS -> R) (P : Prop) : Prop where
 e0 : P -> ∀ j, L (j + 1) .nils [] (n : Int) = some (E .nils [])
 e1 : ∀ j f, L (j + 1) (.sl sz b 0 1 1) [.seq true sz 1 f] (n : Int) = some (E (.sl sz b 0 1 1) [.seq true sz 1 f])
 en : ∀ j m f, L (j + 1) (.sl sz b 0 m 0) [.seq true sz m f] (n : Int) = some (E (.sl sz b 0 m 0) [.seq true sz m f])
 s0 : P -> ∀ j (i : Nat), i < n -> L (j + 1) .nils [] (i : Int) = match pick i with
  | some x => L j (.sl sz b 0 1 1) [.seq true sz 1 fun k => [e x].getD k (e x)] ((i + 1 : Nat) : Int)
  | none => L j .nils [] ((i + 1 : Nat) : Int)
 s1 : ∀ j (i : Nat) f, i < n -> L (j + 1) (.sl sz b 0 1 1) [.seq true sz 1 f] (i : Int) = match pick i with
  | some x => L j (.sl sz b 0 2 0) [.seq true sz 2 fun k => bif k.blt 1 then f k else bif k.blt 2 then [e x].getD (k - 1) [] else f 1] ((i + 1 : Nat) : Int)
  | none => L j (.sl sz b 0 1 1) [.seq true sz 1 f] ((i + 1 : Nat) : Int)
 sn : ∀ j (i : Nat) m f, i < n -> L (j + 1) (.sl sz b 0 m 0) [.seq true sz m f] (i : Int) = match pick i with
  | some x => room1 m bw (L j (.sl sz b 0 (m + 1) 0) [.seq true sz (m + 1) fun k => bif k.blt m then f k else bif k.blt (m + 1) then [e x].getD (k - m) [] else f m] ((i + 1 : Nat) : Int))
  | none => L j (.sl sz b 0 m 0) [.seq true sz m f] ((i + 1 : Nat) : Int)
theorem Grow2.run {X R : Type} {sz bw b : Nat} {e : X -> List AV} {z : X} {n : Nat} {pick : Nat -> Option X} {L : Nat -> AV -> List BS -> Int -> Option R} {E : AV -> List BS -> R} {P : Prop} (h : Grow2 sz bw b e n pick L E P) (hw : bw <= 1000) (hn : n <= 100000) :
  ∀ (d i m : Nat) (acc : List X), i + d = n -> d < m -> acc.length <= i + 1 -> (acc = [] -> P) -> L m (gSl sz b acc) (gBl sz e z acc) (i : Int) = some (E (gSl sz b (acc ++ pickL pick n i)) (gBl sz e z (acc ++ pickL pick n i))) := by
 intro d
 induction d with
 | zero =>
  intro i m acc hi hm ha hP
  obtain ⟨m, rfl⟩ : ∃ k, m = k + 1 := ⟨m - 1, by omega⟩
  have : i = n := by omega
  subst this
  rw [pickL_end, List.append_nil]
  match acc, hP with
  | [], hP => exact h.e0 (hP rfl) m
  | [x], _ => exact h.e1 m _
  | x :: y :: r, _ => exact h.en m (x :: y :: r).length (canF e z (x :: y :: r))
 | succ d ih =>
  intro i m acc hi hm ha hP
  obtain ⟨m, rfl⟩ : ∃ k, m = k + 1 := ⟨m - 1, by omega⟩
  have hin : i < n := by omega
  match acc, ha, hP with
  | [], ha, hP =>
   show L (m + 1) .nils [] (i : Int) = _
   rw [h.s0 (hP rfl) m i hin]
   cases hp : pick i with
   | none => rw [pickL_none hin hp]; exact ih (i + 1) m [] (by omega) (by omega) (by simp) hP
   | some x =>
    rw [pickL_some hin hp]
    simp only []
    rw [canF_oneS (e := e) (z := z) x]
    exact ih (i + 1) m [x] (by omega) (by omega) (by simp) (fun e => by cases e)
  | [y], ha, hP =>
   show L (m + 1) (.sl sz b 0 1 1) [.seq true sz 1 (canF e z [y])] (i : Int) = _
   rw [h.s1 m i _ hin]
   cases hp : pick i with
   | none => rw [pickL_none hin hp]; exact ih (i + 1) m [y] (by omega) (by omega) (by simp) (fun e => by cases e)
   | some x =>
    rw [pickL_some hin hp]
    simp only []
    rw [canF_app1 (e := e) (z := z) y x]
    exact ih (i + 1) m [y, x] (by omega) (by omega) (by simp at ha ⊢) (fun e => by cases e)
  | y :: y' :: r, ha, hP =>
   show L (m + 1) (.sl sz b 0 (y :: y' :: r).length 0) [.seq true sz (y :: y' :: r).length (canF e z (y :: y' :: r))] (i : Int) = _
   rw [h.sn m i _ _ hin]
   cases hp : pick i with
   | none => rw [pickL_none hin hp]; exact ih (i + 1) m (y :: y' :: r) (by omega) (by omega) (by omega) (fun e => by cases e)
   | some x =>
    rw [pickL_some hin hp]
    simp only []
    rw [room1_eq hw (by omega), canF_app (e := e) (z := z) (l := y :: y' :: r) (by simp) x]
    have r0 := ih (i + 1) m ((y :: y' :: r) ++ [x]) (by omega) (by omega) (by rw [List.length_append]; simp at ha ⊢; omega) (fun e => by cases e)
    rw [gSl_app (by simp), gBl_app (by simp), List.append_assoc] at r0
    exact r0
def frzO (s : ES) (m : Member) : Option (List AV) := bif (frozenP (wkE s) m).2 then none else some (frC m s.p.epoch)
theorem gFzA_of {R : Type} {s : ES} {m : Member} {K : WM -> Option R} (h : s.fz.l.length <= 1000) : gFzA s m K = K (wkE s, m) := by
 have hp : pWM (wkE s, m) := Nat.le_trans h (by omega)
 refine gC_eq (wkE s, m) ?_ hp (.cons (.agg (wkA_sub s)) (.refl _))
 show (decWork (wkA s), decMember (encMember m)) = _
 rw [wkA_dec, dec_encMember]
theorem ag_grow (d : ND) (N : Nat) (s : ES) (b t : Bool) (l : List Member) (hf : s.fz.l.length <= 1000) (hl : l.length <= 100000) :
  Grow2 31 392 (qOf d s.l) idC l.length (fun i => frzO s (l.getD i default)) (LAg d false N s b t l) (fun V O => (.tup [], hpQ d s b V O)) (t = true) where
 e0 ht j := by subst ht; rw [ag_0, decide_eq_false (by omega), cond_false]
 e1 j f := by rw [ag_1, decide_eq_false (by omega), cond_false]
 en j m f := by rw [ag_n, decide_eq_false (by omega), cond_false]
 s0 ht j i hi := by
  subst ht
  rw [ag_0, decide_eq_true (by omega), cond_true, rg_eq hi, Int.toNat_natCast, wrapS (by omega), gFzA_of hf]
  unfold frzO
  dsimp only
  cases (frozenP (wkE s) (l.getD i default)).2 <;> rfl
 s1 j i f hi := by
  rw [ag_1, decide_eq_true (by omega), cond_true, rg_eq hi, Int.toNat_natCast, wrapS (by omega), gFzA_of hf]
  unfold frzO
  dsimp only
  cases (frozenP (wkE s) (l.getD i default)).2 <;> rfl
 sn j i m f hi := by
  rw [ag_n, decide_eq_true (by omega), cond_true, rg_eq hi, Int.toNat_natCast, wrapS (by omega), gFzA_of hf]
  unfold frzO
  dsimp only
  cases (frozenP (wkE s) (l.getD i default)).2 <;> rfl
def agC (s : ES) : List (List AV) :=
 bif decide (s.p.phase = 1) then (bif !s.fe then [feC s.p.epoch] else []) ++ (bif s.p.fresh then s.p.chain else s.keep).filterMap (frzO s)
 else bif decide (s.p.phase = 3) && !s.he then (bif decide (0 < s.p.chain.length) then [actC s.p] else []) else []
def hpAg (d : ND) (s : ES) (b : Bool) : Heap := bif mayE s then outE (wrE s (endP s).1 (endP s).2) b else hpQ d s b (gSl 31 (qOf d s.l) (agC s)) (gBl 31 idC [] (agC s))
theorem ag_loop {d : ND} {N : Nat} {s : ES} {b : Bool} {l : List Member} (hf : s.fz.l.length <= 1000) (hl : l.length <= 1000) (hN : l.length <= N) :
  (bif !s.fe then LAg d false N s b false l (N + 9) (.sl 31 (qOf d s.l) 0 1 1) [.seq true 31 1 fun k => [feC s.p.epoch].getD k (feC s.p.epoch)] 0 else LAg d false N s b true l (N + 9) .nils [] 0) =
  some (.tup [], hpQ d s b (gSl 31 (qOf d s.l) ((bif !s.fe then [feC s.p.epoch] else []) ++ l.filterMap (frzO s))) (gBl 31 idC [] ((bif !s.fe then [feC s.p.epoch] else []) ++ l.filterMap (frzO s)))) := by
 cases s.fe with
 | true =>
  have r := (ag_grow d N s b true l hf (by omega)).run (z := []) (by omega) (by omega) l.length 0 (N + 9) [] (by omega) (by omega) (by simp) (fun _ => rfl)
  rw [pickL_list (l := l) (z := default) (g := frzO s)] at r
  exact r
 | false =>
  have r := (ag_grow d N s b false l hf (by omega)).run (z := []) (by omega) (by omega) l.length 0 (N + 9) [feC s.p.epoch] (by omega) (by omega) (by simp) (fun e => by cases e)
  rw [pickL_list (l := l) (z := default) (g := frzO s)] at r
  have e0 : (fun k => [feC s.p.epoch].getD k (feC s.p.epoch)) = canF idC [] [feC s.p.epoch] := canF_oneS (e := idC) (z := []) (feC s.p.epoch)
  rw [Bool.not_false, cond_true, cond_true, e0]
  exact r
theorem hpQ_eq {s : ES} {b : Bool} (hn : s.nb = true) (ho : s.op = .nil) : hpQ .blk s b .nils [] = hpEE s b := by
 obtain ⟨e, g, p, ns, nb, op, keep, fz, fe, he, l, c⟩ := s
 simp only at hn ho
 subst hn ho
 cases l <;> rfl
theorem hnK_out {s : ES} {b : Bool} (g : Int) (p : Plan) (hn : s.nb = true) (ho : s.op = .nil) : hnK (qOf .blk s.l) (.tup []) (outE (wrE s g p) b) = some (.tup [], outE (wrE s g p) b) := by
 obtain ⟨e, g0, p0, ns, nb, op, keep, fz, fe, he, l, c⟩ := s
 simp only at hn ho
 subst hn ho
 cases l <;> cases b <;> kernel_rfl
theorem actC_free (p : Plan) : (actC p).all refFree = true := rfl
theorem SubB.arr_seq1 {m : Bool} {sz : Nat} {c : List AV} (hf : c.all refFree = true) : SubB (.arr m sz [c]) (.seq m sz 1 (canF idC [] [c])) := .arr_seq hf rfl
theorem hpQ_sub {d : ND} {s : ES} {b : Bool} {V : AV} {x y : BS} (h : SubB x y) : SubH (hpQ d s b V [x]) (hpQ d s b V [y]) := by
 unfold hpQ hpK akBlK
 cases d with
 | blk => cases s.l with
  | nil => exact .cons (.refl _) (.cons (.refl _) (.cons (.refl _) (.cons (.refl _) (.cons h (.refl _)))))
  | cons a t => exact .cons (.refl _) (.cons (.refl _) (.cons (.refl _) (.cons (.refl _) (.cons (.refl _) (.cons h (.refl _))))))
 | emp n => cases s.l with
  | nil => exact .cons (.refl _) (.cons (.refl _) (.cons (.refl _) (.cons h (.refl _))))
  | cons a t => exact .cons (.refl _) (.cons (.refl _) (.cons (.refl _) (.cons (.refl _) (.cons h (.refl _)))))
def agR (d : ND) (s : ES) (b : Bool) : Option (AV × Heap) := bif decide (s.p.phase = 1) then
   bif !s.fe then bif s.p.fresh then LAg d false 1000 s b false s.p.chain (1000 + 9) (.sl 31 (qOf d s.l) 0 1 1) [.seq true 31 1 fun k => [feC s.p.epoch].getD k (feC s.p.epoch)] 0 else LAg d false 1000 s b false s.keep (1000 + 9) (.sl 31 (qOf d s.l) 0 1 1) [.seq true 31 1 fun k => [feC s.p.epoch].getD k (feC s.p.epoch)] 0
   else bif s.p.fresh then LAg d false 1000 s b true s.p.chain (1000 + 9) .nils [] 0 else LAg d false 1000 s b true s.keep (1000 + 9) .nils [] 0
  else bif decide (s.p.phase = 3) then
   bif !s.he then bif decide ((s.p.chain.length : Int) = 0) then some (.tup [], hpQ d s b .nils []) else bif decide (0 < (s.p.chain.length : Int)) then
    gMs s.p.chain fun ch => some (.tup [], hpQ d s b (.sl 31 (qOf d s.l) 0 1 1) [.arr true 31 [actM s.p ch]]) else none
   else some (.tup [], hpQ d s b .nils [])
  else some (.tup [], hpQ d s b .nils [])
theorem agR_ok {d : ND} {s : ES} {b : Bool} (h : EOk s) : ∃ H, agR d s b = some (.tup [], H) /\ SubH H (hpQ d s b (gSl 31 (qOf d s.l) (agC s)) (gBl 31 idC [] (agC s))) := by
 have hc := h.ch
 have hk := h.keep
 have hf := h.fz
 unfold agR agC
 cases hp : decide (s.p.phase = 1) with
 | true =>
  rw [cond_true, cond_true]
  cases hfr : s.p.fresh with
  | true =>
   have r := ag_loop (d := d) (N := 1000) (b := b) (l := s.p.chain) hf hc hc
   rw [cond_true, cond_true, cond_true]
   exact ⟨_, r, .refl _⟩
  | false =>
   have r := ag_loop (d := d) (N := 1000) (b := b) (l := s.keep) hf (by omega) (by omega)
   rw [cond_false, cond_false, cond_false]
   exact ⟨_, r, .refl _⟩
 | false =>
  rw [cond_false, cond_false]
  cases hp3 : decide (s.p.phase = 3) with
  | false => exact ⟨_, rfl, .refl _⟩
  | true =>
   cases hh : s.he with
   | true => exact ⟨_, rfl, .refl _⟩
   | false =>
    rw [Bool.not_false, cond_true, cond_true, Bool.and_true, cond_true]
    by_cases h0 : 0 < s.p.chain.length
    ·rw [decide_eq_false (by omega), cond_false, decide_eq_true (by omega), cond_true, gMs_eq _ (by unfold shortL LB; omega), decide_eq_true h0, cond_true]
     exact ⟨_, rfl, hpQ_sub (.arr_seq1 (actC_free s.p))⟩
    ·rw [decide_eq_true (by omega), cond_true, decide_eq_false h0, cond_false]
     exact ⟨_, rfl, .refl _⟩
theorem gMF_eq {R : Type} {n : Bool} {s : ES} {b : Bool} {K : Option R} (h : EOk s) (hns : s.ns = []) (ho : s.op = .nil) (hm : mayE s = false) : gMF n s b K = K := by
 have h1 := dsk_sub (d := .emp n) (s := s) (.inr hns) (akAV_sub s.l b)
 have h2 := dsk_dec (d := .emp n) (s := s) (.inr hns) (akAV_dec s.l b)
 rw [ho] at h1 h2
 have e : gMayF (.emp n) s b K = K := by
  have hd : dMy [.tp (dsk s.e s.g (.trl 8 [encPlan s.p]) (nV (.emp n) s.ns) (.trl 4 [wkA s]) .nils (akAV s.l b) s.c .nils) 0, .int .i64 0] = dsE s (s.l.map askM) := by
   have e1 : decBureau (dsk s.e s.g (.trl 8 [encPlan s.p]) (nV (.emp n) s.ns) (.trl 4 [wkA s]) .nils (akAV s.l b) s.c .nils) = (dsE s (s.l.map askM)).dx.b := congrArg DX.b h2
   show dDS (dsk s.e s.g (.trl 8 [encPlan s.p]) (nV (.emp n) s.ns) (.trl 4 [wkA s]) .nils (akAV s.l b) s.c .nils) = _
   unfold dDS
   dsimp only
   rw [e1]; rfl
  unfold gMayF
  refine gX_of ⟨⟨?_, ?_⟩, ?_⟩
  ·rw [hd]; exact h.ds _
  ·rw [hd]; exact .cons (SubV.tp h1) (.refl _)
  ·rw [hd]; exact hm
 unfold gMF
 cases s.l with
 | nil => exact e
 | cons a t => simp only [orU, Bool.and_true, cond_true]; exact e
theorem agn_run {d : ND} {s : ES} {b : Bool} (h : TOk d s) : ∃ N H, callH (env41 (qOf d s.l) (kn41 d (mayE s))) (N + 10) F_coord_desk_again A0 (hpQ d s b .nils []) = some (.tup [], H) /\ SubH H (hpAg d s b) := by
 refine ⟨1000, ?_⟩
 obtain ⟨H, r1, r2⟩ := agR_ok (d := d) (b := b) h.eok
 unfold hpAg
 cases d with
 | emp n =>
  have hm := h.no (fun e => by cases e)
  have hns : s.ns = [] := by
   rcases h.nd with e | e
   ·cases e
   ·exact e
  have e := ag_f (.emp n) 1000 s b
  have e1 : ∀ K : Option (AV × Heap), gEnF (.emp n) s b K = K := fun K => gMF_eq h.eok hns h.op hm
  rw [e1] at e
  rw [hm, cond_false]
  exact ⟨H, e.trans r1, r2⟩
 | blk =>
  have hq := hpQ_eq (b := b) h.nb h.op
  have e1 : ∀ K : Option (AV × Heap), gEb (mayE s) A0 (hpEE s b) K = K := fun K => gEb_eq (x := ⟨s, b⟩) h.eok rfl
  cases hm : mayE s with
  | true =>
   rw [hm] at e1
   have e := ag_t 1000 s b
   rw [hq, e1] at e
   have e2 : endH true (hpEE s b) = outE (wrE s (endP s).1 (endP s).2) b := endH_eq s b true
   rw [e2, hnK_out _ _ h.nb h.op] at e
   rw [hq, cond_true]
   exact ⟨_, e, .refl _⟩
  | false =>
   rw [hm] at e1
   have e := ag_f .blk 1000 s b
   have e3 : ∀ K : Option (AV × Heap), gEnF .blk s b K = K := fun K => by
    show gEb false A0 (hpQ .blk s b .nils []) K = K
    rw [hq]; exact e1 K
   rw [e3] at e
   rw [cond_false]
   exact ⟨H, e.trans r1, r2⟩
theorem agn_con {d : ND} {s : ES} {b : Bool} (h : TOk d s) : Contract PG F_coord_desk_again A0 (hpQ d s b .nils []) (.tup []) (hpAg d s b) /\ (hpQ d s b .nils []).length <= (hpAg d s b).length := by
 obtain ⟨N, H, h1, h2⟩ := agn_run (b := b) h
 have := con41H (kn41_ok _ _) h1
 refine ⟨Contract.outH this.1 h2, ?_⟩
 rw [<- h2.1]; exact this.2
def ndOf (h : Heap) : ND := match (cell0 h 0).getD 3 .undef with
 | .sl .. => .blk
 | v => .emp (isTrl v)
theorem ndOf_eq (d : ND) (t : Bool) (s : ES) (b : Bool) (hd : d = .blk \/ s.ns = []) : ndOf (hpT9 d t s b) = d := by
 cases d with
 | blk => rfl
 | emp n => cases n <;> rfl
theorem dT9_eq {d : ND} {t : Bool} {s : ES} {b : Bool} (hnb : s.nb = d.isB) (hd : d = .blk \/ s.ns = []) (ho : s.op = .nil) : dEn A0 (hpT9 d t s b) = nrm ⟨s, b⟩ := by
 obtain ⟨e, g, p, ns, nb, op, keep, fz, fe, he, l, c⟩ := s
 simp only at hnb ho hd
 subst hnb ho
 have hA : (List.range l.length).map (fun i => decAsk (encAsk (l.getD i (0, 0)))) = l := decL_encL (e := encAsk) (d := decAsk) (z := (0, 0)) (sz := 31) (fun _ => rfl) l
 have hN : (List.range ns.length).map (fun i => decAlive (encAlive (ns.getD i default))) = ns := decL_encL (e := encAlive) (d := decAlive) (z := default) (sz := 3) dec_encAlive ns
 have hF : dLN decMsg (fzV fz) = fz := dLN_eq dec_encMsg fz
 have hK : decL decMember (encMembers keep) = keep := decMembers keep
 have hP := dec_encPlan p
 cases d with
 | blk =>
  cases l with
  | nil =>
   cases b
   ·show EB.mk ⟨e, g, decPlan (encPlan p), (List.range ns.length).map (fun i => decAlive (encAlive (ns.getD i default))), true, .nil, decL decMember (encMembers keep), dLN decMsg (fzV fz), fe, he, [], ⟨c.chain, c.susp, c.sess⟩⟩ false = _
    rw [hP, hN, hK, hF]; rfl
   ·show EB.mk ⟨e, g, decPlan (encPlan p), (List.range ns.length).map (fun i => decAlive (encAlive (ns.getD i default))), true, .nil, decL decMember (encMembers keep), dLN decMsg (fzV fz), fe, he, [], ⟨c.chain, c.susp, c.sess⟩⟩ true = _
    rw [hP, hN, hK, hF]; rfl
  | cons a t =>
   show EB.mk ⟨e, g, decPlan (encPlan p), (List.range ns.length).map (fun i => decAlive (encAlive (ns.getD i default))), true, .nil, decL decMember (encMembers keep), dLN decMsg (fzV fz), fe, he, (List.range (a :: t).length).map (fun i => decAsk (encAsk ((a :: t).getD i (0, 0)))), ⟨c.chain, c.susp, c.sess⟩⟩ false = _
   rw [hP, hN, hK, hF, hA]; rfl
 | emp n =>
  have hns : ns = [] := by
   rcases hd with h | h
   ·cases h
   ·exact h
  subst hns
  cases l with
  | nil =>
   cases b <;> cases n
   ·show EB.mk ⟨e, g, decPlan (encPlan p), [], false, .nil, decL decMember (encMembers keep), dLN decMsg (fzV fz), fe, he, [], ⟨c.chain, c.susp, c.sess⟩⟩ false = _
    rw [hP, hK, hF]; rfl
   ·show EB.mk ⟨e, g, decPlan (encPlan p), [], false, .nil, decL decMember (encMembers keep), dLN decMsg (fzV fz), fe, he, [], ⟨c.chain, c.susp, c.sess⟩⟩ false = _
    rw [hP, hK, hF]; rfl
   ·show EB.mk ⟨e, g, decPlan (encPlan p), [], false, .nil, decL decMember (encMembers keep), dLN decMsg (fzV fz), fe, he, [], ⟨c.chain, c.susp, c.sess⟩⟩ true = _
    rw [hP, hK, hF]; rfl
   ·show EB.mk ⟨e, g, decPlan (encPlan p), [], false, .nil, decL decMember (encMembers keep), dLN decMsg (fzV fz), fe, he, [], ⟨c.chain, c.susp, c.sess⟩⟩ true = _
    rw [hP, hK, hF]; rfl
  | cons a t =>
   cases n
   ·show EB.mk ⟨e, g, decPlan (encPlan p), [], false, .nil, decL decMember (encMembers keep), dLN decMsg (fzV fz), fe, he, (List.range (a :: t).length).map (fun i => decAsk (encAsk ((a :: t).getD i (0, 0)))), ⟨c.chain, c.susp, c.sess⟩⟩ false = _
    rw [hP, hK, hF, hA]; rfl
   ·show EB.mk ⟨e, g, decPlan (encPlan p), [], false, .nil, decL decMember (encMembers keep), dLN decMsg (fzV fz), fe, he, (List.range (a :: t).length).map (fun i => decAsk (encAsk ((a :: t).getD i (0, 0)))), ⟨c.chain, c.susp, c.sess⟩⟩ false = _
    rw [hP, hK, hF, hA]; rfl
theorem hpT9_nrm (d : ND) (t : Bool) (s : ES) (b : Bool) : hpT9 d t (nrm ⟨s, b⟩).s (nrm ⟨s, b⟩).b = hpT9 d t s b := by
 obtain ⟨e, g, p, ns, nb, op, keep, fz, fe, he, l, c⟩ := s
 cases d <;> cases l <;> rfl
def frzB : BS -> BS
 | .seq _ sz n f => .seq false sz n f
 | x => x
def lkH (t : Bool) (hp : Heap) (p : Plan) (keep : List Member) : Heap :=
 let W := BS.arr true 4 [[.bool false, encMembers keep, .nils, .bool false]]
 bif isSl ((cell0 hp 0).getD 3 .undef) then [hget hp 0, bif t then .arr true 8 [encPlan p] else hget hp 1, frzB (hget hp 2), bif t then W else hget hp 3] ++ hp.drop 4
 else [hget hp 0, bif t then .arr true 8 [encPlan p] else hget hp 1, bif t then W else hget hp 2] ++ hp.drop 3
def lkC (t : Bool) (s : ES) : Prop := match t with
 | false => lookP s = s
 | true => lookP s = wkS s (lookP s).p (lookP s).keep
theorem lkH_eq {t : Bool} {d : ND} {s : ES} {b : Bool} (h : lkC t s) : lkH t (hpT9 d true s b) (lookP s).p (lookP s).keep = hpT9 d false (lookP s) b := by
 cases t with
 | false =>
  have h : lookP s = s := h
  rw [h]
  cases d with
  | blk => cases hl : s.l <;> (unfold hpT9 akCellK akBlK; rw [hl]; rfl)
  | emp n => cases hl : s.l <;> (unfold hpT9 akCellK akBlK; rw [hl]; cases n <;> rfl)
 | true =>
  have h : lookP s = wkS s (lookP s).p (lookP s).keep := h
  generalize (lookP s).p = p at h ⊢
  generalize (lookP s).keep = keep at h ⊢
  rw [h]
  cases d with
  | blk => cases hl : s.l <;> (unfold hpT9 akCellK akBlK wkS; dsimp only; rw [hl]; rfl)
  | emp n => cases hl : s.l <;> (unfold hpT9 akCellK akBlK wkS; dsimp only; rw [hl]; cases n <;> rfl)
def GL (t : Bool) (args : List AV) (hp : Heap) : Prop := (TOk (ndOf hp) (dEn args hp).s /\ args = A0 /\ hpT9 (ndOf hp) true (dEn args hp).s (dEn args hp).b = hp) /\ lkC t (dEn args hp).s
def kLk (t : Bool) : Known := { f := F_coord_desk_look, ans := fun args hp => some { X := Unit, g := cd (GL t args hp), a := (), r := fun _ => (.tup [], lkH t hp (lookP (dEn args hp).s).p (lookP (dEn args hp).s).keep) } }
theorem kLk_ok (t : Bool) : (kLk t).Ok PG := by
 intro args hp A e hg
 cases e
 obtain ⟨⟨h1, h2, h3⟩, h4⟩ := cd_iff.1 hg
 have := look_con (b := (dEn args hp).b) h1
 have e5 : lkH t hp (lookP (dEn args hp).s).p (lookP (dEn args hp).s).keep = hpT9 (ndOf hp) false (lookP (dEn args hp).s) (dEn args hp).b := by
  have := lkH_eq (d := ndOf hp) (b := (dEn args hp).b) h4
  rw [h3] at this
  exact this
 rw [h3, <- e5, <- h2] at this
 exact this
def gLk {R : Type} (t : Bool) (H : Heap) (K : Option R) : Option R := gX (GL t A0 H) () fun _ => K
theorem gLk_eq {R : Type} {t : Bool} {d : ND} {s : ES} {b : Bool} {K : Option R} (h : TOk d s) (ht : lkC t s) : gLk t (hpT9 d true s b) K = K := by
 have e1 := dT9_eq (t := true) (b := b) h.nb h.nd h.op
 have e2 : (dEn A0 (hpT9 d true s b)).s = s := congrArg EB.s e1
 have e3 : (dEn A0 (hpT9 d true s b)).b = (nrm ⟨s, b⟩).b := congrArg EB.b e1
 have e4 := ndOf_eq d true s b h.nd
 refine gX_of ⟨⟨?_, rfl, ?_⟩, ?_⟩
 ·rw [e2, e4]; exact h
 ·rw [e2, e3, e4]; exact hpT9_nrm d true s b
 ·rw [e2]; exact ht
inductive AC where
 | fin
 | non
 | one
 | many
def acC (c : AC) (s : ES) : Prop := match c with
 | .fin => mayE s = true
 | .non => mayE s = false /\ agC s = []
 | .one => mayE s = false /\ (agC s).length = 1
 | .many => mayE s = false /\ 2 <= (agC s).length
theorem acC_or (s : ES) : ∃ c, acC c s := by
 cases hm : mayE s with
 | true => exact ⟨.fin, hm⟩
 | false =>
  match h : agC s with
  | [] => exact ⟨.non, hm, h⟩
  | [a] => exact ⟨.one, hm, by rw [h]; rfl⟩
  | a :: b :: r => exact ⟨.many, hm, by rw [h]; simp⟩
def setO (hp : Heap) (V : AV) (B : BS) : Heap := match hp with
 | .arr m sz [c] :: r => .arr m sz [c.set 22 V] :: (r ++ [B])
 | _ => []
def agH (c : AC) (hp : Heap) (s : ES) : Heap := match c with
 | .fin => outT hp (endP s).1 (endP s).2 s.l
 | .non => hp
 | .one => setO hp (.sl 31 hp.length 0 1 1) (.seq true 31 1 (canF idC [] (agC s)))
 | .many => setO hp (.sl 31 hp.length 0 (agC s).length 0) (.seq true 31 (agC s).length (canF idC [] (agC s)))
theorem setO_eq (d : ND) (s : ES) (b : Bool) (V : AV) (B : BS) : setO (hpQ d s b .nils []) V B = hpQ d s b V [B] := by
 unfold hpQ akCellK akBlK
 cases d <;> cases s.l <;> rfl
theorem hpQ_len (d : ND) (s : ES) (b : Bool) : (hpQ d s b .nils []).length = qOf d s.l := by
 unfold hpQ akCellK akBlK qOf
 cases d <;> cases s.l <;> rfl
theorem hpQ_T9 (d : ND) (s : ES) (b : Bool) : hpQ d s b .nils [] = hpT9 d false s b := by
 unfold hpQ hpT9
 rw [List.append_nil]
theorem agH_eq {c : AC} {d : ND} {s : ES} {b : Bool} (h : TOk d s) (hc : acC c s) : agH c (hpT9 d false s b) s = hpAg d s b := by
 unfold hpAg
 rw [<- hpQ_T9]
 cases c with
 | fin =>
  have hm : mayE s = true := hc
  have hd : d = .blk := by
   cases d with
   | blk => rfl
   | emp n => have := h.no (fun e => by cases e); rw [hm] at this; cases this
  subst hd
  rw [hm, cond_true, hpQ_eq h.nb h.op]
  have e2 : endH true (hpEE s b) = outE (wrE s (endP s).1 (endP s).2) b := endH_eq s b true
  have e : (dEn [] (eEn ⟨s, b⟩).2).s = s := congrArg EB.s (dEn_eq ⟨s, b⟩)
  unfold endH at e2
  have e : (dEn [] (hpEE s b)).s = s := e
  rw [e] at e2
  exact e2
 | non =>
  obtain ⟨h1, h2⟩ := hc
  rw [h1, h2]; rfl
 | one =>
  obtain ⟨h1, h2⟩ := hc
  rw [h1, cond_false]
  unfold agH
  simp only []
  rw [setO_eq, hpQ_len]
  match hx : agC s, h2 with
  | [a], _ => rfl
 | many =>
  obtain ⟨h1, h2⟩ := hc
  rw [h1, cond_false]
  unfold agH
  simp only []
  rw [setO_eq, hpQ_len]
  match hx : agC s, h2 with
  | a :: b :: r, _ => rfl
def GA (c : AC) (args : List AV) (hp : Heap) : Prop := (TOk (ndOf hp) (dEn args hp).s /\ args = A0 /\ hpT9 (ndOf hp) false (dEn args hp).s (dEn args hp).b = hp) /\ acC c (dEn args hp).s
def kAgn (c : AC) : Known := { f := F_coord_desk_again, ans := fun args hp => some { X := Unit, g := cd (GA c args hp), a := (), r := fun _ => (.tup [], agH c hp (dEn args hp).s) } }
theorem kAgn_ok (c : AC) : (kAgn c).Ok PG := by
 intro args hp A e hg
 cases e
 obtain ⟨⟨h1, h2, h3⟩, h4⟩ := cd_iff.1 hg
 have := agn_con (b := (dEn args hp).b) h1
 have e5 : agH c hp (dEn args hp).s = hpAg (ndOf hp) (dEn args hp).s (dEn args hp).b := by
  have := agH_eq (b := (dEn args hp).b) h1 h4
  rw [h3] at this
  exact this
 rw [hpQ_T9, h3, <- e5, <- h2] at this
 exact this
def gAgn {R : Type} (c : AC) (H : Heap) (K : Option R) : Option R := gX (GA c A0 H) () fun _ => K
theorem gAgn_eq {R : Type} {c : AC} {d : ND} {s : ES} {b : Bool} {K : Option R} (h : TOk d s) (ht : acC c s) : gAgn c (hpT9 d false s b) K = K := by
 have e1 := dT9_eq (t := false) (b := b) h.nb h.nd h.op
 have e2 : (dEn A0 (hpT9 d false s b)).s = s := congrArg EB.s e1
 have e3 : (dEn A0 (hpT9 d false s b)).b = (nrm ⟨s, b⟩).b := congrArg EB.b e1
 have e4 := ndOf_eq d false s b h.nd
 refine gX_of ⟨⟨?_, rfl, ?_⟩, ?_⟩
 ·rw [e2, e4]; exact h
 ·rw [e2, e3, e4]; exact hpT9_nrm d false s b
 ·rw [e2]; exact ht
def mdT9 (f : Nat) : Option Nat := bif nmem f [F_coord_desk_look, F_coord_desk_again] then some 5 else mdT f
def envT9 (l : List Known) : Env := { envL [] mdT9 l with msk := fun f => bif Nat.beq f F_coord_Up then [2, 4, 5, 6] else [] }
theorem envT9_ok {l : List Known} (h : ∀ k ∈ l, k.Ok PG) : EnvOk PG (envT9 l) := ⟨tt_ok rfl, orc_ok h⟩
theorem conT9 {l : List Known} (h : ∀ k ∈ l, k.Ok PG) {n f : Nat} {xs : List AV} {r : AV} (e : callT (envT9 l) n f xs = some r) : Contract PG f xs [] r [] := callT_ok (envT9_ok h) (codeOf_ok rfl) mixed e
def kn46 : List Known := [kMsgE, kCloA, kCloneMember]
theorem kn46_ok : ∀ k ∈ kn46, k.Ok PG := ak kMsgE_ok (ak kCloA_ok (ak kCloneMember_ok ank))
def kn46e : List Known := [kMsgE, kCloneMember]
theorem kn46e_ok : ∀ k ∈ kn46e, k.Ok PG := ak kMsgE_ok (ak kCloneMember_ok ank)
theorem conT2H {l : List Known} (h : ∀ k ∈ l, k.Ok PG) {n f : Nat} {args : List AV} {hp : Heap} {r : AV} {hp' : Heap} (e : callH (envT2 l) n f args hp = some (r, hp')) : Contract PG f args hp r hp' /\ hp.length <= hp'.length := callH_ok (envT2_ok h) (codeOf_ok rfl) mixed e
def buD (d : ND) (s : ES) (b : Bool) : List AV := [.int .i64 s.e, .int .i64 s.g, .trl 8 [encPlan s.p], nV d s.ns, .trl 4 [wkA s], .nils, akAV s.l b]
def ND.sh : ND -> Nat
 | .blk => 3
 | .emp _ => 2
def gAk3 {R : Type} (d : ND) (l : List Ask) (b : Bool) (K : AV -> List BS -> Option R) : Option R := match l with
 | [] => K (aqV b) []
 | a :: t => gC dAk pAk eAk [encAsks (a :: t)] fun y => K (.sl 31 d.sh 0 y.length 0) [blkA y]
def gBuT {R : Type} (s : ES) (b : Bool) (K : Plan -> List Alive -> List Member -> AV -> AV -> List BS -> Option R) : Option R :=
 gMs s.p.chain fun y0 => gMs s.p.valid fun y1 => gCA s.ns fun y2 => gMs s.keep fun y3 => gFzV s.fz fun F => gAk3 .blk s.l b fun A B => K { s.p with chain := y0, valid := y1 } y2 y3 F A B
theorem bur_eq (s : ES) (b : Bool) (hne : s.ns ≠ []) : callH (envT2 kn46) 20 F_twin_Bureau [.agg (buD .blk s b)] [] =
 gBuT s b fun p ns ke F A B => some (.agg [.int .i64 s.e, .int .i64 s.g, .sl 8 0 0 1 1, .sl 3 1 0 ns.length 0, .sl 4 2 0 1 1, .nils, A], .arr true 8 [encPlan p] :: blkM ns :: .arr true 4 [[.bool s.fe, encMembers ke, F, .bool s.he]] :: B) := by
 obtain ⟨e, g, p, ns, nb, op, keep, fz, fe, he, l, cf⟩ := s
 cases ns with
 | nil => exact absurd rfl hne
 | cons n0 nt => cases fz <;> cases l <;> cases b <;> kernel_rfl
def gBuE {R : Type} (n : Bool) (s : ES) (b : Bool) (K : Plan -> List Member -> AV -> AV -> List BS -> Option R) : Option R :=
 gMs s.p.chain fun y0 => gMs s.p.valid fun y1 => gMs s.keep fun y3 => gFzV s.fz fun F => gAk3 (.emp n) s.l b fun A B => K { s.p with chain := y0, valid := y1 } y3 F A B
theorem bur_eqE (n : Bool) (s : ES) (b : Bool) : callH (envK2 kn46e) 20 F_twin_Bureau [.agg (buD (.emp n) s b)] [] =
 gBuE n s b fun p ke F A B => some (.agg [.int .i64 s.e, .int .i64 s.g, .sl 8 0 0 1 1, nA n, .sl 4 1 0 1 1, .nils, A], .arr true 8 [encPlan p] :: .arr true 4 [[.bool s.fe, encMembers ke, F, .bool s.he]] :: B) := by
 obtain ⟨e, g, p, ns, nb, op, keep, fz, fe, he, l, cf⟩ := s
 cases n <;> cases fz <;> cases l <;> cases b <;> kernel_rfl
def trl1 : AV -> List AV
 | .trl _ [c] => c
 | _ => []
def akC (q : Nat) : AV -> AV
 | .tr _ n _ => .sl 31 q 0 n 0
 | A => A
def akB : AV -> List BS
 | .tr _ n f => [.seq true 31 n f]
 | _ => []
def outBu (args : List AV) : AV × Heap :=
 let c := argC args 0
 match c.getD 3 .undef with
 | .tr _ n f => (.agg [c.getD 0 .undef, c.getD 1 .undef, .sl 8 0 0 1 1, .sl 3 1 0 n 0, .sl 4 2 0 1 1, .nils, akC 3 (c.getD 6 .undef)], .arr true 8 [trl1 (c.getD 2 .undef)] :: .seq true 3 n f :: .arr true 4 [trl1 (c.getD 4 .undef)] :: akB (c.getD 6 .undef))
 | N => (.agg [c.getD 0 .undef, c.getD 1 .undef, .sl 8 0 0 1 1, N, .sl 4 1 0 1 1, .nils, akC 2 (c.getD 6 .undef)], .arr true 8 [trl1 (c.getD 2 .undef)] :: .arr true 4 [trl1 (c.getD 4 .undef)] :: akB (c.getD 6 .undef))
structure BOk (d : ND) (s : ES) : Prop where
 eok : EOk s
 val : s.p.valid.length <= 1000
 cp : ∀ f ∈ s.fz.l, CpOk f
 nd : (d = .blk /\ s.ns ≠ []) \/ (d ≠ .blk /\ s.ns = [])
theorem gAk3_eq {R : Type} {d : ND} {l : List Ask} {b : Bool} {K : AV -> List BS -> Option R} (h : l.length <= 1000) : gAk3 d l b K = K (akC d.sh (akAV l b)) (akB (akAV l b)) := by
 cases l with
 | nil => cases b <;> rfl
 | cons a t =>
  have hp : pAk (a :: t) := ⟨Nat.le_trans h (by omega), List.cons_ne_nil _ _⟩
  exact qAk (k := fun y => K (.sl 31 d.sh 0 y.length 0) [blkA y]) hp
theorem bur_con {d : ND} {s : ES} {b : Bool} (h : BOk d s) : Contract PG F_twin_Bureau [.agg (buD d s b)] [] (outBu [.agg (buD d s b)]).1 (outBu [.agg (buD d s b)]).2 := by
 have h1 := h.eok.ch
 have h2 := h.val
 have h3 := h.eok.ns
 have h4 := h.eok.keep
 cases d with
 | blk =>
  have hne : s.ns ≠ [] := by
   rcases h.nd with x | x
   ·exact x.2
   ·exact absurd rfl x.1
  have e := bur_eq s b hne
  unfold gBuT at e
  rw [gMs_eq _ (by unfold shortL LB; omega), gMs_eq _ (by unfold shortL LB; omega), gCA_eq h3 hne, gMs_eq _ (by unfold shortL LB; omega), gFzV_eq h.eok.fz h.cp, gAk3_eq h.eok.l] at e
  exact (conT2H kn46_ok e).1
 | emp n =>
  have e := bur_eqE n s b
  unfold gBuE at e
  rw [gMs_eq _ (by unfold shortL LB; omega), gMs_eq _ (by unfold shortL LB; omega), gMs_eq _ (by unfold shortL LB; omega), gFzV_eq h.eok.fz h.cp, gAk3_eq h.eok.l] at e
  cases n <;> exact (conK2H kn46e_ok e).1
def GBu (args : List AV) : Prop := ∃ d s b, BOk d s /\ args = [.agg (buD d s b)]
def kBu : Known := { f := F_twin_Bureau, ans := fun args hp => match hp with
 | [] => some { X := Unit, g := cd (GBu args), a := (), r := fun _ => outBu args }
 | _ => none }
theorem kBu_ok : kBu.Ok PG := by
 intro args hp A e hg
 cases hp with
 | nil =>
  cases e
  obtain ⟨d, s, b, h, rfl⟩ := cd_iff.1 hg
  exact ⟨bur_con h, Nat.zero_le _⟩
 | cons x r => cases e
def gBuX {R : Type} (args : List AV) (K : Option R) : Option R := gX (GBu args) () fun _ => K
theorem gBuX_eq {R : Type} {d : ND} {s : ES} {b : Bool} {K : Option R} (h : BOk d s) : gBuX [.agg (buD d s b)] K = K := gX_of ⟨d, s, b, h, rfl⟩
def kn47 (t : Bool) (c : AC) : List Known := [kBu, kLk t, kAgn c]
theorem kn47_ok (t : Bool) (c : AC) : ∀ k ∈ kn47 t c, k.Ok PG := ak kBu_ok (ak (kLk_ok t) (ak (kAgn_ok c) ank))
def STq (s : ES) (A : AV) (B : List BS) (n : Nat) (f : Nat -> List AV) (i : Int) : St := { fr := [(4, .ptr 0 0 0), (6, .ptr 1 0 0), (19, .int .i64 n), (20, .int .i64 i)], hp := [.arr true 7 [[.int .i64 0, .int .i64 0, .nils, .nils, .nils, .nils, .nils]], .arr true 23 [dsk s.e s.g (.sl 8 2 0 1 1) (.sl 3 3 0 n 0) (.sl 4 4 0 1 1) .nils A s.c .nils], .arr true 8 [encPlan s.p], .seq true 3 n f, .arr true 4 [wkA s]] ++ B }
def LTk (N : Nat) (t : Bool) (c : AC) (j : Nat) (S : St) : Option AV := LP (envT9 (kn47 t c)) (N + 19) 0 F_coord_Tick snK 0 [] j S
def STc (s : ES) (b : Bool) (n : Nat) (f : Nat -> List AV) (i : Int) : St := STq s (akC 5 (akAV s.l b)) (akB (akAV s.l b)) n f i
theorem tk_in (N : Nat) (t : Bool) (c : AC) (s : ES) (b : Bool) : callT (envT9 (kn47 t c)) (N + 20) F_coord_Tick [.agg (buD .blk s b), .agg (encCf s.c)] =
 gBuX [.agg (buD .blk s b)] (LTk N t c (N + 19) (STc s b s.ns.length (fun k => encAlive (s.ns.getD k default)) 0)) := by
 obtain ⟨e, g, p, ns, nb, op, keep, fz, fe, he, l, cf⟩ := s
 cases fz <;> cases l <;> cases b <;> kernel_rfl
def hpT8 (s : ES) (b : Bool) (n : Nat) (f : Nat -> List AV) : Heap := .arr true 23 [dsk s.e s.g (.sl 8 1 0 1 1) (.sl 3 2 0 n 0) (.sl 4 3 0 1 1) .nils (akCellK .blk s.l b) s.c .nils] :: .arr true 8 [encPlan s.p] :: .seq true 3 n f :: .arr true 4 [wkA s] :: akBlK s.l
def tkE (t : Bool) (c : AC) (H : Heap) : Option AV :=
 gLk t H (gAgn c (lkH t H (lookP (dEn A0 H).s).p (lookP (dEn A0 H).s).keep) (fin (agH c (lkH t H (lookP (dEn A0 H).s).p (lookP (dEn A0 H).s).keep) (dEn A0 (lkH t H (lookP (dEn A0 H).s).p (lookP (dEn A0 H).s).keep)).s)))
def incF (g : Nat -> Alive) (i : Nat) : Nat -> List AV := fun k => bif k.beq i then [.int .i64 (g i).member.node, .int .i64 (g i).member.boot, .int .i64 (IntKind.i64.wrap ((g i).missed + 1))] else encAlive (g k)
theorem tk_st (N : Nat) (t : Bool) (c : AC) (j : Nat) (s : ES) (b : Bool) (n : Nat) (g : Nat -> Alive) (i : Int) : LTk N t c (j + 1) (STc s b n (fun k => encAlive (g k)) i) =
 bif decide (i < (n : Int)) then rg i n <| bif (0 + i.toNat).blt n then rg i n <| bif (0 + i.toNat).blt n && true then LTk N t c j (STc s b n (incF g (0 + i.toNat)) (IntKind.i64.wrap (i + 1))) else none else none
 else tkE t c (hpT8 s b n fun k => encAlive (g k)) := by
 obtain ⟨e, g, p, ns, nb, op, keep, fz, fe, he, l, cf⟩ := s
 cases t <;> cases c <;> cases fz <;> cases l <;> cases b <;> kernel_rfl
theorem tk_e (t : Bool) (c : AC) (n : Bool) (s : ES) (b : Bool) : callT (envT9 (kn47 t c)) 20 F_coord_Tick [.agg (buD (.emp n) s b), .agg (encCf s.c)] =
 gBuX [.agg (buD (.emp n) s b)] (tkE t c (hpT9 (.emp n) true s b)) := by
 obtain ⟨e, g, p, ns, nb, op, keep, fz, fe, he, l, cf⟩ := s
 cases t <;> cases c <;> cases n <;> cases fz <;> cases l <;> cases b <;> kernel_rfl
def incA (a : Alive) : Alive := { a with missed := IntKind.i64.wrap (a.missed + 1) }
def incS (s : ES) : ES := { s with ns := s.ns.map incA }
def frzMg (m : Member) (ep : Int) : Msg := { msgZ with kind := 8, src := 1, dst := m.node, boot := m.boot, epoch := ep }
def fenMg (ep : Int) : Msg := { msgZ with kind := 19, src := 1, dst := 0, epoch := ep }
def agF (s : ES) (m : Member) : Option Msg := bif (frozenP (wkE s) m).2 then none else some (frzMg m s.p.epoch)
def agMs (s : ES) : List Msg :=
 bif decide (s.p.phase = 1) then (bif !s.fe then [fenMg s.p.epoch] else []) ++ (bif s.p.fresh then s.p.chain else s.keep).filterMap (agF s)
 else bif decide (s.p.phase = 3) && !s.he then (bif decide (0 < s.p.chain.length) then [actMg s.p] else []) else []
def againQ (s : ES) : ES × List Msg := bif mayE s then (endS s, outMs (endP s).2 s.l) else (s, agMs s)
def CMs (c : List (List AV)) (l : List Msg) : Prop := c.length = l.length /\ ∀ i, i < l.length -> SubC (c.getD i []) (encMsg (l.getD i default))
theorem CMs.nil : CMs [] [] := ⟨rfl, fun i hi => absurd hi (Nat.not_lt_zero i)⟩
theorem CMs.cons {x : List AV} {m : Msg} {c : List (List AV)} {l : List Msg} (h : SubC x (encMsg m)) (h' : CMs c l) : CMs (x :: c) (m :: l) := ⟨by simp [h'.1], fun i hi => by
 cases i with
 | zero => exact h
 | succ i => exact h'.2 i (by simpa using hi)⟩
theorem CMs.append {c c' : List (List AV)} {l l' : List Msg} (h : CMs c l) (h' : CMs c' l') : CMs (c ++ c') (l ++ l') := by
 induction c generalizing l with
 | nil =>
  cases l with
  | nil => exact h'
  | cons a t => have := h.1; simp at this
 | cons x c ih =>
  cases l with
  | nil => have := h.1; simp at this
  | cons a t =>
   refine CMs.cons (h.2 0 (by simp)) (ih ⟨by have := h.1; simpa using this, fun i hi => h.2 (i + 1) (by simpa using hi)⟩)
theorem frz_sub (m : Member) (ep : Int) : SubC (frC m ep) (encMsg (frzMg m ep)) := subC_all (by repeat' (first | exact trivial | exact nilsL | exact SubV.refl _ | refine ⟨?_, ?_⟩))
theorem fen_sub (ep : Int) : SubC (feC ep) (encMsg (fenMg ep)) := subC_all (by repeat' (first | exact trivial | exact nilsL | exact SubV.refl _ | refine ⟨?_, ?_⟩))
theorem frz_cms (s : ES) : ∀ l : List Member, CMs (l.filterMap (frzO s)) (l.filterMap (agF s))
 | [] => .nil
 | m :: l => by
  have ih := frz_cms s l
  rw [List.filterMap_cons, List.filterMap_cons]
  unfold frzO agF at *
  cases (frozenP (wkE s) m).2 with
  | true => exact ih
  | false => exact .cons (frz_sub _ _) ih
theorem ag_cms (s : ES) : CMs (agC s) (agMs s) := by
 unfold agC agMs
 cases decide (s.p.phase = 1) with
 | true =>
  rw [cond_true, cond_true]
  refine .append ?_ (frz_cms s _)
  cases s.fe with
  | true => exact .nil
  | false => exact .cons (fen_sub _) .nil
 | false =>
  rw [cond_false, cond_false]
  cases decide (s.p.phase = 3) && !s.he with
  | false => exact .nil
  | true =>
   rw [cond_true, cond_true]
   cases decide (0 < s.p.chain.length) with
   | false => exact .nil
   | true => exact .cons (act_sub _) .nil
def outV : List (List AV) -> AV
 | [] => .nils
 | os => .tr 31 os.length fun k => canF idC [] os (k + 0)
theorem outV_sub {c : List (List AV)} {l : List Msg} (h : CMs c l) : SubV (outV c) (encMsgs l) := by
 cases c with
 | nil =>
  cases l with
  | nil => exact nilsL
  | cons a t => have := h.1; simp at this
 | cons x c =>
  unfold encMsgs encL
  show SubV (.tr 31 (x :: c).length fun k => canF idC [] (x :: c) (k + 0)) _
  rw [h.1]
  refine SubV.trs fun i hi => ?_
  have e1 : canF idC [] (x :: c) (i + 0) = (x :: c).getD i [] := canF_at (e := idC) (z := []) (by rw [h.1]; exact hi)
  rw [e1]; exact h.2 i hi
def nVT (d : ND) (ns : List Alive) : AV := match d with
 | .blk => .tr 3 ns.length fun k => encAlive (ns.getD (k + 0) default)
 | .emp n => nA n
theorem nVT_sub {d : ND} {ns : List Alive} (h : d = .blk \/ ns = []) : SubV (nVT d ns) (encAlives ns) := by
 cases d with
 | blk => exact .refl _
 | emp n =>
  rcases h with h | h
  ·cases h
  ·subst h; exact nA_sub n
theorem akAV_ask (l : List Ask) (b : Bool) : SubV (akAV l b) (encAsks l) := by
 cases l with
 | nil => exact aqV_ask b
 | cons a t => exact .refl _
def tkV (d : ND) (s : ES) (b : Bool) (os : List (List AV)) : AV := .tup [.agg [.int .i64 s.e, .int .i64 s.g, .trl 8 [encPlan s.p], nVT d s.ns, .trl 4 [wkA s], .nils, akAV s.l b], outV os]
theorem tkV_sub {d : ND} {s : ES} {b : Bool} {os : List (List AV)} {ms : List Msg} (hd : d = .blk \/ s.ns = []) (h : CMs os ms) : SubV (tkV d s b os) (ansB (s, ms)) :=
 .tup (.cons (.agg (.cons (.refl _) (.cons (.refl _) (.cons (.refl _) (.cons (nVT_sub hd) (.cons (.refl _) (.cons (.refl _) (.cons (akAV_ask _ _) .nil)))))))) (.cons (outV_sub h) .nil))
def gUL (n : Nat) : Bool := n.beq 0 || (n + 0).ble n
theorem gUL_eq (n : Nat) : gUL n = true := by unfold gUL; rw [show n + 0 = n from rfl, orU]
def gND (d : ND) (n : Nat) (G : Bool) : Bool := match d with
 | .blk => gUL n && G
 | .emp _ => G
theorem gND_eq {d : ND} {n : Nat} {G : Bool} : gND d n G = G := by cases d <;> simp only [gND, gUL_eq, Bool.true_and]
def gLD (l : List Ask) : Bool := match l with
 | [] => true
 | _ :: _ => gUL l.length && true
theorem gLD_eq {l : List Ask} : gLD l = true := by cases l <;> simp only [gLD, gUL_eq, Bool.true_and]
theorem fin_T0 (d : ND) (s : ES) (b : Bool) : fin (hpQ d s b .nils []) = bif gND d s.ns.length (gLD s.l) && true then some (tkV d s b []) else none := by
 obtain ⟨e, g, p, ns, nb, op, keep, fz, fe, he, l, c⟩ := s
 rcases d with _ | n
 ·cases l <;> cases b <;> cases fz <;> rfl
 ·cases n <;> cases l <;> cases b <;> cases fz <;> rfl
theorem fin_T1 (d : ND) (s : ES) (b : Bool) (x : List AV) : fin (hpQ d s b (gSl 31 (qOf d s.l) [x]) (gBl 31 idC [] [x])) = bif gND d s.ns.length (gLD s.l) && true then some (tkV d s b [x]) else none := by
 obtain ⟨e, g, p, ns, nb, op, keep, fz, fe, he, l, c⟩ := s
 rcases d with _ | n
 ·cases l <;> cases b <;> cases fz <;> rfl
 ·cases n <;> cases l <;> cases b <;> cases fz <;> rfl
theorem fin_Tn (d : ND) (s : ES) (b : Bool) (x y : List AV) (r : List (List AV)) : fin (hpQ d s b (gSl 31 (qOf d s.l) (x :: y :: r)) (gBl 31 idC [] (x :: y :: r))) = bif gND d s.ns.length (gLD s.l) && (gUL (x :: y :: r).length && true) then some (tkV d s b (x :: y :: r)) else none := by
 obtain ⟨e, g, p, ns, nb, op, keep, fz, fe, he, l, c⟩ := s
 rcases d with _ | n
 ·cases l <;> cases b <;> cases fz <;> rfl
 ·cases n <;> cases l <;> cases b <;> cases fz <;> rfl
theorem fin_endN {s : ES} (b : Bool) (g : Int) (p : Plan) (hn : s.nb = true) (ho : s.op = .nil) : ∃ v, fin (outE (wrE s g p) b) = some v /\ SubV v (ansB ({ s with g := g, p := p, fe := false, keep := [], fz := .nil, he := false, l := [] }, outMs p s.l)) := by
 obtain ⟨e, g0, p0, ns, nb, op, keep, fz, fe, he, l, c⟩ := s
 subst hn ho
 have hw : SubV (.trl 4 [wk0]) (.trl 4 [wkA ⟨e, g, p, ns, false, .nil, [], .nil, false, false, [], c⟩]) := one_trl (wk0_sub _ rfl rfl rfl rfl)
 have hN : SubV (nVT .blk ns) (encAlives ns) := .refl _
 cases l with
 | nil =>
  refine ⟨.tup [.agg [.int .i64 e, .int .i64 g, .trl 8 [encPlan p], nVT .blk ns, .trl 4 [wk0], .nils, aqV b], .trl 31 [actC p]], ?_, ?_⟩
  ·have : (bif (gUL ns.length && true) && true then some (AV.tup [.agg [.int .i64 e, .int .i64 g, .trl 8 [encPlan p], nVT .blk ns, .trl 4 [wk0], .nils, aqV b], .trl 31 [actC p]]) else none) = some (AV.tup [.agg [.int .i64 e, .int .i64 g, .trl 8 [encPlan p], nVT .blk ns, .trl 4 [wk0], .nils, aqV b], .trl 31 [actC p]]) := by rw [gUL_eq]; rfl
   refine Eq.trans ?_ this
   cases b <;> rfl
  ·refine .tup (.cons (.agg (.cons (.refl _) (.cons (.refl _) (.cons (.refl _) (.cons hN (.cons hw (.cons (.refl _) (.cons (aqV_ask b) .nil)))))))) (.cons ?_ .nil))
   exact SubV.trans (one_trl (act_sub p)) (SubV.trl_encL (e := encMsg) (z := default) [actMg p])
 | cons a t =>
  refine ⟨.tup [.agg [.int .i64 e, .int .i64 g, .trl 8 [encPlan p], nVT .blk ns, .trl 4 [wk0], .nils, .tr 31 0 fun i => bif (i + 0).blt (0 + (a :: t).length) then zMsgC else encAsk ((a :: t).getD (i + 0) (0, 0))], .tr 31 ((a :: t).length + 1) fun i => canF idC [] (actC p :: (a :: t).map ansC) (i + 0)], ?_, ?_⟩
  ·have : (bif (gUL ns.length && (true && true)) && (gUL ((a :: t).length + 1) && true) then some (AV.tup [.agg [.int .i64 e, .int .i64 g, .trl 8 [encPlan p], nVT .blk ns, .trl 4 [wk0], .nils, .tr 31 0 fun i => bif (i + 0).blt (0 + (a :: t).length) then zMsgC else encAsk ((a :: t).getD (i + 0) (0, 0))], .tr 31 ((a :: t).length + 1) fun i => canF idC [] (actC p :: (a :: t).map ansC) (i + 0)]) else none) = some (AV.tup [.agg [.int .i64 e, .int .i64 g, .trl 8 [encPlan p], nVT .blk ns, .trl 4 [wk0], .nils, .tr 31 0 fun i => bif (i + 0).blt (0 + (a :: t).length) then zMsgC else encAsk ((a :: t).getD (i + 0) (0, 0))], .tr 31 ((a :: t).length + 1) fun i => canF idC [] (actC p :: (a :: t).map ansC) (i + 0)]) := by
    rw [gUL_eq, gUL_eq]; rfl
   exact this
  ·refine .tup (.cons (.agg (.cons (.refl _) (.cons (.refl _) (.cons (.refl _) (.cons hN (.cons hw (.cons (.refl _) (.cons ?_ .nil)))))))) (.cons (outs_sub p (a :: t)) .nil))
   exact SubV.trs fun i hi => absurd hi (Nat.not_lt_zero i)
theorem fin_Ag {d : ND} {s : ES} {b : Bool} (h : TOk d s) : ∃ v, fin (hpAg d s b) = some v /\ SubV v (ansB (againQ s)) := by
 unfold hpAg againQ
 cases hm : mayE s with
 | true =>
  have hd : d = .blk := by
   cases d with
   | blk => rfl
   | emp n => have := h.no (fun e => by cases e); rw [hm] at this; cases this
  subst hd
  exact fin_endN b _ _ h.nb h.op
 | false =>
  rw [cond_false, cond_false]
  have hc := ag_cms s
  match ha : agC s with
  | [] =>
   rw [ha] at hc
   have e := fin_T0 d s b
   rw [gND_eq, gLD_eq] at e
   exact ⟨_, e, tkV_sub h.nd hc⟩
  | [x] =>
   rw [ha] at hc
   have e := fin_T1 d s b x
   rw [gND_eq, gLD_eq] at e
   exact ⟨_, e, tkV_sub h.nd hc⟩
  | x :: y :: r =>
   rw [ha] at hc
   have e := fin_Tn d s b x y r
   rw [gND_eq, gLD_eq, gUL_eq] at e
   exact ⟨_, e, tkV_sub h.nd hc⟩
theorem tkE_ok {t : Bool} {c : AC} {d : ND} {s : ES} {b : Bool} (h : TOk d s) (ht : lkC t s) (h2 : TOk d (lookP s)) (hc : acC c (lookP s)) : tkE t c (hpT9 d true s b) = fin (hpAg d (lookP s) b) := by
 have e1 : (dEn A0 (hpT9 d true s b)).s = s := congrArg EB.s (dT9_eq (t := true) (b := b) h.nb h.nd h.op)
 have e2 : (dEn A0 (hpT9 d false (lookP s) b)).s = lookP s := congrArg EB.s (dT9_eq (t := false) (b := b) h2.nb h2.nd h2.op)
 unfold tkE
 rw [gLk_eq h ht, e1, lkH_eq ht, gAgn_eq h2 hc, e2, agH_eq h2 hc]
theorem begin_or (s : ES) (fr : Bool) : beginS s fr = s \/ ∃ p keep, beginS s fr = wkS s p keep /\ p.chain = s.p.chain /\ p.valid = s.p.valid /\ keep.length <= s.p.valid.length := by
 unfold beginS
 cases decide (1099511627776 <= s.p.epoch) with
 | true => exact .inl rfl
 | false =>
  refine .inr ⟨_, _, rfl, rfl, rfl, ?_⟩
  cases fr with
  | true => exact Nat.zero_le _
  | false => exact List.length_filterMap_le _ _
theorem look_begin (s : ES) : lookP s = s \/ ∃ fr, lookP s = beginS s fr := by
 unfold lookP
 cases decide (s.p.phase = 0) with
 | true =>
  cases decide (0 < (upP s.ns s.c.susp).length) with
  | true => exact .inr ⟨true, rfl⟩
  | false => exact .inl rfl
 | false =>
  rw [cond_false]
  cases decide (s.p.phase = 3) with
  | true =>
   rw [cond_true]
   cases s.p.chain.any (fun m => !inUp (upP s.ns s.c.susp) m) && s.p.valid.any (fun m => inUp (upP s.ns s.c.susp) m) || growsP s.p s.c (upP s.ns s.c.susp) with
   | true => exact .inr ⟨false, rfl⟩
   | false => exact .inl rfl
  | false =>
   rw [cond_false]
   cases decide (s.p.phase = 1) && !s.p.fresh with
   | false => exact .inl rfl
   | true =>
    rw [cond_true]
    cases (decide (s.keep.length = 0) || s.keep.any (fun m => !inUp (upP s.ns s.c.susp) m)) && s.p.valid.any (fun m => inUp (upP s.ns s.c.susp) m) with
    | true => exact .inr ⟨false, rfl⟩
    | false => exact .inl rfl
theorem look_or (s : ES) : lookP s = s \/ ∃ p keep, lookP s = wkS s p keep /\ p.chain = s.p.chain /\ p.valid = s.p.valid /\ keep.length <= s.p.valid.length := by
 rcases look_begin s with h | ⟨fr, h⟩
 ·exact .inl h
 ·rw [h]; exact begin_or s fr
theorem lkC_or (s : ES) : ∃ t, lkC t s := by
 rcases look_or s with h | ⟨p, keep, h, _⟩
 ·exact ⟨false, h⟩
 ·refine ⟨true, ?_⟩
  show lookP s = wkS s (lookP s).p (lookP s).keep
  rw [h]; rfl
theorem TOk.look {s : ES} (h : TOk .blk s) : TOk .blk (lookP s) := by
 rcases look_or s with e | ⟨p, keep, e, h1, h2, h3⟩
 ·rw [e]; exact h
 ·rw [e]
  have := h.val
  exact ⟨⟨by rw [show (wkS s p keep).p.chain = s.p.chain from h1]; exact h.eok.ch, h.eok.ns, by show keep.length <= 3; omega, Nat.zero_le _, (fun f hf => by cases hf), h.eok.c1, h.eok.c2, h.eok.l⟩,
   .inl rfl, fun e => absurd rfl e, h.nb, h.op, by rw [show (wkS s p keep).p.valid = s.p.valid from h2]; exact h.val, (fun f hf => by cases hf), by rw [show (wkS s p keep).p.chain = s.p.chain from h1]; exact h.pc⟩
theorem look_nil {s : ES} (h : s.ns = []) : lookP s = s := by
 have hu : upP s.ns s.c.susp = [] := by rw [h]; rfl
 unfold lookP
 rw [hu]
 have h1 : ∀ l : List Member, l.any (fun m => inUp [] m) = false := fun l => by
  rw [List.any_eq_false]
  intro m _ hm
  unfold inUp at hm
  have : idx [] m = -1 := rfl
  rw [this] at hm
  exact absurd (of_decide_eq_true hm) (by omega)
 have h2 : growsP s.p s.c [] = false := by
  unfold growsP
  cases decide (s.c.chain <= (s.p.chain.length : Int)) with
  | true => rfl
  | false => rw [cond_false, List.any_nil, Bool.and_false]
 rw [h1, h2, Bool.and_false, Bool.and_false]
 cases decide (s.p.phase = 0) <;> cases decide (s.p.phase = 3) <;> cases (decide (s.p.phase = 1) && !s.p.fresh) <;> rfl
theorem may_nil {s : ES} (h : s.ns = []) (hk : s.keep = []) : mayE s = false := by
 have hu : upP s.ns s.c.susp = [] := by rw [h]; rfl
 show (bif !decide (s.p.phase = 1) then false else bif !s.fe then false else
  bif s.p.fresh then bif decide (0 < s.p.chain.length) then bif !s.p.chain.any (fun m => overP (wkE s) s.ns m) then false else decide (0 < (upP s.ns s.c.susp).length) else decide (0 < (upP s.ns s.c.susp).length)
  else bif s.keep.all (fun m => (frozenP (wkE s) m).2) then bif decide (0 < s.keep.length) then bif (bestP (wkE s) s.p.base).isSome then true else decide (0 < (upP s.ns s.c.susp).length) else false else false) = false
 rw [hu, hk]
 have e0 : decide (0 < ([] : List Member).length) = false := rfl
 rw [e0]
 cases decide (s.p.phase = 1) <;> cases s.fe <;> cases s.p.fresh <;> cases decide (0 < s.p.chain.length) <;> cases s.p.chain.any (fun m => overP (wkE s) s.ns m) <;> rfl
def gInc (g : Nat -> Alive) (i k : Nat) : Alive := bif k.blt i then incA (g k) else g k
theorem blt_false' {a b : Nat} (h : ¬ a < b) : a.blt b = false := by
 cases e : a.blt b with
 | false => rfl
 | true => exact absurd (Nat.le_of_ble_eq_true e) h
theorem incF_gInc (g : Nat -> Alive) (i : Nat) : incF (gInc g i) i = fun k => encAlive (gInc g (i + 1) k) := by
 funext k
 unfold incF
 by_cases e : k = i
 ·subst e
  have e1 : gInc g k k = g k := by unfold gInc; rw [blt_false' (Nat.lt_irrefl k)]; rfl
  have e2 : gInc g (k + 1) k = incA (g k) := by unfold gInc; rw [blt_true (Nat.lt_succ_self k)]; rfl
  rw [AM.beq_true rfl, cond_true, e1, e2]; rfl
 ·rw [AM.beq_false e, cond_false]
  unfold gInc
  by_cases h : k < i
  ·rw [blt_true h, blt_true (by omega)]
  ·rw [blt_false' h, blt_false' (by omega)]
def blkS (s : ES) : ES := { incS s with nb := true }
theorem tk_hp (s : ES) (b : Bool) : hpT8 s b s.ns.length (fun k => encAlive (gInc (fun k => s.ns.getD k default) s.ns.length k)) = hpT9 .blk true (blkS s) b := by
 have e : (fun k => encAlive (gInc (fun k => s.ns.getD k default) s.ns.length k)) = fun k => encAlive ((s.ns.map incA).getD k default) := by
  funext k
  congr 1
  unfold gInc
  by_cases h : k < s.ns.length
  ·rw [blt_true h, cond_true]
   simp [List.getD, h]
  ·rw [blt_false' h, cond_false]
   have h' : s.ns.length <= k := by omega
   simp [List.getD, List.getElem?_eq_none h']
 rw [e]
 have e2 : s.ns.length = (s.ns.map incA).length := by simp
 rw [e2]
 rfl
theorem tk_run (N : Nat) (t : Bool) (c : AC) (s : ES) (b : Bool) (hl : s.ns.length <= 1000) : ∀ d i j, i + d = s.ns.length -> d < j -> LTk N t c j (STc s b s.ns.length (fun k => encAlive (gInc (fun k => s.ns.getD k default) i k)) (i : Nat)) = tkE t c (hpT9 .blk true (blkS s) b) := by
 intro d
 induction d with
 | zero =>
  intro i j hi hj
  obtain ⟨j, rfl⟩ : ∃ k, j = k + 1 := ⟨j - 1, by omega⟩
  have : i = s.ns.length := by omega
  subst this
  rw [tk_st, decide_eq_false (by omega), cond_false, tk_hp]
 | succ d ih =>
  intro i j hi hj
  obtain ⟨j, rfl⟩ : ∃ k, j = k + 1 := ⟨j - 1, by omega⟩
  have hil : i < s.ns.length := by omega
  rw [tk_st, decide_eq_true (by omega), cond_true, rg_eq hil, Int.toNat_natCast, Nat.zero_add, blt_true hil, cond_true, rg_eq hil, Bool.and_true, cond_true, wrapS (by omega), incF_gInc]
  exact ih (i + 1) j (by omega) (by omega)
structure KOk (s : ES) : Prop where
 eok : EOk s
 nb : s.nb = false
 op : s.op = .nil
 val : s.p.valid.length <= 3
 cp : ∀ f ∈ s.fz.l, CpOk f
 kn : s.ns = [] -> s.keep = []
theorem KOk.blk {s : ES} (h : KOk s) : TOk .blk (blkS s) :=
 ⟨⟨h.eok.ch, by show (s.ns.map incA).length <= 1000; rw [List.length_map]; exact h.eok.ns, h.eok.keep, h.eok.fz, h.eok.ver, h.eok.c1, h.eok.c2, h.eok.l⟩, .inl rfl, fun e => absurd rfl e, rfl, h.op, h.val, h.cp, h.eok.ch⟩
theorem KOk.emp {s : ES} (h : KOk s) (hns : s.ns = []) (n : Bool) : TOk (.emp n) s := ⟨h.eok, .inr hns, fun _ => may_nil hns (h.kn hns), h.nb, h.op, h.val, h.cp, h.eok.ch⟩
def tickQ (s : ES) : ES × List Msg := againQ (lookP (blkS s))
theorem tick_blk {s : ES} {b : Bool} (h : KOk s) (hne : s.ns ≠ []) : Contract PG F_coord_Tick [.agg (buD .blk s b), .agg (encCf s.c)] [] (ansB (tickQ s)) [] := by
 have h1 := h.blk
 obtain ⟨t, ht⟩ := lkC_or (blkS s)
 obtain ⟨c, hc⟩ := acC_or (lookP (blkS s))
 have e := tk_in 2000 t c s b
 have hl := h.eok.ns
 rw [gBuX_eq ⟨h.eok, Nat.le_trans h.val (by omega), h.cp, .inl ⟨rfl, hne⟩⟩] at e
 have r := tk_run 2000 t c s b hl s.ns.length 0 (2000 + 19) (by omega) (by omega)
 have e0 : (fun k => encAlive (gInc (fun k => s.ns.getD k default) 0 k)) = fun k => encAlive (s.ns.getD k default) := rfl
 rw [e0] at r
 obtain ⟨v, f1, f2⟩ := fin_Ag (b := b) h1.look
 have e := e.trans (r.trans ((tkE_ok h1 ht h1.look hc).trans f1))
 exact (conT9 (kn47_ok _ _) e).res f2
theorem tick_emp {s : ES} {b n : Bool} (h : KOk s) (hns : s.ns = []) : Contract PG F_coord_Tick [.agg (buD (.emp n) s b), .agg (encCf s.c)] [] (ansB (tickQ s)) [] := by
 have h1 := h.emp hns n
 have hl := look_nil hns
 have h2 : TOk (.emp n) (lookP s) := by rw [hl]; exact h1
 obtain ⟨t, ht⟩ := lkC_or s
 obtain ⟨c, hc⟩ := acC_or (lookP s)
 have e := tk_e t c n s b
 rw [gBuX_eq ⟨h.eok, Nat.le_trans h.val (by omega), h.cp, .inr ⟨(fun e => by cases e), hns⟩⟩] at e
 obtain ⟨v, f1, f2⟩ := fin_Ag (b := b) h2
 have e := e.trans ((tkE_ok h1 ht h2 hc).trans f1)
 have eq : ansB (againQ (lookP s)) = ansB (tickQ s) := by
  have hm : mayE s = false := may_nil hns (h.kn hns)
  have hb : (blkS s).ns = [] := by show s.ns.map incA = []; rw [hns]; rfl
  have hm2 : mayE (blkS s) = false := may_nil hb (h.kn hns)
  unfold tickQ
  rw [hl, look_nil hb]
  unfold againQ
  rw [hm, hm2, cond_false, cond_false]
  have : blkS s = { s with nb := true } := by
   unfold blkS incS
   rw [hns]; rfl
  rw [this]
  rfl
 rw [<- eq]
 exact (conT9 (kn47_ok _ _) e).res f2
theorem tick_asks {s : ES} {d : ND} (h : ∀ b, Contract PG F_coord_Tick [.agg (buD d s b), .agg (encCf s.c)] [] (ansB (tickQ s)) []) : Contract PG F_coord_Tick [.agg [.int .i64 s.e, .int .i64 s.g, .trl 8 [encPlan s.p], nV d s.ns, .trl 4 [wkA s], .nils, encAsks s.l], .agg (encCf s.c)] [] (ansB (tickQ s)) [] := by
 by_cases hl : s.l = []
 ·refine Contract.split (args1 := [.agg (buD d s false), .agg (encCf s.c)]) (args2 := [.agg (buD d s true), .agg (encCf s.c)]) ?_ (h false) (h true)
  unfold buD akAV
  rw [hl]
  exact OrC.of [] [.agg (encCf s.c)] (.agg (OrC.of [.int .i64 s.e, .int .i64 s.g, .trl 8 [encPlan s.p], nV d s.ns, .trl 4 [wkA s], .nils] [] .nil))
 ·have : encAsks s.l = akAV s.l false := by
   unfold akAV
   cases h : s.l with
   | nil => exact absurd h hl
   | cons a t => rfl
  rw [this]
  exact h false
theorem tick_con {s : ES} (h : KOk s) : Contract PG F_coord_Tick [.agg (buT s), .agg (encCf s.c)] [] (ansB (tickQ s)) [] := by
 by_cases hns : s.ns = []
 ·have h0 := tick_asks (d := .emp false) (s := s) fun b => tick_emp h hns
  have h1 := tick_asks (d := .emp true) (s := s) fun b => tick_emp h hns
  refine Contract.split ?_ h0 h1
  unfold buT
  rw [hns]
  exact OrC.of [] [.agg (encCf s.c)] (.agg (OrC.of [.int .i64 s.e, .int .i64 s.g, .trl 8 [encPlan s.p]] [.trl 4 [wkA s], .nils, encAsks s.l] .nil))
 ·exact tick_asks (d := .blk) fun b => tick_blk h hns
end Go.Wk
end
