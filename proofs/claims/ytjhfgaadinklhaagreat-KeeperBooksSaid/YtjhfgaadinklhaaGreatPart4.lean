/- Part 4 of the texts that the proof needs: the abstract machine, plain laws, contracts of the program's functions. No statement is claimed here. -/
import Derived.Test.YtjhfgaadinklhaaGreatPart3
set_option linter.unusedVariables false
set_option linter.unusedSimpArgs false
section
/- A number's bytes, put behind others by the program. -/
open Go Go.AM Go.Md
namespace Go.Wk
set_option maxRecDepth 100000
set_option maxHeartbeats 4000000
def md5 (f : Nat) : Option Nat := bif nmem f [F_wire_Int, F_wire_Bool, F_wire_Text, F_wire_Ver, F_entry_PutOp, F_msg_putMember, F_msg_putView, F_msg_putImage, F_msg_putList_api_Member, F_msg_putList_api_View, F_msg_putList_api_Entry, F_msg_putList_api_Seen] then some 5 else none
noncomputable def envP (l : List Known) : Env := envM md5 (orcOf l)
def SI0 (n : Nat) (f : Nat → List AV) (x : Int) : St := { fr := [(0, .sl 1 0 0 n 0), (5, .int .u64 x)], hp := [.seq true 1 n f] }
def SI1 (n : Nat) (f : Nat → List AV) (x : Int) : St := { fr := [(0, .sl 1 1 0 n 0), (5, .int .u64 x)], hp := [.dead, .seq true 1 n f] }
theorem pint_in (N : Nat) (n : Nat) (f : Nat → List AV) (x : Int) : callH (envP []) (N + 1) F_wire_Int [AV.sl 1 0 0 n 0, AV.int IntKind.i64 x] [BS.seq true 1 n f] =
  bif decide (x < 0) then 
    LP (envP []) (N) 1 (F_wire_Int) (hnK 1) 0 [] (N) ({ fr := [(0, AV.sl 1 0 0 n 0), (5, AV.int IntKind.u64 (IntKind.u64.wrap (↑(BitVec.ofInt 64 (IntKind.u64.wrap (IntKind.u64.wrap x * 2)) ^^^ BitVec.ofInt 64 18446744073709551615).toNat : Int)))], hp := [BS.seq true 1 n f] })
  else 
    LP (envP []) (N) 1 (F_wire_Int) (hnK 1) 0 [] (N) ({ fr := [(0, AV.sl 1 0 0 n 0), (5, AV.int IntKind.u64 (IntKind.u64.wrap (IntKind.u64.wrap x * 2)))], hp := [BS.seq true 1 n f] }) := by kernel_rfl
theorem pint_0 (N : Nat) (j : Nat) (n : Nat) (f : Nat → List AV) (x : Int) : LP (envP []) N 1 F_wire_Int (hnK 1) 0 [] (j + 1) (SI0 n f x) =
  bif decide (127 < x) then 
    bif n.beq 0 || n.ble n then 
      bif ((n + 1) * 1).ble 140737488355328 && (n + 1).ble 140737488355328 then 
        LP (envP []) (N) (1) (F_wire_Int) (hnK 1) 0 ([]) (j) ({ fr := [(0, AV.sl 1 1 0 (n + 1) 0), (5, AV.int IntKind.u64 (x.fdiv 128))], hp := [BS.dead, BS.seq true 1 (n + 1) fun i => bif i.blt n then f i else bif i.blt (n + 1) then [[AV.int IntKind.u8 (IntKind.u8.wrap (↑(BitVec.ofInt 8 (IntKind.u8.wrap (IntKind.u64.wrap (↑(BitVec.ofInt 64 x &&& BitVec.ofInt 64 127).toNat : Int))) ||| BitVec.ofInt 8 128).toNat : Int))]].getD (i - n) [] else f n] })
      else none
    else none
  else 
    bif n.beq 0 || n.ble n then 
      bif ((n + 1) * 1).ble 140737488355328 && (n + 1).ble 140737488355328 then 
        some ((AV.sl 1 1 0 (n + 1) 0, [BS.dead, BS.seq true 1 (n + 1) fun i => bif i.blt n then f i else bif i.blt (n + 1) then [[AV.int IntKind.u8 (IntKind.u8.wrap x)]].getD (i - n) [] else f n]))
      else none
    else none := by kernel_rfl
theorem pint_1 (N : Nat) (j : Nat) (n : Nat) (f : Nat → List AV) (x : Int) : LP (envP []) N 1 F_wire_Int (hnK 1) 0 [] (j + 1) (SI1 n f x) =
  bif decide (127 < x) then 
    bif n.beq 0 || n.ble n then 
      bif ((n + 1) * 1).ble 140737488355328 && (n + 1).ble 140737488355328 then 
        LP (envP []) (N) (1) (F_wire_Int) (hnK 1) 0 ([]) (j) ({ fr := [(0, AV.sl 1 1 0 (n + 1) 0), (5, AV.int IntKind.u64 (x.fdiv 128))], hp := [BS.dead, BS.seq true 1 (n + 1) fun i => bif i.blt n then f i else bif i.blt (n + 1) then [[AV.int IntKind.u8 (IntKind.u8.wrap (↑(BitVec.ofInt 8 (IntKind.u8.wrap (IntKind.u64.wrap (↑(BitVec.ofInt 64 x &&& BitVec.ofInt 64 127).toNat : Int))) ||| BitVec.ofInt 8 128).toNat : Int))]].getD (i - n) [] else f n] })
      else none
    else none
  else 
    bif n.beq 0 || n.ble n then 
      bif ((n + 1) * 1).ble 140737488355328 && (n + 1).ble 140737488355328 then 
        some ((AV.sl 1 1 0 (n + 1) 0, [BS.dead, BS.seq true 1 (n + 1) fun i => bif i.blt n then f i else bif i.blt (n + 1) then [[AV.int IntKind.u8 (IntKind.u8.wrap x)]].getD (i - n) [] else f n]))
      else none
    else none := by kernel_rfl
/-! ### appenders -/
/-- either contract of one function, by whether there is a heap -/
noncomputable def Known.two (a b : Known) : Known := { f := a.f, ans := fun args hp => match hp with
  | [] => a.ans args []
  | x :: h => b.ans args (x :: h) }
theorem Known.two_ok {a b : Known} (ha : a.Ok PG) (hb : b.Ok PG) (h : a.f = b.f) : (Known.two a b).Ok PG := by
  intro args hp A e hg
  cases hp with
  | nil => exact ha args [] A e hg
  | cons x r =>
    have := hb args (x :: r) A e hg
    rw [← h] at this
    exact this
section
variable {X : Type}
def dAp (d : List AV → X) (args : List AV) (h : Heap) : List Int × X := (match hget h 0 with
  | .seq _ _ n f => (List.range n).map fun i => decB (f i)
  | _ => [], d args.tail)
def eAp (e : X → List AV) (p : List Int × X) : List AV × Heap := (.sl 1 0 0 p.1.length 0 :: e p.2, [blkB p.1])
def oAp (q : X → List Int) (p : List Int × X) : AV × Heap := (.sl 1 1 0 (p.1 ++ q p.2).length 0, [.dead, blkB (p.1 ++ q p.2)])
def pAp (B : Nat) (pre : X → Prop) (p : List Int × X) : Prop := p.1.length ≤ B ∧ pre p.2
theorem dAp_eq {d : List AV → X} {e : X → List AV} (h : ∀ x, d (e x) = x) (l : List Int) (x : X) : dAp d (.sl 1 0 0 l.length 0 :: e x) [blkB l] = (l, x) := by
  unfold dAp
  refine Prod.ext ?_ (h x)
  show (List.range l.length).map (fun i => decB (encB (l.getD i 0))) = l
  exact decBy l
noncomputable def kAp (F B : Nat) (d : List AV → X) (q : X → List Int) (pre : X → Prop) (e : X → List AV) : Known := .specH F (dAp d) (pAp B pre) (eAp e) (oAp q)
noncomputable def gAp5 {R : Type} (B : Nat) (d : List AV → X) (pre : X → Prop) (e : X → List AV) (l : List Int) (x : X) (k : List Int × X → Option R) : Option R := gCH (dAp d) (pAp B pre) (eAp e) (.sl 1 0 0 l.length 0 :: e x) [blkB l] k
theorem gAp5_eq {R : Type} {B : Nat} {d : List AV → X} {pre : X → Prop} {e : X → List AV} {l : List Int} {x : X} {k : List Int × X → Option R} (h : ∀ x, d (e x) = x) (hl : l.length ≤ B) (hp : pre x) : gAp5 B d pre e l x k = k (l, x) :=
  gCH_eq (l, x) (dAp_eq h l x) ⟨hl, hp⟩ rfl
theorem kAp_ok {F B : Nat} {d : List AV → X} {q : X → List Int} {pre : X → Prop} {e : X → List AV} (h : ∀ l x, l.length ≤ B → pre x → Contract PG F (eAp e (l, x)).1 (eAp e (l, x)).2 (oAp q (l, x)).1 (oAp q (l, x)).2) : (kAp F B d q pre e).Ok PG :=
  Known.specH_ok fun p hp => ⟨h p.1 p.2 hp.1 hp.2, by show 1 ≤ 2; omega⟩
end
theorem conP {l : List Known} (h : ∀ k ∈ l, k.Ok PG) {n f : Nat} {args : List AV} {hp : Heap} {r : AV} {hp' : Heap} (e : callH (envP l) n f args hp = some (r, hp')) : Contract PG f args hp r hp' :=
  (callH_ok (envM_ok (md := md5) h) envM_code mixed e).1
/-! ### numbers -/
theorem byteE (x : Nat) (h : x < 2 ^ 64) : IntKind.u8.wrap ((BitVec.ofInt 8 (IntKind.u8.wrap (IntKind.u64.wrap ((BitVec.ofInt 64 (x : Int) &&& BitVec.ofInt 64 127).toNat : Int))) ||| BitVec.ofInt 8 128).toNat : Int) = ((128 + x % 128 : Nat) : Int) := by
  have e0 : (BitVec.ofInt 64 (x : Int) &&& BitVec.ofInt 64 127).toNat = x % 128 := by
    rw [BitVec.toNat_and]
    have e1 : (BitVec.ofInt 64 (x : Int)).toNat = x := by simp [BitVec.toNat_ofInt]; omega
    have e2 : (BitVec.ofInt 64 127).toNat = 127 := by decide
    rw [e1, e2]
    exact Nat.and_two_pow_sub_one_eq_mod x 7
  rw [e0, wu64 (by omega)]
  have e3 : ∀ c : Fin 128, (BitVec.ofInt 8 ((c : Nat) : Int) ||| BitVec.ofInt 8 128).toNat = 128 + c := by decide +kernel
  have := e3 ⟨x % 128, Nat.mod_lt _ (by decide)⟩
  simp only at this
  have hw : IntKind.u8.wrap ((x % 128 : Nat) : Int) = ((x % 128 : Nat) : Int) := wu8 (by omega)
  rw [hw, this, wu8 (by omega)]
theorem notE {x : Int} (h : I64 x) (hx : x < 0) : IntKind.u64.wrap ((BitVec.ofInt 64 (IntKind.u64.wrap (IntKind.u64.wrap x * 2)) ^^^ BitVec.ofInt 64 18446744073709551615).toNat : Int) = zig x := by
  unfold I64 at h
  have e1 : IntKind.u64.wrap (IntKind.u64.wrap x * 2) = 2 * x + 18446744073709551616 := by
    simp [IntKind.wrap, IntKind.signed, IntKind.bits]; omega
  have e2 : BitVec.ofInt 64 18446744073709551615 = BitVec.allOnes 64 := by decide
  rw [e1, e2, BitVec.xor_allOnes, BitVec.toNat_not]
  have e3 : (BitVec.ofInt 64 (2 * x + 18446744073709551616)).toNat = (2 * x + 18446744073709551616).toNat := by
    simp [BitVec.toNat_ofInt]; omega
  rw [e3, wu64 (by omega)]
  unfold zig
  rw [if_pos hx]; omega
theorem zigE {x : Int} (h : I64 x) (hx : ¬ x < 0) : IntKind.u64.wrap (IntKind.u64.wrap x * 2) = zig x := by
  unfold I64 at h
  unfold zig
  rw [if_neg hx]
  simp [IntKind.wrap, IntKind.signed, IntKind.bits]; omega
def SIl (b : Bool) (l : List Int) (x : Int) : St := bif b then SI1 l.length (fun i => encB (l.getD i 0)) x else SI0 l.length (fun i => encB (l.getD i 0)) x
theorem app1 (l : List Int) (a : Int) : (fun i => bif i.blt l.length then encB (l.getD i 0) else bif i.blt (l.length + 1) then [[AV.int IntKind.u8 a]].getD (i - l.length) [] else encB (l.getD l.length 0)) = fun i => encB ((l ++ [a]).getD i 0) := appF_lit encB 0 l [a]
theorem len1 (l : List Int) (a : Int) : l.length + 1 = (l ++ [a]).length := by simp
theorem pint_run {N : Nat} : ∀ (k x : Nat) (l : List Int) (j : Nat) (b : Bool), x < 2 ^ 64 → x < 128 ^ k → 0 < k → k < j → l.length + k ≤ 1000000000 →
    LP (envP []) N 1 F_wire_Int (hnK 1) 0 [] j (SIl b l (x : Int)) = some (.sl 1 1 0 (l ++ natB k (x : Int)).length 0, [.dead, blkB (l ++ natB k (x : Int))]) := by
  intro k
  induction k with
  | zero => intro x l j b _ _ h; omega
  | succ k ih =>
    intro x l j b h1 h2 h3 h4 h5
    obtain ⟨j, rfl⟩ : ∃ m, j = m + 1 := ⟨j - 1, by omega⟩
    have key : LP (envP []) N 1 F_wire_Int (hnK 1) 0 [] (j + 1) (SIl b l (x : Int)) = bif decide (127 < (x : Int)) then LP (envP []) N 1 F_wire_Int (hnK 1) 0 [] j (SIl true (l ++ [((128 + x % 128 : Nat) : Int)]) ((x : Int).fdiv 128))
        else some (.sl 1 1 0 (l ++ [(x : Int)]).length 0, [.dead, blkB (l ++ [(x : Int)])]) := by
      have hw : ∀ h : ¬ 127 < (x : Int), IntKind.u8.wrap (x : Int) = x := fun h => wu8 (by omega)
      have t1 : (l.length.beq 0 || l.length.ble l.length) = true := or_self _
      have t2 : (((l.length + 1) * 1).ble 140737488355328 && (l.length + 1).ble 140737488355328) = true := roomB (by omega)
      cases b with
      | true =>
        show LP (envP []) N 1 F_wire_Int (hnK 1) 0 [] (j + 1) (SI1 _ _ _) = _
        rw [pint_1, t1, t2, byteE x h1, app1, app1, len1 l ((128 + x % 128 : Nat) : Int)]
        simp only [cond_true]
        by_cases h : 127 < (x : Int)
        · rw [decide_eq_true h]; rfl
        · rw [decide_eq_false h, hw h, ← len1, len1 l (x : Int)]; rfl
      | false =>
        show LP (envP []) N 1 F_wire_Int (hnK 1) 0 [] (j + 1) (SI0 _ _ _) = _
        rw [pint_0, t1, t2, byteE x h1, app1, app1, len1 l ((128 + x % 128 : Nat) : Int)]
        simp only [cond_true]
        by_cases h : 127 < (x : Int)
        · rw [decide_eq_true h]; rfl
        · rw [decide_eq_false h, hw h, ← len1, len1 l (x : Int)]; rfl
    rw [key, natB_s]
    by_cases h : 127 < x
    · rw [decide_eq_true (by omega), cond_true, if_pos h]
      have e1 : (x : Int).fdiv 128 = ((x / 128 : Nat) : Int) := by rw [Int.fdiv_eq_ediv_of_nonneg _ (by omega)]; rfl
      have hk : 0 < k := by
        rcases Nat.eq_zero_or_pos k with e | e
        · subst e; simp at h2; omega
        · exact e
      rw [e1, ih (x / 128) _ j true (by omega) (by rw [Nat.pow_succ] at h2; omega) hk (by omega) (by simp; omega), List.append_assoc]
      rfl
    · rw [decide_eq_false (by omega), cond_false, if_neg h]
theorem pint_in' (N : Nat) (l : List Int) (x : Int) : callH (envP []) (N + 1) F_wire_Int [.sl 1 0 0 l.length 0, .int .i64 x] [blkB l] =
  bif decide (x < 0) then LP (envP []) N 1 F_wire_Int (hnK 1) 0 [] N (SIl false l (IntKind.u64.wrap ((BitVec.ofInt 64 (IntKind.u64.wrap (IntKind.u64.wrap x * 2)) ^^^ BitVec.ofInt 64 18446744073709551615).toNat : Int)))
  else LP (envP []) N 1 F_wire_Int (hnK 1) 0 [] N (SIl false l (IntKind.u64.wrap (IntKind.u64.wrap x * 2))) := by kernel_rfl
theorem pint_con (l : List Int) (n : Int) (hl : l.length ≤ 890000000) (h : I64 n) : Contract PG F_wire_Int (eAp encI (l, n)).1 (eAp encI (l, n)).2 (oAp intB (l, n)).1 (oAp intB (l, n)).2 := by
  obtain ⟨hz, hz2⟩ := zig_nat h
  refine conP (l := []) ank (n := 20) ?_
  show callH (envP []) (19 + 1) F_wire_Int [.sl 1 0 0 l.length 0, .int .i64 n] [blkB l] = some (.sl 1 1 0 (l ++ intB n).length 0, [.dead, blkB (l ++ intB n)])
  have hp : (128 : Nat) ^ 11 = 151115727451828646838272 := by decide
  have r := pint_run (N := 19) 11 (zigN n) l 19 false hz2 (by omega) (by omega) (by omega) (by omega)
  rw [← hz] at r
  rw [pint_in']
  by_cases hn : n < 0
  · rw [decide_eq_true hn, notE h hn, cond_true, r]; rfl
  · rw [decide_eq_false hn, zigE h hn, cond_false, r]; rfl
noncomputable def kPI5 : Known := kAp F_wire_Int 890000000 decI intB I64 encI
theorem kPI5_ok : kPI5.Ok PG := kAp_ok fun l n hl h => pint_con l n hl h
end Go.Wk
end

section
/- A number's bytes, a truth's byte, put behind nothing, behind others, by the program. -/
open Go Go.AM Go.Md
namespace Go.Wk
set_option maxRecDepth 100000
set_option maxHeartbeats 400000
def byE (x : Int) : Int := IntKind.u8.wrap ((BitVec.ofInt 8 (IntKind.u8.wrap (IntKind.u64.wrap ((BitVec.ofInt 64 x &&& BitVec.ofInt 64 127).toNat : Int))) ||| BitVec.ofInt 8 128).toNat : Int)
def natK5 (z : Int → List (List AV) → Option (AV × Heap)) : Nat → Int → List (List AV) → Option (AV × Heap)
  | 0, x, acc => z x acc
  | k + 1, x, acc => bif decide (127 < x) then natK5 z k (x.fdiv 128) (acc ++ [encB (byE x)])
    else some (.sl 1 0 0 (acc ++ [encB (IntKind.u8.wrap x)]).length (acc ++ [encB (IntKind.u8.wrap x)]).length, [.arr true 1 (acc ++ [encB (IntKind.u8.wrap x)])])
def SIn (x : Int) (acc : List (List AV)) : St := { fr := [(0, .sl 1 0 0 acc.length acc.length), (5, .int .u64 x)], hp := [.arr true 1 acc] }
theorem pin_in (N : Nat) (x : Int) : callH (envP []) (N + 12) F_wire_Int [.nils, .int .i64 x] [] =
  bif decide (x < 0) then natK5 (fun x acc => LP (envP []) (N + 11) 0 F_wire_Int (hnK 0) 0 [] N (SIn x acc)) 11 (IntKind.u64.wrap ((BitVec.ofInt 64 (IntKind.u64.wrap (IntKind.u64.wrap x * 2)) ^^^ BitVec.ofInt 64 18446744073709551615).toNat : Int)) []
  else natK5 (fun x acc => LP (envP []) (N + 11) 0 F_wire_Int (hnK 0) 0 [] N (SIn x acc)) 11 (IntKind.u64.wrap (IntKind.u64.wrap x * 2)) [] := by kernel_rfl
theorem natK5_eq {z : Int → List (List AV) → Option (AV × Heap)} : ∀ (k x : Nat) (acc : List (List AV)), x < 2 ^ 64 → x < 128 ^ k → 0 < k →
    natK5 z k (x : Int) acc = some (.sl 1 0 0 (acc ++ (natB k (x : Int)).map encB).length (acc ++ (natB k (x : Int)).map encB).length, [.arr true 1 (acc ++ (natB k (x : Int)).map encB)])
  | 0, x, acc, _, _, h => by omega
  | k + 1, x, acc, h0, h1, _ => by
    show (bif decide (127 < (x : Int)) then natK5 z k ((x : Int).fdiv 128) (acc ++ [encB (byE (x : Int))]) else some (.sl 1 0 0 (acc ++ [encB (IntKind.u8.wrap (x : Int))]).length (acc ++ [encB (IntKind.u8.wrap (x : Int))]).length, [.arr true 1 (acc ++ [encB (IntKind.u8.wrap (x : Int))])])) = _
    rw [natB_s]
    by_cases h : 127 < x
    · have e1 : (x : Int).fdiv 128 = ((x / 128 : Nat) : Int) := by rw [Int.fdiv_eq_ediv_of_nonneg _ (by omega)]; rfl
      have hk : 0 < k := by
        rcases Nat.eq_zero_or_pos k with e | e
        · subst e; simp at h1; omega
        · exact e
      have e2 : byE (x : Int) = ((128 + x % 128 : Nat) : Int) := byteE x h0
      rw [decide_eq_true (by omega), cond_true, if_pos h, e1, e2, natK5_eq k (x / 128) _ (by omega) (by rw [Nat.pow_succ] at h1; omega) hk]
      simp
    · rw [decide_eq_false (by omega), cond_false, if_neg h, wu8 (by omega)]
      simp
theorem pin_con (n : Int) (h : I64 n) : Contract PG F_wire_Int [.nils, .int .i64 n] [] (outBlk 1 encB 0 (intB n)).1 (outBlk 1 encB 0 (intB n)).2 := by
  obtain ⟨hz, hz2⟩ := zig_nat h
  have hp : (128 : Nat) ^ 11 = 151115727451828646838272 := by decide
  have key : callH (envP []) (0 + 12) F_wire_Int [.nils, .int .i64 n] [] = some (.sl 1 0 0 (intB n).length (intB n).length, [.arr true 1 ((intB n).map encB)]) := by
    have e := pin_in 0 n
    unfold intB
    by_cases hn : n < 0
    · rw [decide_eq_true hn, cond_true, notE h hn, hz, natK5_eq 11 _ [] hz2 (by omega) (by omega)] at e
      rw [hz]
      simpa using e
    · rw [decide_eq_false hn, cond_false, zigE h hn, hz, natK5_eq 11 _ [] hz2 (by omega) (by omega)] at e
      rw [hz]
      simpa using e
  exact (conP (l := []) ank key).blkArr _ fun x => rfl
def dI1 (a : List AV) : Int := getI a 1
def eI1 (n : Int) : List AV := [.nils, .int .i64 n]
noncomputable def kPI0 : Known := .specB F_wire_Int dI1 I64 eI1 (fun n => outB (ne (intB n)))
theorem kPI0_ok : kPI0.Ok PG := Known.specB_ok fun n h => by
  have := pin_con n h
  show Contract PG F_wire_Int _ [] (outB (ne (intB n))).1 (outB (ne (intB n))).2
  rw [ne_eq (intB_ne n)]
  exact this
noncomputable def kPI : Known := Known.two kPI0 kPI5
theorem kPI_ok : kPI.Ok PG := Known.two_ok kPI0_ok kPI5_ok rfl
/-! ### truths -/
theorem pbool (l : List Int) (b : Bool) : callH (envP []) 5 F_wire_Bool [.sl 1 0 0 l.length 0, .bool b] [blkB l] =
  bif b then bif l.length.beq 0 || l.length.ble l.length then bif ((l.length + 1) * 1).ble 140737488355328 && (l.length + 1).ble 140737488355328 then
      some (.sl 1 1 0 (l.length + 1) 0, [.dead, .seq true 1 (l.length + 1) fun i => bif i.blt l.length then encB (l.getD i 0) else bif i.blt (l.length + 1) then [[AV.int IntKind.u8 1]].getD (i - l.length) [] else encB (l.getD l.length 0)]) else none else none
  else bif l.length.beq 0 || l.length.ble l.length then bif ((l.length + 1) * 1).ble 140737488355328 && (l.length + 1).ble 140737488355328 then
      some (.sl 1 1 0 (l.length + 1) 0, [.dead, .seq true 1 (l.length + 1) fun i => bif i.blt l.length then encB (l.getD i 0) else bif i.blt (l.length + 1) then [[AV.int IntKind.u8 0]].getD (i - l.length) [] else encB (l.getD l.length 0)]) else none else none := by kernel_rfl
def bitL (b : Bool) : List Int := [bitI b]
theorem pbool_con (l : List Int) (b : Bool) (hl : l.length ≤ 890000000) : Contract PG F_wire_Bool (eAp encBool (l, b)).1 (eAp encBool (l, b)).2 (oAp bitL (l, b)).1 (oAp bitL (l, b)).2 := by
  refine conP (l := []) ank (n := 5) ((pbool l b).trans ?_)
  have t1 : (l.length.beq 0 || l.length.ble l.length) = true := or_self _
  have t2 : (((l.length + 1) * 1).ble 140737488355328 && (l.length + 1).ble 140737488355328) = true := roomB (by omega)
  rw [t1, t2, app1, app1]
  cases b with
  | true => rw [len1 l 1]; rfl
  | false => rw [len1 l 0]; rfl
noncomputable def kPBo : Known := kAp F_wire_Bool 890000000 decBool bitL (fun _ => True) encBool
theorem kPBo_ok : kPBo.Ok PG := kAp_ok fun l b hl _ => pbool_con l b hl
/-! ### what a call of these is -/
noncomputable def gW0 {R : Type} (n : Int) (k : Int → Option R) : Option R := gC dI1 I64 eI1 [.nils, .int .i64 n] k
theorem gW0_eq {R : Type} {n : Int} {k : Int → Option R} (h : I64 n) : gW0 n k = k n := gC_eq n rfl h (.refl _)
noncomputable def gW {R : Type} (l : List Int) (n : Int) (k : List Int × Int → Option R) : Option R := gAp5 890000000 decI I64 encI l n k
theorem gW_eq {R : Type} {l : List Int} {n : Int} {k : List Int × Int → Option R} (h : I64 n) (hl : l.length ≤ 890000000) : gW l n k = k (l, n) := gAp5_eq (fun _ => rfl) hl h
noncomputable def gWB {R : Type} (l : List Int) (b : Bool) (k : List Int × Bool → Option R) : Option R := gAp5 890000000 decBool (fun _ => True) encBool l b k
theorem gWB_eq {R : Type} {l : List Int} {b : Bool} {k : List Int × Bool → Option R} (hl : l.length ≤ 890000000) : gWB l b k = k (l, b) := gAp5_eq (fun _ => rfl) hl trivial
end Go.Wk
end

section
/- Members, views, put behind others by the program. -/
open Go Go.AM Go.Md
namespace Go.Wk
set_option maxRecDepth 100000
set_option maxHeartbeats 400000
def fnP (f : Nat) : AV := .fn (.func f) [] []
def oX (l : List Int) : AV × Heap := (.sl 1 1 0 l.length 0, [.dead, blkB l])
def SP (gv L : AV) (l : List Int) (n i : Int) : St := { fr := [(0, .sl 1 1 0 l.length 0), (2, gv), (13, L), (14, .int .i64 n), (15, .int .i64 i)], hp := [.dead, blkB l] }
/-- a list, put by the program -/
theorem plist {X : Type} {F B c : Nat} {e : X → List AV} {d : List AV → X} {z : X} {q : X → List Int} {pre : X → Prop} {gv L : AV} {ks : List Known} {L0 : List X} {l : List Int} (hk : ∀ k ∈ ks, k.Ok PG) (hd : ∀ x, d (e x) = x)
    (hin : ∀ N, callH (envP ks) (N + 1) F [.sl 1 0 0 l.length 0, L, gv] [blkB l] = gW l (L0.length : Int) fun y => LP (envP ks) N 1 F (hnK 1) 0 [] N (SP gv L (y.1 ++ intB y.2) (L0.length : Int) 0))
    (hst : ∀ N j l (i : Int), LP (envP ks) N 1 F (hnK 1) 0 [] (j + 1) (SP gv L l (L0.length : Int) i) = bif decide (i < (L0.length : Int)) then rg i L0.length <| gAp5 B d pre e l (L0.getD i.toNat z) fun y => LP (envP ks) N 1 F (hnK 1) 0 [] j (SP gv L (y.1 ++ q y.2) (L0.length : Int) (IntKind.i64.wrap (i + 1))) else some (oX l))
    (hl : L0.length ≤ 4200) (hq : ∀ x ∈ L0, (q x).length ≤ c ∧ pre x) (hc : c ≤ 100000) (hb : l.length + 11 + c * L0.length ≤ B) (hB : B ≤ 890000000) :
    Contract PG F [.sl 1 0 0 l.length 0, L, gv] [blkB l] (oX (l ++ (intB L0.length ++ L0.flatMap q))).1 (oX (l ++ (intB L0.length ++ L0.flatMap q))).2 := by
  have hN : ∃ N, N = 5000 := ⟨_, rfl⟩
  obtain ⟨N, hN⟩ := hN
  have hi := intB_len (L0.length : Int)
  have run : ∀ d0 i j (a : List Int), i + d0 = L0.length → d0 < j → a.length + c * d0 ≤ B → LP (envP ks) N 1 F (hnK 1) 0 [] j (SP gv L a (L0.length : Int) (i : Nat)) = some (oX (a ++ (L0.drop i).flatMap q)) := by
    intro d0
    induction d0 with
    | zero =>
      intro i j a h1 h2 h3
      obtain ⟨j, rfl⟩ : ∃ k, j = k + 1 := ⟨j - 1, by omega⟩
      rw [hst, decide_eq_false (by omega), cond_false, List.drop_eq_nil_of_le (by omega)]; simp
    | succ d0 ih =>
      intro i j a h1 h2 h3
      obtain ⟨j, rfl⟩ : ∃ k, j = k + 1 := ⟨j - 1, by omega⟩
      have hil : i < L0.length := by omega
      have hx := hq _ (getD_mem hil (z := z))
      rw [Nat.mul_succ] at h3
      rw [hst, decide_eq_true (by omega), cond_true, rg_eq hil, Int.toNat_natCast, gAp5_eq hd (by omega) hx.2, wrapS (by omega)]
      simp only []
      rw [ih (i + 1) j _ (by omega) (by omega) (by rw [List.length_append]; omega), drop_cons (z := z) hil]
      simp
  refine conP hk (n := N + 1) ((hin N).trans ?_)
  rw [gW_eq (by unfold I64; omega) (by omega)]
  have r := run L0.length 0 N (l ++ intB L0.length) (by omega) (by omega) (by rw [List.length_append]; omega)
  rw [List.drop_zero, List.append_assoc] at r
  exact r
/-! ### members -/
noncomputable def kn62 : List Known := [kPI, kPBo]
theorem kn62_ok : ∀ k ∈ kn62, k.Ok PG := ak kPI_ok (ak kPBo_ok ank)
def dMem1 (a : List AV) : Member := decMember (argC a 0)
def eMem1 (m : Member) : List AV := [.agg (encMember m)]
theorem pmem (l : List Int) (m : Member) : callH (envP kn62) 5 F_msg_putMember [AV.sl 1 0 0 l.length 0, AV.agg (encMember m)] [blkB l] =
  gW l m.node fun y0 => gW (y0.1 ++ intB y0.2) m.boot fun y1 => some (oX (y1.1 ++ intB y1.2)) := by kernel_rfl
theorem memB_eq (m : Member) : memB m = intB m.node ++ intB m.boot := by simp [memB, numsB]
theorem pmem_con (l : List Int) (m : Member) (hl : l.length ≤ 880000000) (h : MemOk m) : Contract PG F_msg_putMember (eAp eMem1 (l, m)).1 (eAp eMem1 (l, m)).2 (oAp memB (l, m)).1 (oAp memB (l, m)).2 := by
  refine conP kn62_ok (n := 5) ((pmem l m).trans ?_)
  have a0 := intB_len m.node
  rw [gW_eq h.1 (by omega)]
  simp only []
  rw [gW_eq h.2 (by rw [List.length_append]; omega)]
  simp only []
  unfold oAp
  simp only []
  rw [memB_eq, List.append_assoc]; rfl
noncomputable def kPM : Known := kAp F_msg_putMember 880000000 dMem1 memB MemOk eMem1
theorem kPM_ok : kPM.Ok PG := kAp_ok fun l m hl h => pmem_con l m hl h
noncomputable def kn63 : List Known := [kPI, kPM]
theorem kn63_ok : ∀ k ∈ kn63, k.Ok PG := ak kPI_ok (ak kPM_ok ank)
theorem plm_in (N : Nat) (l : List Int) (ms : List Member) : callH (envP kn63) (N + 1) F_msg_putList_api_Member [.sl 1 0 0 l.length 0, encMembers ms, fnP F_msg_putMember] [blkB l] = gW l (ms.length : Int) fun y => LP (envP kn63) N 1 F_msg_putList_api_Member (hnK 1) 0 [] N (SP (fnP F_msg_putMember) (encMembers ms) (y.1 ++ intB y.2) (ms.length : Int) 0) := by kernel_rfl
theorem plm_st (N j : Nat) (l : List Int) (ms : List Member) (n i : Int) : LP (envP kn63) N 1 F_msg_putList_api_Member (hnK 1) 0 [] (j + 1) (SP (fnP F_msg_putMember) (encMembers ms) l n i) =
  bif decide (i < n) then rg i ms.length <| gAp5 880000000 dMem1 MemOk eMem1 l (ms.getD i.toNat default) fun y => LP (envP kn63) N 1 F_msg_putList_api_Member (hnK 1) 0 [] j (SP (fnP F_msg_putMember) (encMembers ms) (y.1 ++ memB y.2) n (IntKind.i64.wrap (i + 1))) else some (oX l) := by kernel_rfl
def dMems1 (a : List AV) : List Member := decL decMember (a.getD 0 .nils)
def eMems1 (l : List Member) : List AV := [encMembers l, fnP F_msg_putMember]
theorem memB_len (m : Member) : (memB m).length ≤ 22 := numsB_len [m.node, m.boot]
theorem plm_con (l : List Int) (ms : List Member) (hl : l.length ≤ 870000000) (h : MemsOk ms) : Contract PG F_msg_putList_api_Member (eAp eMems1 (l, ms)).1 (eAp eMems1 (l, ms)).2 (oAp memsB (l, ms)).1 (oAp memsB (l, ms)).2 :=
  plist (L0 := ms) (l := l) (L := encMembers ms) (gv := fnP F_msg_putMember) (z := default) (q := memB) (pre := MemOk) (d := dMem1) (e := eMem1) (B := 880000000) kn63_ok (fun m => dec_encMember m) (fun N => plm_in N l ms) (fun N j l i => plm_st N j l ms (ms.length : Int) i) h.1 (c := 22) (fun x hx => ⟨memB_len x, h.2 x hx⟩) (by omega) (by have := h.1; omega) (by omega)
noncomputable def kPLM : Known := kAp F_msg_putList_api_Member 870000000 dMems1 memsB MemsOk eMems1
theorem kPLM_ok : kPLM.Ok PG := kAp_ok fun l m hl h => plm_con l m hl h
/-! ### views -/
noncomputable def kn64 : List Known := [kPI, kPLM]
theorem kn64_ok : ∀ k ∈ kn64, k.Ok PG := ak kPI_ok (ak kPLM_ok ank)
noncomputable def gPM {R : Type} (l : List Int) (m : List Member) (k : List Int × List Member → Option R) : Option R := gAp5 870000000 dMems1 MemsOk eMems1 l m k
theorem gPM_eq {R : Type} {l : List Int} {m : List Member} {k : List Int × List Member → Option R} (hl : l.length ≤ 870000000) (h : MemsOk m) : gPM l m k = k (l, m) := gAp5_eq (fun l => decMembers l) hl h
def dView1 (a : List AV) : Md.View := decView (argC a 0)
def eView1 (m : Md.View) : List AV := [.agg (encView m)]
theorem pview (l : List Int) (v : Md.View) : callH (envP kn64) 5 F_msg_putView [AV.sl 1 0 0 l.length 0, AV.agg (encView v)] [blkB l] =
  gW l v.shard fun y0 => gW (y0.1 ++ intB y0.2) v.epoch fun y0 => gW (y0.1 ++ intB y0.2) v.gen fun y0 => gW (y0.1 ++ intB y0.2) v.phase fun y1 => gPM (y1.1 ++ intB y1.2) v.chain fun y2 => some (oX (y2.1 ++ memsB y2.2)) := by kernel_rfl
theorem viewB_eq (v : Md.View) : viewB v = intB v.shard ++ (intB v.epoch ++ (intB v.gen ++ (intB v.phase ++ memsB v.chain))) := by simp [viewB, numsB]
theorem pview_con (l : List Int) (v : Md.View) (hl : l.length ≤ 860000000) (h : ViewOk v) : Contract PG F_msg_putView (eAp eView1 (l, v)).1 (eAp eView1 (l, v)).2 (oAp viewB (l, v)).1 (oAp viewB (l, v)).2 := by
  refine conP kn64_ok (n := 5) ((pview l v).trans ?_)
  have a0 := intB_len v.shard
  have a1 := intB_len v.epoch
  have a2 := intB_len v.gen
  have a3 := intB_len v.phase
  obtain ⟨h1, h2, h3, h4, h5⟩ := h
  rw [gW_eq h1 (by omega)]
  simp only []
  rw [gW_eq h2 (by simp only [List.length_append]; omega)]
  simp only []
  rw [gW_eq h3 (by simp only [List.length_append]; omega)]
  simp only []
  rw [gW_eq h4 (by simp only [List.length_append]; omega)]
  simp only []
  rw [gPM_eq (by simp only [List.length_append]; omega) h5]
  simp only []
  unfold oAp
  simp only []
  rw [viewB_eq]
  simp only [List.append_assoc]
  rfl
noncomputable def kPV : Known := kAp F_msg_putView 860000000 dView1 viewB ViewOk eView1
theorem kPV_ok : kPV.Ok PG := kAp_ok fun l m hl h => pview_con l m hl h
noncomputable def kn65 : List Known := [kPI, kPV]
theorem kn65_ok : ∀ k ∈ kn65, k.Ok PG := ak kPI_ok (ak kPV_ok ank)
theorem plv_in (N : Nat) (l : List Int) (ms : List Md.View) : callH (envP kn65) (N + 1) F_msg_putList_api_View [.sl 1 0 0 l.length 0, encViews ms, fnP F_msg_putView] [blkB l] = gW l (ms.length : Int) fun y => LP (envP kn65) N 1 F_msg_putList_api_View (hnK 1) 0 [] N (SP (fnP F_msg_putView) (encViews ms) (y.1 ++ intB y.2) (ms.length : Int) 0) := by kernel_rfl
theorem plv_st (N j : Nat) (l : List Int) (ms : List Md.View) (n i : Int) : LP (envP kn65) N 1 F_msg_putList_api_View (hnK 1) 0 [] (j + 1) (SP (fnP F_msg_putView) (encViews ms) l n i) =
  bif decide (i < n) then rg i ms.length <| gAp5 860000000 dView1 ViewOk eView1 l (ms.getD i.toNat default) fun y => LP (envP kn65) N 1 F_msg_putList_api_View (hnK 1) 0 [] j (SP (fnP F_msg_putView) (encViews ms) (y.1 ++ viewB y.2) n (IntKind.i64.wrap (i + 1))) else some (oX l) := by kernel_rfl
def dViews1 (a : List AV) : List Md.View := decL decView (a.getD 0 .nils)
def eViews1 (l : List Md.View) : List AV := [encViews l, fnP F_msg_putView]
theorem plv_con (l : List Int) (ms : List Md.View) (hl : l.length ≤ 400000000) (h : ViewsOk ms) : Contract PG F_msg_putList_api_View (eAp eViews1 (l, ms)).1 (eAp eViews1 (l, ms)).2 (oAp viewsB (l, ms)).1 (oAp viewsB (l, ms)).2 :=
  plist (L0 := ms) (l := l) (L := encViews ms) (gv := fnP F_msg_putView) (z := default) (q := viewB) (pre := ViewOk) (d := dView1) (e := eView1) (B := 860000000) kn65_ok (fun m => dec_encView m) (fun N => plv_in N l ms) (fun N j l i => plv_st N j l ms (ms.length : Int) i) h.1 (c := 95000) (fun x hx => ⟨viewB_len (h.2 x hx), h.2 x hx⟩) (by omega) (by have := h.1; omega) (by omega)
noncomputable def kPLV : Known := kAp F_msg_putList_api_View 400000000 dViews1 viewsB ViewsOk eViews1
theorem kPLV_ok : kPLV.Ok PG := kAp_ok fun l m hl h => plv_con l m hl h
noncomputable def gPV {R : Type} (l : List Int) (m : List Md.View) (k : List Int × List Md.View → Option R) : Option R := gAp5 400000000 dViews1 ViewsOk eViews1 l m k
theorem gPV_eq {R : Type} {l : List Int} {m : List Md.View} {k : List Int × List Md.View → Option R} (hl : l.length ≤ 400000000) (h : ViewsOk m) : gPV l m k = k (l, m) := gAp5_eq (fun l => decViews l) hl h
end Go.Wk
end

section
/- A book's message, put by the program. -/
open Go Go.AM Go.Md
namespace Go.Wk
set_option maxRecDepth 100000
set_option maxHeartbeats 400000
/-- the tests of an append of nothing -/
def rmT {R : Type} (l : List Int) (k : Option R) : Option R := bif l.length.beq 0 || l.length.ble l.length then bif (l.length * 1).ble 140737488355328 && l.length.ble 140737488355328 then k else none else none
theorem rmT_eq {R : Type} {l : List Int} {k : Option R} (h : l.length ≤ 900000000) : rmT l k = k := by
  unfold rmT
  have e := roomB (a := l.length) (b := 0) (by omega)
  simp only [Nat.add_zero] at e
  rw [or_self, e]; rfl
/-! ### pieces of one kind -/
def dU (_ : List AV) : Unit := ()
noncomputable def kn66 : List Known := [kPI, kPBo]
theorem kn66_ok : ∀ k ∈ kn66, k.Ok PG := ak kPI_ok (ak kPBo_ok ank)
noncomputable def gU {R : Type} (B : Nat) (a : List AV) (l : List Int) (k : List Int × Unit → Option R) : Option R := gAp5 B dU (fun _ => True) (fun _ => a) l () k
theorem gU_eq {R : Type} {B : Nat} {a : List AV} {l : List Int} {k : List Int × Unit → Option R} (hl : l.length ≤ B) : gU B a l k = k (l, ()) := gAp5_eq (fun _ => rfl) hl trivial
noncomputable def kU (F B : Nat) (a : List AV) (q : List Int) : Known := kAp F B dU (fun _ => q) (fun _ => True) (fun _ => a)
theorem kU_ok {F B : Nat} {a : List AV} {q : List Int} (h : ∀ l : List Int, l.length ≤ B → Contract PG F (.sl 1 0 0 l.length 0 :: a) [blkB l] (oX (l ++ q)).1 (oX (l ++ q)).2) : (kU F B a q).Ok PG := kAp_ok fun l _ hl _ => h l hl
def opA : AV := .agg [.int .i64 0, .str [], .str [], .str [], .bool false]
def imA : AV := .agg [.cplx .f64 0 0, .cplx .f64 0 0, .int .i64 0, encEntrys [], encSeens []]
theorem pt0_eq (l : List Int) : callH (envP kn66) 9 F_wire_Text [.sl 1 0 0 l.length 0, .str []] [blkB l] = gW l 0 fun y => rmT (y.1 ++ intB y.2) <| some (oX (y.1 ++ intB y.2)) := by kernel_rfl
theorem pt0_con (l : List Int) (hl : l.length ≤ 870000000) : Contract PG F_wire_Text [.sl 1 0 0 l.length 0, .str []] [blkB l] (oX (l ++ intB 0)).1 (oX (l ++ intB 0)).2 := by
  refine conP kn66_ok (n := 9) ((pt0_eq l).trans ?_)
  have a0 := intB_len 0
  rw [gW_eq i0 (by (try simp only [List.length_append, List.length_cons, List.length_nil]); omega), rmT_eq (by (try simp only [List.length_append, List.length_cons, List.length_nil]); omega)]
  try simp only []
  try simp only [List.append_assoc, List.cons_append, List.nil_append, List.append_nil]
theorem pv0_eq (l : List Int) : callH (envP kn66) 9 F_wire_Ver [.sl 1 0 0 l.length 0, .cplx .f64 0 0] [blkB l] = gW l 0 fun y => gW (y.1 ++ intB y.2) 0 fun y => some (oX (y.1 ++ intB y.2)) := by kernel_rfl
theorem pv0_con (l : List Int) (hl : l.length ≤ 870000000) : Contract PG F_wire_Ver [.sl 1 0 0 l.length 0, .cplx .f64 0 0] [blkB l] (oX (l ++ (intB 0 ++ intB 0))).1 (oX (l ++ (intB 0 ++ intB 0))).2 := by
  refine conP kn66_ok (n := 9) ((pv0_eq l).trans ?_)
  have a0 := intB_len 0
  rw [gW_eq i0 (by (try simp only [List.length_append, List.length_cons, List.length_nil]); omega)]
  try simp only []
  rw [gW_eq i0 (by (try simp only [List.length_append, List.length_cons, List.length_nil]); omega)]
  try simp only []
  try simp only [List.append_assoc, List.cons_append, List.nil_append, List.append_nil]
theorem pop0_eq (l : List Int) : callH (envP kn66) 9 F_entry_PutOp [.sl 1 0 0 l.length 0, opA] [blkB l] = gW l 0 fun y => gW (y.1 ++ intB y.2) 0 fun y => rmT (y.1 ++ intB y.2) <| gW (y.1 ++ intB y.2) 0 fun y => rmT (y.1 ++ intB y.2) <| gW (y.1 ++ intB y.2) 0 fun y => rmT (y.1 ++ intB y.2) <| gWB (y.1 ++ intB y.2) false fun y => some (oX (y.1 ++ [bitI y.2])) := by kernel_rfl
theorem pop0_con (l : List Int) (hl : l.length ≤ 870000000) : Contract PG F_entry_PutOp [.sl 1 0 0 l.length 0, opA] [blkB l] (oX (l ++ (intB 0 ++ (intB 0 ++ (intB 0 ++ (intB 0 ++ [bitI false])))))).1 (oX (l ++ (intB 0 ++ (intB 0 ++ (intB 0 ++ (intB 0 ++ [bitI false])))))).2 := by
  refine conP kn66_ok (n := 9) ((pop0_eq l).trans ?_)
  have a0 := intB_len 0
  rw [gW_eq i0 (by (try simp only [List.length_append, List.length_cons, List.length_nil]); omega)]
  try simp only []
  rw [gW_eq i0 (by (try simp only [List.length_append, List.length_cons, List.length_nil]); omega), rmT_eq (by (try simp only [List.length_append, List.length_cons, List.length_nil]); omega)]
  try simp only []
  rw [gW_eq i0 (by (try simp only [List.length_append, List.length_cons, List.length_nil]); omega), rmT_eq (by (try simp only [List.length_append, List.length_cons, List.length_nil]); omega)]
  try simp only []
  rw [gW_eq i0 (by (try simp only [List.length_append, List.length_cons, List.length_nil]); omega), rmT_eq (by (try simp only [List.length_append, List.length_cons, List.length_nil]); omega)]
  try simp only []
  rw [gWB_eq (by (try simp only [List.length_append, List.length_cons, List.length_nil]); omega)]
  try simp only []
  try simp only [List.append_assoc, List.cons_append, List.nil_append, List.append_nil]
theorem pen0_eq (l : List Int) : callH (envP kn66) 9 F_msg_putList_api_Entry [.sl 1 0 0 l.length 0, encEntrys [], fnP F_entry_Put] [blkB l] = gW l 0 fun y => some (oX (y.1 ++ intB y.2)) := by kernel_rfl
theorem pen0_con (l : List Int) (hl : l.length ≤ 870000000) : Contract PG F_msg_putList_api_Entry [.sl 1 0 0 l.length 0, encEntrys [], fnP F_entry_Put] [blkB l] (oX (l ++ intB 0)).1 (oX (l ++ intB 0)).2 := by
  refine conP kn66_ok (n := 9) ((pen0_eq l).trans ?_)
  have a0 := intB_len 0
  rw [gW_eq i0 (by (try simp only [List.length_append, List.length_cons, List.length_nil]); omega)]
  try simp only []
  try simp only [List.append_assoc, List.cons_append, List.nil_append, List.append_nil]
theorem pmn0_eq (l : List Int) : callH (envP kn66) 9 F_msg_putList_api_Member [.sl 1 0 0 l.length 0, encMembers [], fnP F_msg_putMember] [blkB l] = gW l 0 fun y => some (oX (y.1 ++ intB y.2)) := by kernel_rfl
theorem pmn0_con (l : List Int) (hl : l.length ≤ 870000000) : Contract PG F_msg_putList_api_Member [.sl 1 0 0 l.length 0, encMembers [], fnP F_msg_putMember] [blkB l] (oX (l ++ intB 0)).1 (oX (l ++ intB 0)).2 := by
  refine conP kn66_ok (n := 9) ((pmn0_eq l).trans ?_)
  have a0 := intB_len 0
  rw [gW_eq i0 (by (try simp only [List.length_append, List.length_cons, List.length_nil]); omega)]
  try simp only []
  try simp only [List.append_assoc, List.cons_append, List.nil_append, List.append_nil]
theorem psn0_eq (l : List Int) : callH (envP kn66) 9 F_msg_putList_api_Seen [.sl 1 0 0 l.length 0, encSeens [], fnP F_msg_putSeen] [blkB l] = gW l 0 fun y => some (oX (y.1 ++ intB y.2)) := by kernel_rfl
theorem psn0_con (l : List Int) (hl : l.length ≤ 870000000) : Contract PG F_msg_putList_api_Seen [.sl 1 0 0 l.length 0, encSeens [], fnP F_msg_putSeen] [blkB l] (oX (l ++ intB 0)).1 (oX (l ++ intB 0)).2 := by
  refine conP kn66_ok (n := 9) ((psn0_eq l).trans ?_)
  have a0 := intB_len 0
  rw [gW_eq i0 (by (try simp only [List.length_append, List.length_cons, List.length_nil]); omega)]
  try simp only []
  try simp only [List.append_assoc, List.cons_append, List.nil_append, List.append_nil]
noncomputable def kEn0 : Known := kU F_msg_putList_api_Entry 870000000 [encEntrys [], fnP F_entry_Put] (intB 0)
noncomputable def kMn0 : Known := kU F_msg_putList_api_Member 870000000 [encMembers [], fnP F_msg_putMember] (intB 0)
noncomputable def kSn0 : Known := kU F_msg_putList_api_Seen 870000000 [encSeens [], fnP F_msg_putSeen] (intB 0)
noncomputable def kV0 : Known := kU F_wire_Ver 870000000 [.cplx .f64 0 0] (intB 0 ++ intB 0)
noncomputable def kn66i : List Known := [kPI, kV0, kEn0, kSn0]
theorem kn66i_ok : ∀ k ∈ kn66i, k.Ok PG := ak kPI_ok (ak (kU_ok pv0_con) (ak (kU_ok pen0_con) (ak (kU_ok psn0_con) ank)))
theorem pim0_eq (l : List Int) : callH (envP kn66i) 9 F_msg_putImage [.sl 1 0 0 l.length 0, imA] [blkB l] = gU 870000000 [.cplx .f64 0 0] l fun y => gU 870000000 [.cplx .f64 0 0] (y.1 ++ (intB 0 ++ intB 0)) fun y => gW (y.1 ++ (intB 0 ++ intB 0)) 0 fun y => gU 870000000 [encEntrys [], fnP F_entry_Put] (y.1 ++ intB y.2) fun y => gU 870000000 [encSeens [], fnP F_msg_putSeen] (y.1 ++ intB 0) fun y => some (oX (y.1 ++ intB 0)) := by kernel_rfl
theorem pim0_con (l : List Int) (hl : l.length ≤ 860000000) : Contract PG F_msg_putImage [.sl 1 0 0 l.length 0, imA] [blkB l] (oX (l ++ (intB 0 ++ (intB 0 ++ (intB 0 ++ (intB 0 ++ (intB 0 ++ (intB 0 ++ intB 0)))))))).1 (oX (l ++ (intB 0 ++ (intB 0 ++ (intB 0 ++ (intB 0 ++ (intB 0 ++ (intB 0 ++ intB 0)))))))).2 := by
  refine conP kn66i_ok (n := 9) ((pim0_eq l).trans ?_)
  have a0 := intB_len 0
  rw [gU_eq (by (try simp only [List.length_append, List.length_cons, List.length_nil]); omega)]
  try simp only []
  rw [gU_eq (by (try simp only [List.length_append, List.length_cons, List.length_nil]); omega)]
  try simp only []
  rw [gW_eq i0 (by (try simp only [List.length_append, List.length_cons, List.length_nil]); omega)]
  try simp only []
  rw [gU_eq (by (try simp only [List.length_append, List.length_cons, List.length_nil]); omega)]
  try simp only []
  rw [gU_eq (by (try simp only [List.length_append, List.length_cons, List.length_nil]); omega)]
  try simp only []
  try simp only [List.append_assoc, List.cons_append, List.nil_append, List.append_nil]
noncomputable def kn67 : List Known := [kPI, kPBo, kPLV, kU F_wire_Text 870000000 [.str []] (intB 0), kU F_wire_Ver 870000000 [.cplx .f64 0 0] (intB 0 ++ intB 0), kU F_entry_PutOp 870000000 [opA] (intB 0 ++ (intB 0 ++ (intB 0 ++ (intB 0 ++ [bitI false])))), kU F_msg_putImage 860000000 [imA] (intB 0 ++ (intB 0 ++ (intB 0 ++ (intB 0 ++ (intB 0 ++ (intB 0 ++ intB 0)))))), kEn0, kMn0]
theorem kn67_ok : ∀ k ∈ kn67, k.Ok PG := ak kPI_ok (ak kPBo_ok (ak kPLV_ok (ak (kU_ok pt0_con) (ak (kU_ok pv0_con) (ak (kU_ok pop0_con) (ak (kU_ok pim0_con) (ak (kU_ok pen0_con) (ak (kU_ok pmn0_con) ank))))))))
/-! ### the message -/
def arrM (e g : Int) : List AV := [.int .i64 4, .int .i64 0, .int .i64 0, .int .i64 0, .int .i64 0, .int .i64 0, .int .i64 0, .int .i64 g, .int .i64 e, .int .i64 0, .int .i64 0, .int .i64 0]
def SM0 (e g : Int) (vs : List Md.View) : St := { fr := [(1, .ptr 0 0 0), (3, .nils), (30, .agg (arrM e g)), (31, .int .i64 0)], hp := [.arr true 31 [encMsg (mkM e g vs)]] }
def SMs (e g : Int) (vs : List Md.View) (l : List Int) (i : Int) : St := { fr := [(1, .ptr 0 0 0), (3, .sl 1 1 0 l.length 0), (30, .agg (arrM e g)), (31, .int .i64 i)], hp := [.arr true 31 [encMsg (mkM e g vs)], blkB l] }
theorem pmsg_in (N : Nat) (e g : Int) (vs : List Md.View) : callT (envP kn67) (N + 1) F_msg_Put [AV.agg (encMsg (mkM e g vs))] = LP (envP kn67) N 0 F_msg_Put snK 0 [] N (SM0 e g vs) := by kernel_rfl
theorem pmsg_0 (N j : Nat) (e g : Int) (vs : List Md.View) : LP (envP kn67) N 0 F_msg_Put snK 0 [] (j + 1) (SM0 e g vs) = gW0 4 fun y => LP (envP kn67) N 0 F_msg_Put snK 0 [] j (SMs e g vs (ne (intB y)) 1) := by kernel_rfl
theorem pmsg_1 (N j : Nat) (e g : Int) (vs : List Md.View) (l : List Int) : LP (envP kn67) N 0 F_msg_Put snK 0 [] (j + 1) (SMs e g vs l 1) = gW l 0 fun y => LP (envP kn67) N 0 F_msg_Put snK 0 [] j (SMs e g vs (y.1 ++ intB y.2) 2) := by kernel_rfl
theorem pmsg_2 (N j : Nat) (e g : Int) (vs : List Md.View) (l : List Int) : LP (envP kn67) N 0 F_msg_Put snK 0 [] (j + 1) (SMs e g vs l 2) = gW l 0 fun y => LP (envP kn67) N 0 F_msg_Put snK 0 [] j (SMs e g vs (y.1 ++ intB y.2) 3) := by kernel_rfl
theorem pmsg_3 (N j : Nat) (e g : Int) (vs : List Md.View) (l : List Int) : LP (envP kn67) N 0 F_msg_Put snK 0 [] (j + 1) (SMs e g vs l 3) = gW l 0 fun y => LP (envP kn67) N 0 F_msg_Put snK 0 [] j (SMs e g vs (y.1 ++ intB y.2) 4) := by kernel_rfl
theorem pmsg_4 (N j : Nat) (e g : Int) (vs : List Md.View) (l : List Int) : LP (envP kn67) N 0 F_msg_Put snK 0 [] (j + 1) (SMs e g vs l 4) = gW l 0 fun y => LP (envP kn67) N 0 F_msg_Put snK 0 [] j (SMs e g vs (y.1 ++ intB y.2) 5) := by kernel_rfl
theorem pmsg_5 (N j : Nat) (e g : Int) (vs : List Md.View) (l : List Int) : LP (envP kn67) N 0 F_msg_Put snK 0 [] (j + 1) (SMs e g vs l 5) = gW l 0 fun y => LP (envP kn67) N 0 F_msg_Put snK 0 [] j (SMs e g vs (y.1 ++ intB y.2) 6) := by kernel_rfl
theorem pmsg_6 (N j : Nat) (e g : Int) (vs : List Md.View) (l : List Int) : LP (envP kn67) N 0 F_msg_Put snK 0 [] (j + 1) (SMs e g vs l 6) = gW l 0 fun y => LP (envP kn67) N 0 F_msg_Put snK 0 [] j (SMs e g vs (y.1 ++ intB y.2) 7) := by kernel_rfl
theorem pmsg_7 (N j : Nat) (e g : Int) (vs : List Md.View) (l : List Int) : LP (envP kn67) N 0 F_msg_Put snK 0 [] (j + 1) (SMs e g vs l 7) = gW l g fun y => LP (envP kn67) N 0 F_msg_Put snK 0 [] j (SMs e g vs (y.1 ++ intB y.2) 8) := by kernel_rfl
theorem pmsg_8 (N j : Nat) (e g : Int) (vs : List Md.View) (l : List Int) : LP (envP kn67) N 0 F_msg_Put snK 0 [] (j + 1) (SMs e g vs l 8) = gW l e fun y => LP (envP kn67) N 0 F_msg_Put snK 0 [] j (SMs e g vs (y.1 ++ intB y.2) 9) := by kernel_rfl
theorem pmsg_9 (N j : Nat) (e g : Int) (vs : List Md.View) (l : List Int) : LP (envP kn67) N 0 F_msg_Put snK 0 [] (j + 1) (SMs e g vs l 9) = gW l 0 fun y => LP (envP kn67) N 0 F_msg_Put snK 0 [] j (SMs e g vs (y.1 ++ intB y.2) 10) := by kernel_rfl
theorem pmsg_10 (N j : Nat) (e g : Int) (vs : List Md.View) (l : List Int) : LP (envP kn67) N 0 F_msg_Put snK 0 [] (j + 1) (SMs e g vs l 10) = gW l 0 fun y => LP (envP kn67) N 0 F_msg_Put snK 0 [] j (SMs e g vs (y.1 ++ intB y.2) 11) := by kernel_rfl
theorem pmsg_11 (N j : Nat) (e g : Int) (vs : List Md.View) (l : List Int) : LP (envP kn67) N 0 F_msg_Put snK 0 [] (j + 1) (SMs e g vs l 11) = gW l 0 fun y => LP (envP kn67) N 0 F_msg_Put snK 0 [] j (SMs e g vs (y.1 ++ intB y.2) 12) := by kernel_rfl
/-! ### the tail of the message, statement by statement -/
noncomputable def EV (N : Nat) (c : Code) (K : AX → St → Option AV) (S : St) : Option AV := evC1 (envP kn67) (evFn (envP kn67) (N + 9)) F_msg_Put (ntOf (envP kn67) F_msg_Put) (N + 9) 0 (jumpK (envP kn67) (evFn (envP kn67) (N + 9)) F_msg_Put (ntOf (envP kn67) F_msg_Put) (N + 9) 0 (N + 9)) 0 c K S
noncomputable def BD (n : Nat) : Code := sub (bodyOf (envP kn67) F_msg_Put) (List.replicate n .R)
noncomputable def STm (n : Nat) : Code := sub (BD n) [.L]
theorem EV_seq (N : Nat) (a b : Code) (K : AX → St → Option AV) (S : St) : EV N (.seq a b) K S = EV N a (fun e s' => match e with
  | .normal => EV N b K s'
  | e => K e s') S := rfl
/-- a place is told anew -/
def upd (o : Nat → Nat) (k n : Nat) : Nat → Nat := fun i => bif Nat.beq i k then n else o i
def SQ0 (e g : Int) (vs : List Md.View) (l : List Int) (o : Nat → Nat) : St := { fr := [(32, AV.bool false), (1, AV.ptr 0 0 0), (3, AV.sl 1 1 0 l.length 0), (30, AV.agg (arrM e g)), (31, AV.int IntKind.i64 12)], hp := [BS.arr true 31 [encMsg (mkM e g vs)], blkB l] }
def SQ1 (e g : Int) (vs : List Md.View) (l : List Int) (o : Nat → Nat) : St := { fr := [(3, AV.sl 1 2 0 l.length 0), (41, AV.sl 1 2 0 l.length 0), (40, AV.bool false), (39, AV.ptr 0 0 12), (38, AV.sl 1 1 0 (o 0) 0), (32, AV.bool false), (1, AV.ptr 0 0 0), (3, AV.sl 1 1 0 (o 0) 0), (30, AV.agg (arrM e g)), (31, AV.int IntKind.i64 12)], hp := [BS.arr true 31 [encMsg (mkM e g vs)], BS.dead, BS.seq true 1 l.length fun i => encB (l.getD i 0)] }
def SQ2 (e g : Int) (vs : List Md.View) (l : List Int) (o : Nat → Nat) : St := { fr := [(3, AV.sl 1 3 0 l.length 0), (45, AV.sl 1 3 0 l.length 0), (44, AV.bool false), (43, AV.ptr 0 0 13), (42, AV.sl 1 2 0 (o 1) 0), (3, AV.sl 1 2 0 (o 1) 0), (41, AV.sl 1 2 0 (o 1) 0), (40, AV.bool false), (39, AV.ptr 0 0 12), (38, AV.sl 1 1 0 (o 0) 0), (32, AV.bool false), (1, AV.ptr 0 0 0), (3, AV.sl 1 1 0 (o 0) 0), (30, AV.agg (arrM e g)), (31, AV.int IntKind.i64 12)], hp := [BS.arr true 31 [encMsg (mkM e g vs)], BS.dead, BS.dead, BS.seq true 1 l.length fun i => encB (l.getD i 0)] }
def SQ3 (e g : Int) (vs : List Md.View) (l : List Int) (o : Nat → Nat) : St := { fr := [(3, AV.sl 1 4 0 l.length 0), (49, AV.sl 1 4 0 l.length 0), (48, AV.str []), (47, AV.ptr 0 0 14), (46, AV.sl 1 3 0 (o 2) 0), (3, AV.sl 1 3 0 (o 2) 0), (45, AV.sl 1 3 0 (o 2) 0), (44, AV.bool false), (43, AV.ptr 0 0 13), (42, AV.sl 1 2 0 (o 1) 0), (3, AV.sl 1 2 0 (o 1) 0), (41, AV.sl 1 2 0 (o 1) 0), (40, AV.bool false), (39, AV.ptr 0 0 12), (38, AV.sl 1 1 0 (o 0) 0), (32, AV.bool false), (1, AV.ptr 0 0 0), (3, AV.sl 1 1 0 (o 0) 0), (30, AV.agg (arrM e g)), (31, AV.int IntKind.i64 12)], hp := [BS.arr true 31 [encMsg (mkM e g vs)], BS.dead, BS.dead, BS.dead, BS.seq true 1 l.length fun i => encB (l.getD i 0)] }
def SQ4 (e g : Int) (vs : List Md.View) (l : List Int) (o : Nat → Nat) : St := { fr := [(3, AV.sl 1 5 0 l.length 0), (53, AV.sl 1 5 0 l.length 0), (52, AV.str []), (51, AV.ptr 0 0 15), (50, AV.sl 1 4 0 (o 3) 0), (3, AV.sl 1 4 0 (o 3) 0), (49, AV.sl 1 4 0 (o 3) 0), (48, AV.str []), (47, AV.ptr 0 0 14), (46, AV.sl 1 3 0 (o 2) 0), (3, AV.sl 1 3 0 (o 2) 0), (45, AV.sl 1 3 0 (o 2) 0), (44, AV.bool false), (43, AV.ptr 0 0 13), (42, AV.sl 1 2 0 (o 1) 0), (3, AV.sl 1 2 0 (o 1) 0), (41, AV.sl 1 2 0 (o 1) 0), (40, AV.bool false), (39, AV.ptr 0 0 12), (38, AV.sl 1 1 0 (o 0) 0), (32, AV.bool false), (1, AV.ptr 0 0 0), (3, AV.sl 1 1 0 (o 0) 0), (30, AV.agg (arrM e g)), (31, AV.int IntKind.i64 12)], hp := [BS.arr true 31 [encMsg (mkM e g vs)], BS.dead, BS.dead, BS.dead, BS.dead, BS.seq true 1 l.length fun i => encB (l.getD i 0)] }
def SQ5 (e g : Int) (vs : List Md.View) (l : List Int) (o : Nat → Nat) : St := { fr := [(3, AV.sl 1 6 0 l.length 0), (57, AV.sl 1 6 0 l.length 0), (56, AV.cplx FloatKind.f64 0 0), (55, AV.ptr 0 0 16), (54, AV.sl 1 5 0 (o 4) 0), (3, AV.sl 1 5 0 (o 4) 0), (53, AV.sl 1 5 0 (o 4) 0), (52, AV.str []), (51, AV.ptr 0 0 15), (50, AV.sl 1 4 0 (o 3) 0), (3, AV.sl 1 4 0 (o 3) 0), (49, AV.sl 1 4 0 (o 3) 0), (48, AV.str []), (47, AV.ptr 0 0 14), (46, AV.sl 1 3 0 (o 2) 0), (3, AV.sl 1 3 0 (o 2) 0), (45, AV.sl 1 3 0 (o 2) 0), (44, AV.bool false), (43, AV.ptr 0 0 13), (42, AV.sl 1 2 0 (o 1) 0), (3, AV.sl 1 2 0 (o 1) 0), (41, AV.sl 1 2 0 (o 1) 0), (40, AV.bool false), (39, AV.ptr 0 0 12), (38, AV.sl 1 1 0 (o 0) 0), (32, AV.bool false), (1, AV.ptr 0 0 0), (3, AV.sl 1 1 0 (o 0) 0), (30, AV.agg (arrM e g)), (31, AV.int IntKind.i64 12)], hp := [BS.arr true 31 [encMsg (mkM e g vs)], BS.dead, BS.dead, BS.dead, BS.dead, BS.dead, BS.seq true 1 l.length fun i => encB (l.getD i 0)] }
def SQ6 (e g : Int) (vs : List Md.View) (l : List Int) (o : Nat → Nat) : St := { fr := [(3, AV.sl 1 7 0 l.length 0), (61, AV.sl 1 7 0 l.length 0), (60, AV.cplx FloatKind.f64 0 0), (59, AV.ptr 0 0 17), (58, AV.sl 1 6 0 (o 5) 0), (3, AV.sl 1 6 0 (o 5) 0), (57, AV.sl 1 6 0 (o 5) 0), (56, AV.cplx FloatKind.f64 0 0), (55, AV.ptr 0 0 16), (54, AV.sl 1 5 0 (o 4) 0), (3, AV.sl 1 5 0 (o 4) 0), (53, AV.sl 1 5 0 (o 4) 0), (52, AV.str []), (51, AV.ptr 0 0 15), (50, AV.sl 1 4 0 (o 3) 0), (3, AV.sl 1 4 0 (o 3) 0), (49, AV.sl 1 4 0 (o 3) 0), (48, AV.str []), (47, AV.ptr 0 0 14), (46, AV.sl 1 3 0 (o 2) 0), (3, AV.sl 1 3 0 (o 2) 0), (45, AV.sl 1 3 0 (o 2) 0), (44, AV.bool false), (43, AV.ptr 0 0 13), (42, AV.sl 1 2 0 (o 1) 0), (3, AV.sl 1 2 0 (o 1) 0), (41, AV.sl 1 2 0 (o 1) 0), (40, AV.bool false), (39, AV.ptr 0 0 12), (38, AV.sl 1 1 0 (o 0) 0), (32, AV.bool false), (1, AV.ptr 0 0 0), (3, AV.sl 1 1 0 (o 0) 0), (30, AV.agg (arrM e g)), (31, AV.int IntKind.i64 12)], hp := [BS.arr true 31 [encMsg (mkM e g vs)], BS.dead, BS.dead, BS.dead, BS.dead, BS.dead, BS.dead, BS.seq true 1 l.length fun i => encB (l.getD i 0)] }
def SQ7 (e g : Int) (vs : List Md.View) (l : List Int) (o : Nat → Nat) : St := { fr := [(3, AV.sl 1 8 0 l.length 0), (65, AV.sl 1 8 0 l.length 0), (64, AV.agg [AV.int IntKind.i64 0, AV.str [], AV.str [], AV.str [], AV.bool false]), (63, AV.ptr 0 0 18), (62, AV.sl 1 7 0 (o 6) 0), (3, AV.sl 1 7 0 (o 6) 0), (61, AV.sl 1 7 0 (o 6) 0), (60, AV.cplx FloatKind.f64 0 0), (59, AV.ptr 0 0 17), (58, AV.sl 1 6 0 (o 5) 0), (3, AV.sl 1 6 0 (o 5) 0), (57, AV.sl 1 6 0 (o 5) 0), (56, AV.cplx FloatKind.f64 0 0), (55, AV.ptr 0 0 16), (54, AV.sl 1 5 0 (o 4) 0), (3, AV.sl 1 5 0 (o 4) 0), (53, AV.sl 1 5 0 (o 4) 0), (52, AV.str []), (51, AV.ptr 0 0 15), (50, AV.sl 1 4 0 (o 3) 0), (3, AV.sl 1 4 0 (o 3) 0), (49, AV.sl 1 4 0 (o 3) 0), (48, AV.str []), (47, AV.ptr 0 0 14), (46, AV.sl 1 3 0 (o 2) 0), (3, AV.sl 1 3 0 (o 2) 0), (45, AV.sl 1 3 0 (o 2) 0), (44, AV.bool false), (43, AV.ptr 0 0 13), (42, AV.sl 1 2 0 (o 1) 0), (3, AV.sl 1 2 0 (o 1) 0), (41, AV.sl 1 2 0 (o 1) 0), (40, AV.bool false), (39, AV.ptr 0 0 12), (38, AV.sl 1 1 0 (o 0) 0), (32, AV.bool false), (1, AV.ptr 0 0 0), (3, AV.sl 1 1 0 (o 0) 0), (30, AV.agg (arrM e g)), (31, AV.int IntKind.i64 12)], hp := [BS.arr true 31 [encMsg (mkM e g vs)], BS.dead, BS.dead, BS.dead, BS.dead, BS.dead, BS.dead, BS.dead, BS.seq true 1 l.length fun i => encB (l.getD i 0)] }
def SQ8 (e g : Int) (vs : List Md.View) (l : List Int) (o : Nat → Nat) : St := { fr := [(3, AV.sl 1 9 0 l.length 0), (69, AV.sl 1 9 0 l.length 0), (68, encEntrys []), (67, AV.ptr 0 0 23), (66, AV.sl 1 8 0 (o 7) 0), (3, AV.sl 1 8 0 (o 7) 0), (65, AV.sl 1 8 0 (o 7) 0), (64, AV.agg [AV.int IntKind.i64 0, AV.str [], AV.str [], AV.str [], AV.bool false]), (63, AV.ptr 0 0 18), (62, AV.sl 1 7 0 (o 6) 0), (3, AV.sl 1 7 0 (o 6) 0), (61, AV.sl 1 7 0 (o 6) 0), (60, AV.cplx FloatKind.f64 0 0), (59, AV.ptr 0 0 17), (58, AV.sl 1 6 0 (o 5) 0), (3, AV.sl 1 6 0 (o 5) 0), (57, AV.sl 1 6 0 (o 5) 0), (56, AV.cplx FloatKind.f64 0 0), (55, AV.ptr 0 0 16), (54, AV.sl 1 5 0 (o 4) 0), (3, AV.sl 1 5 0 (o 4) 0), (53, AV.sl 1 5 0 (o 4) 0), (52, AV.str []), (51, AV.ptr 0 0 15), (50, AV.sl 1 4 0 (o 3) 0), (3, AV.sl 1 4 0 (o 3) 0), (49, AV.sl 1 4 0 (o 3) 0), (48, AV.str []), (47, AV.ptr 0 0 14), (46, AV.sl 1 3 0 (o 2) 0), (3, AV.sl 1 3 0 (o 2) 0), (45, AV.sl 1 3 0 (o 2) 0), (44, AV.bool false), (43, AV.ptr 0 0 13), (42, AV.sl 1 2 0 (o 1) 0), (3, AV.sl 1 2 0 (o 1) 0), (41, AV.sl 1 2 0 (o 1) 0), (40, AV.bool false), (39, AV.ptr 0 0 12), (38, AV.sl 1 1 0 (o 0) 0), (32, AV.bool false), (1, AV.ptr 0 0 0), (3, AV.sl 1 1 0 (o 0) 0), (30, AV.agg (arrM e g)), (31, AV.int IntKind.i64 12)], hp := [BS.arr true 31 [encMsg (mkM e g vs)], BS.dead, BS.dead, BS.dead, BS.dead, BS.dead, BS.dead, BS.dead, BS.dead, BS.seq true 1 l.length fun i => encB (l.getD i 0)] }
def SQ9 (e g : Int) (vs : List Md.View) (l : List Int) (o : Nat → Nat) : St := { fr := [(3, AV.sl 1 10 0 l.length 0), (73, AV.sl 1 10 0 l.length 0), (72, encMembers []), (71, AV.ptr 0 0 24), (70, AV.sl 1 9 0 (o 8) 0), (3, AV.sl 1 9 0 (o 8) 0), (69, AV.sl 1 9 0 (o 8) 0), (68, encEntrys []), (67, AV.ptr 0 0 23), (66, AV.sl 1 8 0 (o 7) 0), (3, AV.sl 1 8 0 (o 7) 0), (65, AV.sl 1 8 0 (o 7) 0), (64, AV.agg [AV.int IntKind.i64 0, AV.str [], AV.str [], AV.str [], AV.bool false]), (63, AV.ptr 0 0 18), (62, AV.sl 1 7 0 (o 6) 0), (3, AV.sl 1 7 0 (o 6) 0), (61, AV.sl 1 7 0 (o 6) 0), (60, AV.cplx FloatKind.f64 0 0), (59, AV.ptr 0 0 17), (58, AV.sl 1 6 0 (o 5) 0), (3, AV.sl 1 6 0 (o 5) 0), (57, AV.sl 1 6 0 (o 5) 0), (56, AV.cplx FloatKind.f64 0 0), (55, AV.ptr 0 0 16), (54, AV.sl 1 5 0 (o 4) 0), (3, AV.sl 1 5 0 (o 4) 0), (53, AV.sl 1 5 0 (o 4) 0), (52, AV.str []), (51, AV.ptr 0 0 15), (50, AV.sl 1 4 0 (o 3) 0), (3, AV.sl 1 4 0 (o 3) 0), (49, AV.sl 1 4 0 (o 3) 0), (48, AV.str []), (47, AV.ptr 0 0 14), (46, AV.sl 1 3 0 (o 2) 0), (3, AV.sl 1 3 0 (o 2) 0), (45, AV.sl 1 3 0 (o 2) 0), (44, AV.bool false), (43, AV.ptr 0 0 13), (42, AV.sl 1 2 0 (o 1) 0), (3, AV.sl 1 2 0 (o 1) 0), (41, AV.sl 1 2 0 (o 1) 0), (40, AV.bool false), (39, AV.ptr 0 0 12), (38, AV.sl 1 1 0 (o 0) 0), (32, AV.bool false), (1, AV.ptr 0 0 0), (3, AV.sl 1 1 0 (o 0) 0), (30, AV.agg (arrM e g)), (31, AV.int IntKind.i64 12)], hp := [BS.arr true 31 [encMsg (mkM e g vs)], BS.dead, BS.dead, BS.dead, BS.dead, BS.dead, BS.dead, BS.dead, BS.dead, BS.dead, BS.seq true 1 l.length fun i => encB (l.getD i 0)] }
def SQ10 (e g : Int) (vs : List Md.View) (l : List Int) (o : Nat → Nat) : St := { fr := [(3, AV.sl 1 11 0 l.length 0), (77, AV.sl 1 11 0 l.length 0), (76, encViews vs), (75, AV.ptr 0 0 25), (74, AV.sl 1 10 0 (o 9) 0), (3, AV.sl 1 10 0 (o 9) 0), (73, AV.sl 1 10 0 (o 9) 0), (72, encMembers []), (71, AV.ptr 0 0 24), (70, AV.sl 1 9 0 (o 8) 0), (3, AV.sl 1 9 0 (o 8) 0), (69, AV.sl 1 9 0 (o 8) 0), (68, encEntrys []), (67, AV.ptr 0 0 23), (66, AV.sl 1 8 0 (o 7) 0), (3, AV.sl 1 8 0 (o 7) 0), (65, AV.sl 1 8 0 (o 7) 0), (64, AV.agg [AV.int IntKind.i64 0, AV.str [], AV.str [], AV.str [], AV.bool false]), (63, AV.ptr 0 0 18), (62, AV.sl 1 7 0 (o 6) 0), (3, AV.sl 1 7 0 (o 6) 0), (61, AV.sl 1 7 0 (o 6) 0), (60, AV.cplx FloatKind.f64 0 0), (59, AV.ptr 0 0 17), (58, AV.sl 1 6 0 (o 5) 0), (3, AV.sl 1 6 0 (o 5) 0), (57, AV.sl 1 6 0 (o 5) 0), (56, AV.cplx FloatKind.f64 0 0), (55, AV.ptr 0 0 16), (54, AV.sl 1 5 0 (o 4) 0), (3, AV.sl 1 5 0 (o 4) 0), (53, AV.sl 1 5 0 (o 4) 0), (52, AV.str []), (51, AV.ptr 0 0 15), (50, AV.sl 1 4 0 (o 3) 0), (3, AV.sl 1 4 0 (o 3) 0), (49, AV.sl 1 4 0 (o 3) 0), (48, AV.str []), (47, AV.ptr 0 0 14), (46, AV.sl 1 3 0 (o 2) 0), (3, AV.sl 1 3 0 (o 2) 0), (45, AV.sl 1 3 0 (o 2) 0), (44, AV.bool false), (43, AV.ptr 0 0 13), (42, AV.sl 1 2 0 (o 1) 0), (3, AV.sl 1 2 0 (o 1) 0), (41, AV.sl 1 2 0 (o 1) 0), (40, AV.bool false), (39, AV.ptr 0 0 12), (38, AV.sl 1 1 0 (o 0) 0), (32, AV.bool false), (1, AV.ptr 0 0 0), (3, AV.sl 1 1 0 (o 0) 0), (30, AV.agg (arrM e g)), (31, AV.int IntKind.i64 12)], hp := [BS.arr true 31 [encMsg (mkM e g vs)], BS.dead, BS.dead, BS.dead, BS.dead, BS.dead, BS.dead, BS.dead, BS.dead, BS.dead, BS.dead, BS.seq true 1 l.length fun i => encB (l.getD i 0)] }
theorem BD_1 : BD 1 = .seq (STm 1) (BD 2) := by kernel_rfl
theorem BD_2 : BD 2 = .seq (STm 2) (BD 3) := by kernel_rfl
theorem BD_3 : BD 3 = .seq (STm 3) (BD 4) := by kernel_rfl
theorem BD_4 : BD 4 = .seq (STm 4) (BD 5) := by kernel_rfl
theorem BD_5 : BD 5 = .seq (STm 5) (BD 6) := by kernel_rfl
theorem BD_6 : BD 6 = .seq (STm 6) (BD 7) := by kernel_rfl
theorem BD_7 : BD 7 = .seq (STm 7) (BD 8) := by kernel_rfl
theorem BD_8 : BD 8 = .seq (STm 8) (BD 9) := by kernel_rfl
theorem BD_9 : BD 9 = .seq (STm 9) (BD 10) := by kernel_rfl
theorem BD_10 : BD 10 = .seq (STm 10) (BD 11) := by kernel_rfl
theorem BD_11 : BD 11 = .seq (STm 11) (BD 12) := by kernel_rfl
theorem BD_12 : BD 12 = .seq (STm 12) (BD 13) := by kernel_rfl
theorem st_0 (N : Nat) (e g : Int) (vs : List Md.View) (l : List Int) (o : Nat → Nat) (K : AX → St → Option AV) : EV N (STm 3) K (SQ0 e g vs l o) = gWB l false fun y => K .normal (SQ1 e g vs (y.1 ++ [bitI y.2]) (upd o 0 l.length)) := by kernel_rfl
theorem st_1 (N : Nat) (e g : Int) (vs : List Md.View) (l : List Int) (o : Nat → Nat) (K : AX → St → Option AV) : EV N (STm 4) K (SQ1 e g vs l o) = gWB l false fun y => K .normal (SQ2 e g vs (y.1 ++ [bitI y.2]) (upd o 1 l.length)) := by kernel_rfl
theorem st_2 (N : Nat) (e g : Int) (vs : List Md.View) (l : List Int) (o : Nat → Nat) (K : AX → St → Option AV) : EV N (STm 5) K (SQ2 e g vs l o) = gU 870000000 [.str []] l fun y => K .normal (SQ3 e g vs (y.1 ++ intB 0) (upd o 2 l.length)) := by kernel_rfl
theorem st_3 (N : Nat) (e g : Int) (vs : List Md.View) (l : List Int) (o : Nat → Nat) (K : AX → St → Option AV) : EV N (STm 6) K (SQ3 e g vs l o) = gU 870000000 [.str []] l fun y => K .normal (SQ4 e g vs (y.1 ++ intB 0) (upd o 3 l.length)) := by kernel_rfl
theorem st_4 (N : Nat) (e g : Int) (vs : List Md.View) (l : List Int) (o : Nat → Nat) (K : AX → St → Option AV) : EV N (STm 7) K (SQ4 e g vs l o) = gU 870000000 [.cplx .f64 0 0] l fun y => K .normal (SQ5 e g vs (y.1 ++ (intB 0 ++ intB 0)) (upd o 4 l.length)) := by kernel_rfl
theorem st_5 (N : Nat) (e g : Int) (vs : List Md.View) (l : List Int) (o : Nat → Nat) (K : AX → St → Option AV) : EV N (STm 8) K (SQ5 e g vs l o) = gU 870000000 [.cplx .f64 0 0] l fun y => K .normal (SQ6 e g vs (y.1 ++ (intB 0 ++ intB 0)) (upd o 5 l.length)) := by kernel_rfl
theorem st_6 (N : Nat) (e g : Int) (vs : List Md.View) (l : List Int) (o : Nat → Nat) (K : AX → St → Option AV) : EV N (STm 9) K (SQ6 e g vs l o) = gU 870000000 [opA] l fun y => K .normal (SQ7 e g vs (y.1 ++ (intB 0 ++ (intB 0 ++ (intB 0 ++ (intB 0 ++ [bitI false]))))) (upd o 6 l.length)) := by kernel_rfl
theorem st_7 (N : Nat) (e g : Int) (vs : List Md.View) (l : List Int) (o : Nat → Nat) (K : AX → St → Option AV) : EV N (STm 10) K (SQ7 e g vs l o) = gU 870000000 [encEntrys [], fnP F_entry_Put] l fun y => K .normal (SQ8 e g vs (y.1 ++ intB 0) (upd o 7 l.length)) := by kernel_rfl
theorem st_8 (N : Nat) (e g : Int) (vs : List Md.View) (l : List Int) (o : Nat → Nat) (K : AX → St → Option AV) : EV N (STm 11) K (SQ8 e g vs l o) = gU 870000000 [encMembers [], fnP F_msg_putMember] l fun y => K .normal (SQ9 e g vs (y.1 ++ intB 0) (upd o 8 l.length)) := by kernel_rfl
theorem st_9 (N : Nat) (e g : Int) (vs : List Md.View) (l : List Int) (o : Nat → Nat) (K : AX → St → Option AV) : EV N (STm 12) K (SQ9 e g vs l o) = gPV l vs fun y => K .normal (SQ10 e g vs (y.1 ++ viewsB y.2) (upd o 9 l.length)) := by kernel_rfl
theorem st_10 (N : Nat) (e g : Int) (vs : List Md.View) (l : List Int) (o : Nat → Nat) : EV N (BD 13) (finK (envP kn67) F_msg_Put snK) (SQ10 e g vs l o) = gU 860000000 [imA] l fun y => bif (y.1 ++ (intB 0 ++ (intB 0 ++ (intB 0 ++ (intB 0 ++ (intB 0 ++ (intB 0 ++ intB 0))))))).length.beq 0 || (y.1 ++ (intB 0 ++ (intB 0 ++ (intB 0 ++ (intB 0 ++ (intB 0 ++ (intB 0 ++ intB 0))))))).length.ble (y.1 ++ (intB 0 ++ (intB 0 ++ (intB 0 ++ (intB 0 ++ (intB 0 ++ (intB 0 ++ intB 0))))))).length then some (encBy (y.1 ++ (intB 0 ++ (intB 0 ++ (intB 0 ++ (intB 0 ++ (intB 0 ++ (intB 0 ++ intB 0)))))))) else none := by kernel_rfl
def pLoop : List PE := [.R, .R, .L, .R, .L]
noncomputable def bLoop : Code := sub (bodyOf (envP kn67) F_msg_Put) [.R, .R, .L, .R, .L, .L]
theorem BD_0 : bodyOf (envP kn67) F_msg_Put = .seq (STm 0) (BD 1) := by kernel_rfl
theorem STm_2 : STm 2 = .seq (sub (STm 2) [.L]) (.block 0 (.loop bLoop)) := by kernel_rfl
theorem cont_out {R : Type} (env : Env) (run : CallK R) (fn nt n base : Nat) (jump : Code → Nat → CodeK R) (a b c d x : Code) (K : AX → St → Option R) (S : St) :
    contOf env run fn nt n base jump 0 (.seq a (.seq b (.seq (.seq c (.block 0 (.loop d))) x))) pLoop K (.exit 0) S = evC1 env run fn nt n base jump 0 x K S := rfl
theorem lp_out (N : Nat) (K : AX → St → Option AV) (S : St) : contOf (envP kn67) (evFn (envP kn67) (N + 9)) F_msg_Put (ntOf (envP kn67) F_msg_Put) (N + 9) 0 (jumpK (envP kn67) (evFn (envP kn67) (N + 9)) F_msg_Put (ntOf (envP kn67) F_msg_Put) (N + 9) 0 (N + 9)) 0 (bodyOf (envP kn67) F_msg_Put) pLoop K (.exit 0) S = EV N (BD 3) K S := by
  rw [BD_0, BD_1, BD_2, STm_2, cont_out]; rfl
noncomputable def LK (N j : Nat) (K : AX → St → Option AV) (S : St) : Option AV := loopK (norm 0 ((envP kn67).live F_msg_Put 0)) (evC1 (envP kn67) (evFn (envP kn67) (N + 9)) F_msg_Put (ntOf (envP kn67) F_msg_Put) (N + 9) 0 (jumpK (envP kn67) (evFn (envP kn67) (N + 9)) F_msg_Put (ntOf (envP kn67) F_msg_Put) (N + 9) 0 (N + 9)) 0 bLoop) j K S
theorem lp_LK (N j : Nat) (S : St) : LP (envP kn67) (N + 9) 0 F_msg_Put snK 0 [] j S = LK N j (contOf (envP kn67) (evFn (envP kn67) (N + 9)) F_msg_Put (ntOf (envP kn67) F_msg_Put) (N + 9) 0 (jumpK (envP kn67) (evFn (envP kn67) (N + 9)) F_msg_Put (ntOf (envP kn67) F_msg_Put) (N + 9) 0 (N + 9)) 0 (bodyOf (envP kn67) F_msg_Put) pLoop (finK (envP kn67) F_msg_Put snK)) S := by kernel_rfl
theorem lk_end (N j : Nat) (e g : Int) (vs : List Md.View) (l : List Int) (o : Nat → Nat) (K : AX → St → Option AV) : LK N (j + 1) K (SMs e g vs l 12) = K (.exit 0) (SQ0 e g vs l o) := by kernel_rfl
theorem pmsg_12 (N j : Nat) (e g : Int) (vs : List Md.View) (l : List Int) (o : Nat → Nat) : LP (envP kn67) (N + 9) 0 F_msg_Put snK 0 [] (j + 1) (SMs e g vs l 12) = EV N (BD 3) (finK (envP kn67) F_msg_Put snK) (SQ0 e g vs l o) := by
  rw [lp_LK, lk_end N j e g vs l o, lp_out]
set_option maxHeartbeats 4000000 in
theorem pmsg_con {e g : Int} {vs : List Md.View} (he : I64 e) (hg : I64 g) (hv : ViewsOk vs) : Contract PG F_msg_Put [.agg (encMsg (mkM e g vs))] [] (encBy (msgB (mkM e g vs))) [] := by
  refine con_of (md := md5) kn67_ok (n := 20 + 9 + 1) ((pmsg_in (20 + 9) e g vs).trans ?_)
  have i4 : I64 4 := by unfold I64; omega
  have a4 := intB_len 4
  have a0 := intB_len 0
  have ae := intB_len e
  have ag := intB_len g
  have av := viewsB_len hv
  rw [show LP (envP kn67) (20 + 9) 0 F_msg_Put snK 0 [] (20 + 9) (SM0 e g vs) = LP (envP kn67) (20 + 9) 0 F_msg_Put snK 0 [] (28 + 1) (SM0 e g vs) from rfl, pmsg_0 (20 + 9) 28, gW0_eq i4, ne_eq (intB_ne 4)]
  rw [show LP (envP kn67) (20 + 9) 0 F_msg_Put snK 0 [] 28 = LP (envP kn67) (20 + 9) 0 F_msg_Put snK 0 [] (27 + 1) from rfl, pmsg_1 (20 + 9) 27, gW_eq i0 (by (try simp only [List.length_append]); omega)]
  simp only []
  rw [show LP (envP kn67) (20 + 9) 0 F_msg_Put snK 0 [] 27 = LP (envP kn67) (20 + 9) 0 F_msg_Put snK 0 [] (26 + 1) from rfl, pmsg_2 (20 + 9) 26, gW_eq i0 (by (try simp only [List.length_append]); omega)]
  simp only []
  rw [show LP (envP kn67) (20 + 9) 0 F_msg_Put snK 0 [] 26 = LP (envP kn67) (20 + 9) 0 F_msg_Put snK 0 [] (25 + 1) from rfl, pmsg_3 (20 + 9) 25, gW_eq i0 (by (try simp only [List.length_append]); omega)]
  simp only []
  rw [show LP (envP kn67) (20 + 9) 0 F_msg_Put snK 0 [] 25 = LP (envP kn67) (20 + 9) 0 F_msg_Put snK 0 [] (24 + 1) from rfl, pmsg_4 (20 + 9) 24, gW_eq i0 (by (try simp only [List.length_append]); omega)]
  simp only []
  rw [show LP (envP kn67) (20 + 9) 0 F_msg_Put snK 0 [] 24 = LP (envP kn67) (20 + 9) 0 F_msg_Put snK 0 [] (23 + 1) from rfl, pmsg_5 (20 + 9) 23, gW_eq i0 (by (try simp only [List.length_append]); omega)]
  simp only []
  rw [show LP (envP kn67) (20 + 9) 0 F_msg_Put snK 0 [] 23 = LP (envP kn67) (20 + 9) 0 F_msg_Put snK 0 [] (22 + 1) from rfl, pmsg_6 (20 + 9) 22, gW_eq i0 (by (try simp only [List.length_append]); omega)]
  simp only []
  rw [show LP (envP kn67) (20 + 9) 0 F_msg_Put snK 0 [] 22 = LP (envP kn67) (20 + 9) 0 F_msg_Put snK 0 [] (21 + 1) from rfl, pmsg_7 (20 + 9) 21, gW_eq hg (by (try simp only [List.length_append]); omega)]
  simp only []
  rw [show LP (envP kn67) (20 + 9) 0 F_msg_Put snK 0 [] 21 = LP (envP kn67) (20 + 9) 0 F_msg_Put snK 0 [] (20 + 1) from rfl, pmsg_8 (20 + 9) 20, gW_eq he (by (try simp only [List.length_append]); omega)]
  simp only []
  rw [show LP (envP kn67) (20 + 9) 0 F_msg_Put snK 0 [] 20 = LP (envP kn67) (20 + 9) 0 F_msg_Put snK 0 [] (19 + 1) from rfl, pmsg_9 (20 + 9) 19, gW_eq i0 (by (try simp only [List.length_append]); omega)]
  simp only []
  rw [show LP (envP kn67) (20 + 9) 0 F_msg_Put snK 0 [] 19 = LP (envP kn67) (20 + 9) 0 F_msg_Put snK 0 [] (18 + 1) from rfl, pmsg_10 (20 + 9) 18, gW_eq i0 (by (try simp only [List.length_append]); omega)]
  simp only []
  rw [show LP (envP kn67) (20 + 9) 0 F_msg_Put snK 0 [] 18 = LP (envP kn67) (20 + 9) 0 F_msg_Put snK 0 [] (17 + 1) from rfl, pmsg_11 (20 + 9) 17, gW_eq i0 (by (try simp only [List.length_append]); omega)]
  simp only []
  rw [show LP (envP kn67) (20 + 9) 0 F_msg_Put snK 0 [] 17 = LP (envP kn67) (20 + 9) 0 F_msg_Put snK 0 [] (16 + 1) from rfl, pmsg_12 20 16 _ _ _ _ fun _ => 0]
  rw [BD_3, EV_seq, st_0, gWB_eq (by (try simp only [List.length_append, List.length_cons, List.length_nil]); omega)]
  simp only []
  rw [BD_4, EV_seq, st_1, gWB_eq (by (try simp only [List.length_append, List.length_cons, List.length_nil]); omega)]
  simp only []
  rw [BD_5, EV_seq, st_2, gU_eq (by (try simp only [List.length_append, List.length_cons, List.length_nil]); omega)]
  simp only []
  rw [BD_6, EV_seq, st_3, gU_eq (by (try simp only [List.length_append, List.length_cons, List.length_nil]); omega)]
  simp only []
  rw [BD_7, EV_seq, st_4, gU_eq (by (try simp only [List.length_append, List.length_cons, List.length_nil]); omega)]
  simp only []
  rw [BD_8, EV_seq, st_5, gU_eq (by (try simp only [List.length_append, List.length_cons, List.length_nil]); omega)]
  simp only []
  rw [BD_9, EV_seq, st_6, gU_eq (by (try simp only [List.length_append, List.length_cons, List.length_nil]); omega)]
  simp only []
  rw [BD_10, EV_seq, st_7, gU_eq (by (try simp only [List.length_append, List.length_cons, List.length_nil]); omega)]
  simp only []
  rw [BD_11, EV_seq, st_8, gU_eq (by (try simp only [List.length_append, List.length_cons, List.length_nil]); omega)]
  simp only []
  rw [BD_12, EV_seq, st_9, gPV_eq (by (try simp only [List.length_append, List.length_cons, List.length_nil]); omega) hv]
  simp only []
  rw [st_10, gU_eq (by (try simp only [List.length_append, List.length_cons, List.length_nil]); omega)]
  simp only []
  rw [or_self, cond_true]
  congr 2
  unfold msgB msgN mkM opB imgB entsB memsB seensB textB
  rw [verB0]
  simp only [nums_cons, nums_nil, List.flatMap_nil, List.flatten_cons, List.flatten_nil, List.append_nil, List.append_assoc, List.nil_append, List.cons_append, List.length_nil]
  rfl
/-- a book's message, of its parts -/
structure BM where
  e : Int
  g : Int
  v : List Md.View
def dBM (a : List AV) : BM := let m := decMsg (argC a 0); ⟨m.sess, m.gen, m.views⟩
def eBM (x : BM) : List AV := [.agg (encMsg (mkM x.e x.g x.v))]
def pBM (x : BM) : Prop := I64 x.e ∧ I64 x.g ∧ ViewsOk x.v
theorem dBM_eq (x : BM) : dBM (eBM x) = x := by
  show (let m := decMsg (encMsg (mkM x.e x.g x.v)); (⟨m.sess, m.gen, m.views⟩ : BM)) = x
  rw [dec_encMsg]; rfl
noncomputable def kPMsg : Known := .spec F_msg_Put dBM pBM eBM (fun x => encBy (msgB (mkM x.e x.g x.v)))
theorem kPMsg_ok : kPMsg.Ok PG := Known.spec_ok fun x h => pmsg_con h.1 h.2.1 h.2.2
end Go.Wk
end

section
/- A book's bytes, by the program and by the document. -/
open Go Go.AM Go.Md
namespace Go.Wk
set_option maxRecDepth 100000
set_option maxHeartbeats 400000
def subAll : List AV → List AV → Prop
  | [], [] => True
  | a :: r, b :: s => SubV a b ∧ subAll r s
  | _, _ => False
theorem subC_all : ∀ {a b : List AV}, subAll a b → SubC a b
  | [], [], _ => .nil
  | _ :: _, _ :: _, h => .cons h.1 (subC_all h.2)
  | [], _ :: _, h => h.elim
  | _ :: _, [], h => h.elim
theorem nilsL {X : Type} {sz : Nat} {e : X → List AV} {z : X} : SubV .nils (encL sz e z []) := SubV.nils
noncomputable def kn68 : List Known := [kCloneMember, kPMsg]
theorem kn68_ok : ∀ k ∈ kn68, k.Ok PG := ak kCloneMember_ok (ak kPMsg_ok ank)
def lvG : List (Nat × Nat × List Nat) := [(F_keeper_Put, 0, [3, 13, 14, 15, 1001]), (F_lockgateref22_Put, 0, [1, 3, 4, 1002]), (F_keeper_Get, 0, [0, 4, 6, 8, 9, 1003])]
noncomputable def envG (l : List Known) : Env := { envM (fun _ => none) (orcOf l) with live := fun f b => liveOf f b (lvG ++ liveTab) }
theorem conG {l : List Known} (h : ∀ k ∈ l, k.Ok PG) {n f : Nat} {xs : List AV} {r : AV} (e : callT (envG l) n f xs = some r) : Contract PG f xs [] r [] := callT_ok ⟨tt_ok rfl, orc_ok h⟩ (codeOf_ok rfl) mixed e
def msgC (e g : Int) (V : AV) : List AV := [.int .i64 4, .int .i64 0, .int .i64 0, .int .i64 0, .int .i64 0, .int .i64 0, .int .i64 0, .int .i64 g, .int .i64 e, .int .i64 0, .int .i64 0, .int .i64 0, .bool false, .bool false, .str [], .str [], .cplx .f64 0 0, .cplx .f64 0 0, .int .i64 0, .str [], .str [], .str [], .bool false, .nils, .nils, V, .cplx .f64 0 0, .cplx .f64 0 0, .int .i64 0, .nils, .nils]
/-! ### two grow at a time -/
theorem canF_two (x y : Md.View) : (fun i => [encView x, encView y].getD i (encView x)) = canF encView default [x, y] := by
  funext i
  unfold canF
  match i with
  | 0 => rfl
  | 1 => rfl
  | i + 2 => simp [List.getD]
theorem canF_app2 {l : List Md.View} (h : l ≠ []) (x y : Md.View) :
    (fun i => bif Nat.blt i l.length then canF encView default l i else bif Nat.blt i (l.length + 2) then [encView x, encView y].getD (i - l.length) [] else canF encView default l l.length) = canF encView default (l ++ [x, y]) := by
  funext i
  have h0 : 0 < l.length := List.length_pos_iff.2 h
  have hh : (l ++ [x, y]).getD 0 default = l.getD 0 default := by unfold List.getD; rw [List.getElem?_append_left h0]
  by_cases h1 : i < l.length
  · rw [blt_true h1, cond_true]
    unfold canF
    rw [hh]
    simp [List.getD, List.getElem?_append_left h1]
  · rw [blt_false (Nat.le_of_not_lt h1), cond_false]
    by_cases h2 : i < l.length + 2
    · rw [blt_true h2, cond_true]
      unfold canF
      obtain ⟨d, rfl⟩ : ∃ d, i = l.length + d := ⟨i - l.length, by omega⟩
      have hd : d = 0 ∨ d = 1 := by omega
      rcases hd with rfl | rfl <;> simp [List.getD, List.getElem?_append_right]
    · rw [blt_false (by omega), cond_false]
      unfold canF
      rw [hh]
      have e1 : l[l.length]? = none := List.getElem?_eq_none (Nat.le_refl _)
      have e2 : (l ++ [x, y])[i]? = none := List.getElem?_eq_none (by simp; omega)
      simp [List.getD, e1, e2]
def v1 (p : Plan) (i : Int) : Md.View := ⟨i, p.epoch, p.gen, p.phase, p.chain⟩
def v2 (p : Plan) (i : Int) (f : Int) : Md.View := ⟨i, p.base, p.reset, f, p.valid⟩
def v2' (p : Plan) (i : Int) : Md.View := v2 p i (bif p.fresh then 1 else 0)
theorem vOf_cons (p : Plan) (r : List Plan) (i : Nat) : vOf (p :: r) i = v1 p i :: v2' p i :: vOf r (i + 1) := rfl
theorem two_loop {R : Type} {l : List Plan} {G : Nat → List Md.View → Int → Option R} {fin : List Md.View → Option R} (hend : ∀ m vs, vs.length = 2 * l.length → G (m + 1) vs (l.length : Int) = fin vs)
    (hstep : ∀ m vs (i : Nat), i < l.length → vs.length = 2 * i → G (m + 1) vs (i : Int) = G m (vs ++ [v1 (l.getD i default) i, v2' (l.getD i default) i]) ((i + 1 : Nat) : Int)) :
    ∀ (d i m : Nat) (vs : List Md.View), i + d = l.length → d < m → vs.length = 2 * i → G m vs (i : Int) = fin (vs ++ vOf (l.drop i) i) := by
  intro d
  induction d with
  | zero =>
    intro i m vs hi hm hv
    obtain ⟨m, rfl⟩ : ∃ k, m = k + 1 := ⟨m - 1, by omega⟩
    have : i = l.length := by omega
    subst this
    rw [hend m vs hv, List.drop_eq_nil_of_le (Nat.le_refl _)]; simp [vOf]
  | succ d ih =>
    intro i m vs hi hm hv
    obtain ⟨m, rfl⟩ : ∃ k, m = k + 1 := ⟨m - 1, by omega⟩
    rw [hstep m vs i (by omega) hv, ih (i + 1) m _ (by omega) (by omega) (by simp; omega), drop_cons (z := default) (by omega : i < l.length), vOf_cons, List.append_assoc]
    rfl
/-! ### the program -/
def frK (b : Book) (i : Int) : Fr := [(3, .ptr 0 0 0), (13, encPlans b.shards), (14, .int .i64 b.shards.length), (15, .int .i64 i), (1001, .undef)]
def SK0 (b : Book) (i : Int) : St := { fr := frK b i, hp := [.arr true 31 [msgC b.sess b.gen .nils]] }
def SK2 (b : Book) (f : Nat → List AV) (i : Int) : St := { fr := frK b i, hp := [.arr true 31 [msgC b.sess b.gen (.sl 5 1 0 2 2)], .seq true 5 2 f] }
def SK (b : Book) (n : Nat) (f : Nat → List AV) (i : Int) : St := { fr := frK b i, hp := [.arr true 31 [msgC b.sess b.gen (.sl 5 1 0 n 0)], .seq true 5 n f] }
def SV (b : Book) : List Md.View → Int → St
  | [], i => SK0 b i
  | [x, y], i => SK2 b (canF encView default [x, y]) i
  | l, i => SK b l.length (canF encView default l) i
noncomputable def gMs {R : Type} (l : List Member) (k : List Member → Option R) : Option R := gC (dL decMember) shortL eMems [encMembers l] k
theorem gMs_eq {R : Type} {l : List Member} {k : List Member → Option R} (h : shortL l) : gMs l k = k l := qMems h
noncomputable def gPMsg (e g : Int) (V : AV) : Option AV := gC dBM pBM eBM [.agg (msgC e g V)] fun y => some (encBy (msgB (mkM y.e y.g y.v)))
theorem kput_in (N : Nat) (b : Book) : callT (envG kn68) (N + 1) F_keeper_Put [.agg (encBook b)] = LP (envG kn68) N 0 F_keeper_Put snK 0 [] N (SK0 b 0) := by kernel_rfl
theorem kput_0 (N j : Nat) (b : Book) (i : Int) : LP (envG kn68) N 0 F_keeper_Put snK 0 [] (j + 1) (SK0 b i) =
  bif decide (i < (b.shards.length : Int)) then rg i b.shards.length <| bif (b.shards.getD i.toNat default).fresh then
      gMs (b.shards.getD i.toNat default).chain fun c => gMs (b.shards.getD i.toNat default).valid fun v => LP (envG kn68) N 0 F_keeper_Put snK 0 [] j (SK2 b (fun k => [encView { v1 (b.shards.getD i.toNat default) i with chain := c }, encView { v2 (b.shards.getD i.toNat default) i 1 with chain := v }].getD k (encView { v1 (b.shards.getD i.toNat default) i with chain := c })) (IntKind.i64.wrap (i + 1)))
    else gMs (b.shards.getD i.toNat default).chain fun c => gMs (b.shards.getD i.toNat default).valid fun v => LP (envG kn68) N 0 F_keeper_Put snK 0 [] j (SK2 b (fun k => [encView { v1 (b.shards.getD i.toNat default) i with chain := c }, encView { v2 (b.shards.getD i.toNat default) i 0 with chain := v }].getD k (encView { v1 (b.shards.getD i.toNat default) i with chain := c })) (IntKind.i64.wrap (i + 1)))
  else gPMsg b.sess b.gen .nils := by kernel_rfl
/-- an append of two -/
def ap2 (n : Nat) (f : Nat → List AV) (x y : Md.View) : Nat → List AV := fun i => bif Nat.blt i n then f i else bif Nat.blt i (n + 2) then [encView x, encView y].getD (i - n) [] else f n
theorem kput_2 (N j : Nat) (b : Book) (f : Nat → List AV) (i : Int) : LP (envG kn68) N 0 F_keeper_Put snK 0 [] (j + 1) (SK2 b f i) =
  bif decide (i < (b.shards.length : Int)) then rg i b.shards.length <| bif (b.shards.getD i.toNat default).fresh then
      gMs (b.shards.getD i.toNat default).chain fun c => gMs (b.shards.getD i.toNat default).valid fun v => LP (envG kn68) N 0 F_keeper_Put snK 0 [] j (SK b 4 (ap2 2 f { v1 (b.shards.getD i.toNat default) i with chain := c } { v2 (b.shards.getD i.toNat default) i 1 with chain := v }) (IntKind.i64.wrap (i + 1)))
    else gMs (b.shards.getD i.toNat default).chain fun c => gMs (b.shards.getD i.toNat default).valid fun v => LP (envG kn68) N 0 F_keeper_Put snK 0 [] j (SK b 4 (ap2 2 f { v1 (b.shards.getD i.toNat default) i with chain := c } { v2 (b.shards.getD i.toNat default) i 0 with chain := v }) (IntKind.i64.wrap (i + 1)))
  else gPMsg b.sess b.gen (.tr 5 2 fun i => f i) := by kernel_rfl
def room2 {R : Type} (n : Nat) (k : Option R) : Option R := bif n.beq 0 || n.ble n then bif ((n + 2) * 56).ble 140737488355328 && (n + 2).ble 140737488355328 then k else none else none
theorem room2_eq {R : Type} {n : Nat} {k : Option R} (h : n ≤ 1000000) : room2 n k = k := by
  unfold room2
  rw [or_self, ble_true (by omega), ble_true (by omega)]; rfl
theorem kput_n (N j : Nat) (b : Book) (n : Nat) (f : Nat → List AV) (i : Int) : LP (envG kn68) N 0 F_keeper_Put snK 0 [] (j + 1) (SK b n f i) =
  bif decide (i < (b.shards.length : Int)) then rg i b.shards.length <| bif (b.shards.getD i.toNat default).fresh then
      gMs (b.shards.getD i.toNat default).chain fun c => gMs (b.shards.getD i.toNat default).valid fun v => room2 n <| LP (envG kn68) N 0 F_keeper_Put snK 0 [] j (SK b (n + 2) (ap2 n f { v1 (b.shards.getD i.toNat default) i with chain := c } { v2 (b.shards.getD i.toNat default) i 1 with chain := v }) (IntKind.i64.wrap (i + 1)))
    else gMs (b.shards.getD i.toNat default).chain fun c => gMs (b.shards.getD i.toNat default).valid fun v => room2 n <| LP (envG kn68) N 0 F_keeper_Put snK 0 [] j (SK b (n + 2) (ap2 n f { v1 (b.shards.getD i.toNat default) i with chain := c } { v2 (b.shards.getD i.toNat default) i 0 with chain := v }) (IntKind.i64.wrap (i + 1)))
  else bif (n.beq 0 || n.ble n) && true && true then gPMsg b.sess b.gen (.tr 5 n fun i => f i) else none := by kernel_rfl
theorem msgC_sub {e g : Int} {V : AV} {vs : List Md.View} (h : SubV V (encViews vs)) : SubC [.agg (msgC e g V)] (eBM ⟨e, g, vs⟩) :=
  .cons (.agg (subC_all (by repeat' (first | exact trivial | exact nilsL | exact h | exact SubV.refl _ | refine ⟨?_, ?_⟩)))) .nil
theorem gPMsg_eq {e g : Int} {V : AV} {vs : List Md.View} (hd : decL decView V = vs) (hs : SubV V (encViews vs)) (he : I64 e) (hg : I64 g) (hv : ViewsOk vs) : gPMsg e g V = some (encBy (msgB (mkM e g vs))) := by
  unfold gPMsg
  rw [gC_eq (⟨e, g, vs⟩ : BM) (by
    show (⟨e, g, decL decView V⟩ : BM) = _
    rw [hd]) ⟨he, hg, hv⟩ (msgC_sub hs)]
theorem gTr_fin (l : List Md.View) (h : l ≠ []) : decL decView (.tr 5 l.length fun i => canF encView default l i) = l ∧ SubV (.tr 5 l.length fun i => canF encView default l i) (encViews l) := by
  match l, h with
  | x :: r, _ => exact ⟨dec_gTr dec_encView (x :: r), gTr_sub (sz := 5) (e := encView) (z := default) (x :: r)⟩
theorem kput_con (b : Book) (h : BookOk b) : Contract PG F_keeper_Put [.agg (encBook b)] [] (encBy (putB b)) [] := by
  obtain ⟨h1, h2, h3, h4⟩ := h
  have hN : ∃ N, N = 5000 := ⟨_, rfl⟩
  obtain ⟨N, hN⟩ := hN
  refine conG kn68_ok (n := N + 1) ((kput_in N b).trans ?_)
  obtain ⟨hvl, hvk⟩ := vOf_ok b.shards 0 (by omega) h4
  have hvo : ViewsOk (vOf b.shards 0) := ⟨by omega, fun v hv => (hvk v hv).1⟩
  have run := two_loop (l := b.shards) (G := fun m vs i => LP (envG kn68) N 0 F_keeper_Put snK 0 [] m (SV b vs i)) (fin := fun vs => match vs with
      | [] => gPMsg b.sess b.gen .nils
      | l => gPMsg b.sess b.gen (.tr 5 l.length fun i => canF encView default l i)) (fun m vs hv => ?_) (fun m vs i hi hv => ?_) b.shards.length 0 N [] (by omega) (by omega) rfl
  · refine run.trans ?_
    rw [List.drop_zero, List.nil_append]
    revert hvo hvl
    unfold putB mOf
    generalize vOf b.shards 0 = vs
    intro hvl hvo
    cases vs with
    | nil => exact gPMsg_eq (vs := []) rfl nilsL h1 h2 hvo
    | cons x r => exact gPMsg_eq (gTr_fin (x :: r) (by simp)).1 (gTr_fin (x :: r) (by simp)).2 h1 h2 hvo
  · match vs, hv with
    | [], hv => show LP (envG kn68) N 0 F_keeper_Put snK 0 [] (m + 1) (SK0 b _) = _; rw [kput_0, decide_eq_false (by omega), cond_false]
    | [x], hv => simp at hv; omega
    | [x, y], hv => show LP (envG kn68) N 0 F_keeper_Put snK 0 [] (m + 1) (SK2 b _ _) = _; rw [kput_2, decide_eq_false (by omega), cond_false]; rfl
    | x :: y :: z :: r, hv =>
      show LP (envG kn68) N 0 F_keeper_Put snK 0 [] (m + 1) (SK b _ _ _) = _
      rw [kput_n, decide_eq_false (by omega), cond_false, or_self]; rfl
  · have hp := h4 _ (getD_mem hi (z := default))
    have hc : shortL (b.shards.getD i default).chain := by have := hp.2.2.2.2.2.1.1; unfold shortL LB; omega
    have hw : shortL (b.shards.getD i default).valid := by have := hp.2.2.2.2.2.2.1; unfold shortL LB; omega
    have e1 : IntKind.i64.wrap ((i : Int) + 1) = ((i + 1 : Nat) : Int) := wrapS (by omega)
    have ev1 : v1 (b.shards.getD i default) i = { v1 (b.shards.getD i default) i with chain := (b.shards.getD i default).chain } := rfl
    match vs, hv with
    | [], hv =>
      show LP (envG kn68) N 0 F_keeper_Put snK 0 [] (m + 1) (SK0 b _) = LP (envG kn68) N 0 F_keeper_Put snK 0 [] m (SK2 b (canF encView default [_, _]) _)
      rw [kput_0, decide_eq_true (by omega), cond_true, rg_eq hi, Int.toNat_natCast, gMs_eq hc, gMs_eq hw, gMs_eq hc, gMs_eq hw, e1, ← canF_two]
      unfold v2'
      cases (b.shards.getD i default).fresh <;> rfl
    | [x], hv => simp at hv; omega
    | [x, y], hv =>
      show LP (envG kn68) N 0 F_keeper_Put snK 0 [] (m + 1) (SK2 b _ _) = LP (envG kn68) N 0 F_keeper_Put snK 0 [] m (SK b 4 (canF encView default ([x, y] ++ [_, _])) _)
      rw [kput_2, decide_eq_true (by omega), cond_true, rg_eq hi, Int.toNat_natCast, gMs_eq hc, gMs_eq hw, gMs_eq hc, gMs_eq hw, e1, ← canF_app2 (by simp)]
      unfold v2'
      cases (b.shards.getD i default).fresh <;> rfl
    | x :: y :: z :: r, hv =>
      have el : (x :: y :: z :: r) ++ [v1 (b.shards.getD i default) i, v2' (b.shards.getD i default) i] = x :: y :: z :: (r ++ [v1 (b.shards.getD i default) i, v2' (b.shards.getD i default) i]) := rfl
      have en : (x :: y :: z :: (r ++ [v1 (b.shards.getD i default) i, v2' (b.shards.getD i default) i])).length = (x :: y :: z :: r).length + 2 := by simp
      rw [el]
      show LP (envG kn68) N 0 F_keeper_Put snK 0 [] (m + 1) (SK b _ _ _) = LP (envG kn68) N 0 F_keeper_Put snK 0 [] m (SK b (x :: y :: z :: (r ++ [v1 (b.shards.getD i default) i, v2' (b.shards.getD i default) i])).length (canF encView default (x :: y :: z :: (r ++ [_, _]))) _)
      rw [en, ← el, kput_n, decide_eq_true (by omega), cond_true, rg_eq hi, Int.toNat_natCast, gMs_eq hc, gMs_eq hw, gMs_eq hc, gMs_eq hw, e1, room2_eq (by simp at hv ⊢; omega), room2_eq (by simp at hv ⊢; omega), ← canF_app2 (by simp)]
      unfold v2'
      cases (b.shards.getD i default).fresh <;> rfl
def dBk (a : List AV) : Book := decBook (argC a 0)
def eBk (b : Book) : List AV := [.agg (encBook b)]
theorem qBk {R : Type} {b : Book} {k : Book → Option R} {P : Book → Prop} (h : P b) : gC dBk P eBk [.agg (encBook b)] k = k b := gC_eq b (dec_encBook b) h (.refl _)
noncomputable def kKPut : Known := .spec F_keeper_Put dBk BookOk eBk (fun b => encBy (putB b))
theorem kKPut_ok : kKPut.Ok PG := Known.spec_ok kput_con
end Go.Wk
end

section
/- A book's bytes, by the document. -/
open Go Go.AM Go.Md
namespace Go.Wk
set_option maxRecDepth 100000
set_option maxHeartbeats 400000
noncomputable def kn69 : List Known := [kMsg]
theorem kn69_ok : ∀ k ∈ kn69, k.Ok PG := ak kMsg_ok ank
def frR (i : Int) : Fr := [(1, .ptr 0 0 0), (3, .ptr 1 0 0), (4, .int .i64 i), (1002, .undef)]
def SR0 (b : Book) (i : Int) : St := { fr := frR i, hp := [.arr true 3 [encBook b], .arr true 31 [msgC b.sess b.gen .nils]] }
def SR2 (b : Book) (f : Nat → List AV) (i : Int) : St := { fr := frR i, hp := [.arr true 3 [encBook b], .arr true 31 [msgC b.sess b.gen (.sl 5 2 0 2 2)], .seq true 5 2 f] }
def SR (b : Book) (n : Nat) (f : Nat → List AV) (i : Int) : St := { fr := frR i, hp := [.arr true 3 [encBook b], .arr true 31 [msgC b.sess b.gen (.sl 5 2 0 n 0)], .seq true 5 n f] }
def SW (b : Book) : List Md.View → Int → St
  | [], i => SR0 b i
  | [x, y], i => SR2 b (canF encView default [x, y]) i
  | l, i => SR b l.length (canF encView default l) i
noncomputable def gRMsg (e g : Int) (V : AV) : Option AV := gC (fun a => decMsg (argC a 0)) MsgOk (fun l => [.agg (encMsg l)]) [.agg (msgC e g V)] fun y => bif (ne (msgB y)).length.ble (ne (msgB y)).length then some (encBy (ne (msgB y))) else none
theorem rput_in (N : Nat) (b : Book) : callT (envG kn69) (N + 1) F_lockgateref22_Put [.agg (encBook b)] = LP (envG kn69) N 0 F_lockgateref22_Put snK 0 [] N (SR0 b 0) := by kernel_rfl
theorem rput_0 (N j : Nat) (b : Book) (i : Int) : LP (envG kn69) N 0 F_lockgateref22_Put snK 0 [] (j + 1) (SR0 b i) =
  bif decide (i < (b.shards.length : Int)) then rg i b.shards.length <| bif (b.shards.getD i.toNat default).fresh then
      LP (envG kn69) N 0 F_lockgateref22_Put snK 0 [] j (SR2 b (fun k => [encView (v1 (b.shards.getD i.toNat default) i), encView (v2 (b.shards.getD i.toNat default) i 1)].getD k (encView (v1 (b.shards.getD i.toNat default) i))) (IntKind.i64.wrap (i + 1)))
    else LP (envG kn69) N 0 F_lockgateref22_Put snK 0 [] j (SR2 b (fun k => [encView (v1 (b.shards.getD i.toNat default) i), encView (v2 (b.shards.getD i.toNat default) i 0)].getD k (encView (v1 (b.shards.getD i.toNat default) i))) (IntKind.i64.wrap (i + 1)))
  else gRMsg b.sess b.gen .nils := by kernel_rfl
theorem rput_2 (N j : Nat) (b : Book) (f : Nat → List AV) (i : Int) : LP (envG kn69) N 0 F_lockgateref22_Put snK 0 [] (j + 1) (SR2 b f i) =
  bif decide (i < (b.shards.length : Int)) then rg i b.shards.length <| bif (b.shards.getD i.toNat default).fresh then
      LP (envG kn69) N 0 F_lockgateref22_Put snK 0 [] j (SR b 4 (ap2 2 f (v1 (b.shards.getD i.toNat default) i) (v2 (b.shards.getD i.toNat default) i 1)) (IntKind.i64.wrap (i + 1)))
    else LP (envG kn69) N 0 F_lockgateref22_Put snK 0 [] j (SR b 4 (ap2 2 f (v1 (b.shards.getD i.toNat default) i) (v2 (b.shards.getD i.toNat default) i 0)) (IntKind.i64.wrap (i + 1)))
  else gRMsg b.sess b.gen (.tr 5 2 fun i => f i) := by kernel_rfl
theorem rput_n (N j : Nat) (b : Book) (n : Nat) (f : Nat → List AV) (i : Int) : LP (envG kn69) N 0 F_lockgateref22_Put snK 0 [] (j + 1) (SR b n f i) =
  bif decide (i < (b.shards.length : Int)) then rg i b.shards.length <| bif (b.shards.getD i.toNat default).fresh then
      room2 n <| LP (envG kn69) N 0 F_lockgateref22_Put snK 0 [] j (SR b (n + 2) (ap2 n f (v1 (b.shards.getD i.toNat default) i) (v2 (b.shards.getD i.toNat default) i 1)) (IntKind.i64.wrap (i + 1)))
    else room2 n <| LP (envG kn69) N 0 F_lockgateref22_Put snK 0 [] j (SR b (n + 2) (ap2 n f (v1 (b.shards.getD i.toNat default) i) (v2 (b.shards.getD i.toNat default) i 0)) (IntKind.i64.wrap (i + 1)))
  else bif (n.beq 0 || n.ble n) && true && true then gRMsg b.sess b.gen (.tr 5 n fun i => f i) else none := by kernel_rfl
theorem vint0 : VInt ⟨0, 0⟩ := by
  have h : okI 0 := ⟨by decide +kernel, by decide +kernel, by decide +kernel⟩
  exact ⟨h, h⟩
theorem mkM_ok {e g : Int} {vs : List Md.View} (he : I64 e) (hg : I64 g) (hv : ViewsOk vs) : MsgOk (mkM e g vs) := by
  have i4 : I64 4 := by unfold I64; omega
  refine ⟨fun n hn => ?_, by simp [mkM], by simp [mkM], vint0, vint0, ⟨i0, by simp [mkM], by simp [mkM], by simp [mkM]⟩, ⟨by simp [mkM], fun e h => by cases h⟩, ⟨by simp [mkM], fun e h => by cases h⟩, hv, vint0, vint0, i0, ⟨by simp [mkM], fun e h => by cases h⟩, ⟨by simp [mkM], fun e h => by cases h⟩⟩
  simp only [msgN, mkM, List.mem_cons, List.not_mem_nil, or_false] at hn
  rcases hn with rfl | rfl | rfl | rfl | rfl | rfl | rfl | rfl | rfl | rfl | rfl | rfl <;> first | assumption | exact i0
theorem gRMsg_eq {e g : Int} {V : AV} {vs : List Md.View} (hd : decL decView V = vs) (hs : SubV V (encViews vs)) (he : I64 e) (hg : I64 g) (hv : ViewsOk vs) : gRMsg e g V = some (encBy (msgB (mkM e g vs))) := by
  unfold gRMsg
  rw [gC_eq (mkM e g vs) (by
    show (⟨_, _, _, _, _, _, _, _, _, _, _, _, _, _, _, _, _, _, _, _, _, decL decView V, _⟩ : Msg) = _
    rw [hd]; rfl) (mkM_ok he hg hv) (msgC_sub hs), ne_eq (msgB_ne _), ble_self, cond_true]
theorem rput_con (b : Book) (h : BookOk b) : Contract PG F_lockgateref22_Put [.agg (encBook b)] [] (encBy (putB b)) [] := by
  obtain ⟨h1, h2, h3, h4⟩ := h
  have hN : ∃ N, N = 5000 := ⟨_, rfl⟩
  obtain ⟨N, hN⟩ := hN
  refine conG kn69_ok (n := N + 1) ((rput_in N b).trans ?_)
  obtain ⟨hvl, hvk⟩ := vOf_ok b.shards 0 (by omega) h4
  have hvo : ViewsOk (vOf b.shards 0) := ⟨by omega, fun v hv => (hvk v hv).1⟩
  have run := two_loop (l := b.shards) (G := fun m vs i => LP (envG kn69) N 0 F_lockgateref22_Put snK 0 [] m (SW b vs i)) (fin := fun vs => match vs with
      | [] => gRMsg b.sess b.gen .nils
      | l => gRMsg b.sess b.gen (.tr 5 l.length fun i => canF encView default l i)) (fun m vs hv => ?_) (fun m vs i hi hv => ?_) b.shards.length 0 N [] (by omega) (by omega) rfl
  · refine run.trans ?_
    rw [List.drop_zero, List.nil_append]
    revert hvo hvl
    unfold putB mOf
    generalize vOf b.shards 0 = vs
    intro hvl hvo
    cases vs with
    | nil => exact gRMsg_eq (vs := []) rfl nilsL h1 h2 hvo
    | cons x r => exact gRMsg_eq (gTr_fin (x :: r) (by simp)).1 (gTr_fin (x :: r) (by simp)).2 h1 h2 hvo
  · match vs, hv with
    | [], hv => show LP (envG kn69) N 0 F_lockgateref22_Put snK 0 [] (m + 1) (SR0 b _) = _; rw [rput_0, decide_eq_false (by omega), cond_false]
    | [x], hv => simp at hv; omega
    | [x, y], hv => show LP (envG kn69) N 0 F_lockgateref22_Put snK 0 [] (m + 1) (SR2 b _ _) = _; rw [rput_2, decide_eq_false (by omega), cond_false]; rfl
    | x :: y :: z :: r, hv =>
      show LP (envG kn69) N 0 F_lockgateref22_Put snK 0 [] (m + 1) (SR b _ _ _) = _
      rw [rput_n, decide_eq_false (by omega), cond_false, or_self]; rfl
  · have e1 : IntKind.i64.wrap ((i : Int) + 1) = ((i + 1 : Nat) : Int) := wrapS (by omega)
    match vs, hv with
    | [], hv =>
      show LP (envG kn69) N 0 F_lockgateref22_Put snK 0 [] (m + 1) (SR0 b _) = LP (envG kn69) N 0 F_lockgateref22_Put snK 0 [] m (SR2 b (canF encView default [_, _]) _)
      rw [rput_0, decide_eq_true (by omega), cond_true, rg_eq hi, Int.toNat_natCast, e1, ← canF_two]
      unfold v2'
      cases (b.shards.getD i default).fresh <;> rfl
    | [x], hv => simp at hv; omega
    | [x, y], hv =>
      show LP (envG kn69) N 0 F_lockgateref22_Put snK 0 [] (m + 1) (SR2 b _ _) = LP (envG kn69) N 0 F_lockgateref22_Put snK 0 [] m (SR b 4 (canF encView default ([x, y] ++ [_, _])) _)
      rw [rput_2, decide_eq_true (by omega), cond_true, rg_eq hi, Int.toNat_natCast, e1, ← canF_app2 (by simp)]
      unfold v2'
      cases (b.shards.getD i default).fresh <;> rfl
    | x :: y :: z :: r, hv =>
      have el : (x :: y :: z :: r) ++ [v1 (b.shards.getD i default) i, v2' (b.shards.getD i default) i] = x :: y :: z :: (r ++ [v1 (b.shards.getD i default) i, v2' (b.shards.getD i default) i]) := rfl
      have en : (x :: y :: z :: (r ++ [v1 (b.shards.getD i default) i, v2' (b.shards.getD i default) i])).length = (x :: y :: z :: r).length + 2 := by simp
      rw [el]
      show LP (envG kn69) N 0 F_lockgateref22_Put snK 0 [] (m + 1) (SR b _ _ _) = LP (envG kn69) N 0 F_lockgateref22_Put snK 0 [] m (SR b (x :: y :: z :: (r ++ [v1 (b.shards.getD i default) i, v2' (b.shards.getD i default) i])).length (canF encView default (x :: y :: z :: (r ++ [_, _]))) _)
      rw [en, ← el, rput_n, decide_eq_true (by omega), cond_true, rg_eq hi, Int.toNat_natCast, e1, room2_eq (by simp at hv ⊢; omega), room2_eq (by simp at hv ⊢; omega), ← canF_app2 (by simp)]
      unfold v2'
      cases (b.shards.getD i default).fresh <;> rfl
noncomputable def kRPut : Known := .spec F_lockgateref22_Put dBk BookOk eBk (fun b => encBy (putB b))
theorem kRPut_ok : kRPut.Ok PG := Known.spec_ok rput_con
end Go.Wk
end

section
/- Bytes held against each other by the program. -/
open Go Go.AM Go.Md
namespace Go.Wk
set_option maxRecDepth 100000
set_option maxHeartbeats 400000
theorem beq_eq (a b : List Int) : callT env0 5 F_bytes_Equal [encBy a, encBy b] =
  onK (bytesOfL ((List.range a.length).map fun i => encB (a.getD i 0))) fun s => onK (bytesOfL ((List.range b.length).map fun i => encB (b.getD i 0))) fun t => some (.bool (strBeq s t)) := by kernel_rfl
theorem bytes_all (a : List Int) : bytesOfL ((List.range a.length).map fun i => encB (a.getD i 0)) = some (strP a) := by
  have e : ((List.range a.length).map fun i => encB (a.getD i 0)) = a.map encB := by
    refine List.ext_getElem (by simp) fun i h1 h2 => ?_
    have hi : i < a.length := by simpa using h1
    simp [List.getD, List.getElem?_eq_getElem hi]
  rw [e]
  unfold strP
  induction a with
  | nil => rfl
  | cons x c ih =>
    have e : ((List.range c.length).map fun i => encB (c.getD i 0)) = c.map encB := by
      refine List.ext_getElem (by simp) fun i h1 h2 => ?_
      have hi : i < c.length := by simpa using h1
      simp [List.getD, List.getElem?_eq_getElem hi]
    rw [List.map_cons, List.map_cons, bytesOfL, ih e]
    rfl
def ByL (l : List Int) : Prop := ∀ x ∈ l, 0 ≤ x ∧ x ≤ 255
theorem strBeq_strP : ∀ (a b : List Int), ByL a → ByL b → strBeq (strP a) (strP b) = decide (a = b)
  | [], [], _, _ => rfl
  | [], y :: b, _, _ => rfl
  | x :: a, [], _, _ => rfl
  | x :: a, y :: b, ha, hb => by
    have hx := ha x (by simp)
    have hy := hb y (by simp)
    have ih := strBeq_strP a b (fun z hz => ha z (by simp [hz])) (fun z hz => hb z (by simp [hz]))
    show (Nat.beq (UInt8.ofNat x.toNat).toNat (UInt8.ofNat y.toNat).toNat && strBeq (strP a) (strP b)) = _
    rw [ih]
    have e1 : (UInt8.ofNat x.toNat).toNat = x.toNat := by simp [UInt8.toNat_ofNat']; omega
    have e2 : (UInt8.ofNat y.toNat).toNat = y.toNat := by simp [UInt8.toNat_ofNat']; omega
    rw [e1, e2]
    by_cases h : x = y
    · subst h
      rw [AM.beq_true rfl, Bool.true_and]
      exact decide_eq_decide.2 (by simp)
    · rw [AM.beq_false (by omega), Bool.false_and, decide_eq_false (by simp [h])]
def p2B (p : List Int × List Int) : Prop := ByL p.1 ∧ ByL p.2
def d2B (a : List AV) : List Int × List Int := (decL decB (a.getD 0 .nils), decL decB (a.getD 1 .nils))
def e2B (p : List Int × List Int) : List AV := [encBy p.1, encBy p.2]
theorem beq_con (p : List Int × List Int) (h : p2B p) : Contract PG F_bytes_Equal (e2B p) [] (.bool (decide (p.1 = p.2))) [] := by
  obtain ⟨a, b⟩ := p
  refine con0 ((beq_eq a b).trans ?_)
  rw [bytes_all, bytes_all]
  show some (AV.bool (strBeq (strP a) (strP b))) = _
  rw [strBeq_strP a b h.1 h.2]
noncomputable def kBEq : Known := .spec F_bytes_Equal d2B p2B e2B (fun p => .bool (decide (p.1 = p.2)))
theorem kBEq_ok : kBEq.Ok PG := Known.spec_ok beq_con
theorem q2B {R : Type} {a b : List Int} {k : List Int × List Int → Option R} (ha : ByL a) (hb : ByL b) : gC d2B p2B e2B [encBy a, encBy b] k = k (a, b) :=
  gC_eq (a, b) (by show (decL decB (encBy a), decL decB (encBy b)) = (a, b); rw [decBy, decBy]) ⟨ha, hb⟩ (.refl _)
/-! ### what is put is bytes -/
theorem natB_pos : ∀ (k : Nat) (x : Int), 0 ≤ x → ByL (natB k x) := fun k x hx => by
  obtain ⟨n, rfl⟩ : ∃ n : Nat, x = n := ⟨x.toNat, by omega⟩
  exact natB_by k n
theorem intB_by (n : Int) : ByL (intB n) := natB_pos 11 _ (by unfold zig; split <;> omega)
theorem by_app {a b : List Int} (ha : ByL a) (hb : ByL b) : ByL (a ++ b) := fun x hx => (List.mem_append.1 hx).elim (ha x) (hb x)
theorem by_flat {X : Type} {p : X → List Int} {l : List X} (h : ∀ x, ByL (p x)) : ByL (l.flatMap p) := fun x hx => by
  obtain ⟨a, _, h2⟩ := List.mem_flatMap.1 hx
  exact h a x h2
theorem nums_by (l : List Int) : ByL (numsB l) := by_flat intB_by
theorem bit_by (b : Bool) : ByL [bitI b] := fun x hx => by
  rw [List.mem_singleton] at hx; subst hx; cases b <;> (unfold bitI; simp)
theorem mem_by (m : Member) : ByL (memB m) := nums_by _
theorem mems_by (l : List Member) : ByL (memsB l) := by_app (intB_by _) (by_flat mem_by)
theorem view_by (v : Md.View) : ByL (viewB v) := by_app (nums_by _) (mems_by _)
theorem views_by (l : List Md.View) : ByL (viewsB l) := by_app (intB_by _) (by_flat view_by)
theorem text0_by : ByL (textB []) := by_app (intB_by _) (fun x hx => by cases hx)
theorem ver0_by : ByL (verB ⟨0, 0⟩) := by rw [verB0]; exact by_app (intB_by _) (intB_by _)
theorem putB_by (b : Book) : ByL (putB b) := by
  unfold putB mOf mkM msgB opB imgB entsB memsB seensB
  simp only [List.flatten_cons, List.flatten_nil, List.flatMap_nil, List.append_nil]
  have hb : ByL [bitI false, bitI false] := fun x hx => bit_by false x (by simpa using hx)
  exact by_app (by_app (by_app (by_app (by_app (by_app (by_app (by_app (by_app (by_app (nums_by _) hb) text0_by) text0_by) ver0_by) ver0_by) (by_app (intB_by _) (by_app text0_by (by_app text0_by (by_app text0_by (bit_by _)))))) (intB_by _)) (intB_by _)) (views_by _)) (by_app (by_app (by_app (by_app ver0_by ver0_by) (intB_by _)) (intB_by _)) (intB_by _))
end Go.Wk
end

section
/- A book, read by the program. -/
open Go Go.AM Go.Md
namespace Go.Wk
set_option maxRecDepth 100000
set_option maxHeartbeats 400000
noncomputable def kn70 : List Known := [kGMsg, kCloneMember, kKPut, kBEq]
theorem kn70_ok : ∀ k ∈ kn70, k.Ok PG := ak kGMsg_ok (ak kCloneMember_ok (ak kKPut_ok (ak kBEq_ok ank)))
def bkC (e g : Int) (V : AV) : List AV := [.int .i64 e, .int .i64 g, V]
def frT (x : List Int) (i : Int) : Fr := [(0, encBy x), (4, .ptr 0 0 0), (6, .ptr 1 0 0), (8, .ptr 2 0 0), (9, .int .i64 i), (1003, .undef)]
def ST0 (x : List Int) (m : Msg) (i : Int) : St := { fr := frT x i, hp := [.arr true 3 [bkC 0 0 .nils], .arr true 31 [encMsg m], .arr true 3 [bkC m.sess m.gen .nils]] }
def ST1 (x : List Int) (m : Msg) (f : Nat → List AV) (i : Int) : St := { fr := frT x i, hp := [.arr true 3 [bkC 0 0 .nils], .arr true 31 [encMsg m], .arr true 3 [bkC m.sess m.gen (.sl 8 3 0 1 1)], .seq true 8 1 f] }
def STn (x : List Int) (m : Msg) (n : Nat) (f : Nat → List AV) (i : Int) : St := { fr := frT x i, hp := [.arr true 3 [bkC 0 0 .nils], .arr true 31 [encMsg m], .arr true 3 [bkC m.sess m.gen (.sl 8 3 0 n 0)], .seq true 8 n f] }
def zBk : AV := .tup [.agg (bkC 0 0 .nils), .bool false]
def tBk (p : Book × Bool) : AV := .tup [.agg (encBook p.1), .bool p.2]
noncomputable def endB (c : Bool) (e g : Int) (x : List Int) (V : AV) : Option AV := bif c then gC dBk BookOk eBk [.agg (bkC e g V)] fun y => gC d2B p2B e2B [encBy (putB y), encBy x] fun z => bif !decide (z.1 = z.2) then some zBk else bif c then some (.tup [.agg (bkC e g V), .bool true]) else none else none
theorem kget_in (N : Nat) (x : List Int) (n : Int) : callT (envG kn70) (N + 1) F_keeper_Get [encBy x, .int .i64 n] = gC (dL decB) BytesOk (fun b => [encBy b]) [encBy x] fun y =>
  bif !(gMsgF gIntP y).2 then some zBk else bif !decide (((gMsgF gIntP y).1.views.length : Int).tmod 2 = 0) then some zBk else bif !decide (IntKind.i64.wrap (((gMsgF gIntP y).1.views.length : Int).tdiv 2) = n) then some zBk
  else LP (envG kn70) N 0 F_keeper_Get snK 0 [] N (ST0 x (gMsgF gIntP y).1 0) := by kernel_rfl
/-- a plan of two views -/
def pl (v w : Md.View) : Plan := ⟨v.epoch, v.gen, v.phase, decide (w.phase = 1), w.epoch, w.gen, v.chain, w.chain⟩
def plc (v w : Md.View) (c d : List Member) : Plan := { pl v w with chain := c, valid := d }
theorem kget_0 (N j : Nat) (x : List Int) (m : Msg) (i : Int) : LP (envG kn70) N 0 F_keeper_Get snK 0 [] (j + 1) (ST0 x m i) =
  bif decide (i < (m.views.length : Int)) then rg i m.views.length <| rg (IntKind.i64.wrap (i + 1)) m.views.length <| gMs (m.views.getD i.toNat default).chain fun c => gMs (m.views.getD (IntKind.i64.wrap (i + 1)).toNat default).chain fun d =>
      LP (envG kn70) N 0 F_keeper_Get snK 0 [] j (ST1 x m (fun k => [encPlan (plc (m.views.getD i.toNat default) (m.views.getD (IntKind.i64.wrap (i + 1)).toNat default) c d)].getD k (encPlan (plc (m.views.getD i.toNat default) (m.views.getD (IntKind.i64.wrap (i + 1)).toNat default) c d))) (IntKind.i64.wrap (i + 2)))
  else endB true m.sess m.gen x .nils := by kernel_rfl
def ap1 (n : Nat) (f : Nat → List AV) (p : Plan) : Nat → List AV := fun i => bif Nat.blt i n then f i else bif Nat.blt i (n + 1) then [encPlan p].getD (i - n) [] else f n
theorem kget_1 (N j : Nat) (x : List Int) (m : Msg) (f : Nat → List AV) (i : Int) : LP (envG kn70) N 0 F_keeper_Get snK 0 [] (j + 1) (ST1 x m f i) =
  bif decide (i < (m.views.length : Int)) then rg i m.views.length <| rg (IntKind.i64.wrap (i + 1)) m.views.length <| gMs (m.views.getD i.toNat default).chain fun c => gMs (m.views.getD (IntKind.i64.wrap (i + 1)).toNat default).chain fun d =>
      LP (envG kn70) N 0 F_keeper_Get snK 0 [] j (STn x m 2 (ap1 1 f (plc (m.views.getD i.toNat default) (m.views.getD (IntKind.i64.wrap (i + 1)).toNat default) c d)) (IntKind.i64.wrap (i + 2)))
  else endB true m.sess m.gen x (.tr 8 1 fun i => f i) := by kernel_rfl
theorem kget_n (N j : Nat) (x : List Int) (m : Msg) (n : Nat) (f : Nat → List AV) (i : Int) : LP (envG kn70) N 0 F_keeper_Get snK 0 [] (j + 1) (STn x m n f i) =
  bif decide (i < (m.views.length : Int)) then rg i m.views.length <| rg (IntKind.i64.wrap (i + 1)) m.views.length <| gMs (m.views.getD i.toNat default).chain fun c => gMs (m.views.getD (IntKind.i64.wrap (i + 1)).toNat default).chain fun d =>
      room1 n 96 <| LP (envG kn70) N 0 F_keeper_Get snK 0 [] j (STn x m (n + 1) (ap1 n f (plc (m.views.getD i.toNat default) (m.views.getD (IntKind.i64.wrap (i + 1)).toNat default) c d)) (IntKind.i64.wrap (i + 2)))
  else endB ((n.beq 0 || n.ble n) && true && true) m.sess m.gen x (.tr 8 n fun i => f i) := by kernel_rfl
/-- a loop that goes up by two -/
theorem pair_loop {R : Type} {l : List Md.View} {G : Nat → List Plan → Int → Option R} {fin : List Plan → Option R} (hev : l.length % 2 = 0) (hend : ∀ m ps, 2 * ps.length = l.length → G (m + 1) ps (l.length : Int) = fin ps)
    (hstep : ∀ m ps (i : Nat), i + 1 < l.length → 2 * ps.length = i → G (m + 1) ps (i : Int) = G m (ps ++ [pl (l.getD i default) (l.getD (i + 1) default)]) ((i + 2 : Nat) : Int)) :
    ∀ (d i m : Nat) (ps : List Plan), i + 2 * d = l.length → d < m → 2 * ps.length = i → G m ps (i : Int) = fin (ps ++ pOf (l.drop i)) := by
  intro d
  induction d with
  | zero =>
    intro i m ps hi hm hv
    obtain ⟨m, rfl⟩ : ∃ k, m = k + 1 := ⟨m - 1, by omega⟩
    have : i = l.length := by omega
    subst this
    rw [hend m ps hv, List.drop_eq_nil_of_le (Nat.le_refl _)]; simp [pOf]
  | succ d ih =>
    intro i m ps hi hm hv
    obtain ⟨m, rfl⟩ : ∃ k, m = k + 1 := ⟨m - 1, by omega⟩
    rw [hstep m ps i (by omega) hv, ih (i + 2) m _ (by omega) (by omega) (by simp; omega), drop_cons (z := default) (by omega : i < l.length), drop_cons (z := default) (by omega : i + 1 < l.length)]
    show fin ((ps ++ [_]) ++ pOf (l.drop (i + 2))) = fin (ps ++ (pl (l.getD i default) (l.getD (i + 1) default) :: pOf (l.drop (i + 2))))
    rw [List.append_assoc]; rfl
def SX (x : List Int) (m : Msg) : List Plan → Int → St
  | [], i => ST0 x m i
  | [p], i => ST1 x m (canF encPlan default [p]) i
  | l, i => STn x m l.length (canF encPlan default l) i
theorem bkC_sub {e g : Int} {V : AV} {l : List Plan} (h : SubV V (encPlans l)) : SubV (.agg (bkC e g V)) (.agg (encBook ⟨e, g, l⟩)) := .agg (subC_all ⟨.refl _, .refl _, h, trivial⟩)
theorem zBk_sub : SubV zBk (tBk (⟨0, 0, []⟩, false)) := .tup (subC_all ⟨bkC_sub nilsL, .refl _, trivial⟩)
theorem endB_eq {e g : Int} {x : List Int} {V : AV} {l : List Plan} (hd : decL decPlan V = l) (hs : SubV V (encPlans l)) (hb : BookOk ⟨e, g, l⟩) (hx : ByL x) :
    ∃ v, endB true e g x V = some v ∧ SubV v (tBk (bif decide (putB ⟨e, g, l⟩ = x) then (⟨e, g, l⟩, true) else (⟨0, 0, []⟩, false))) := by
  unfold endB
  rw [cond_true, gC_eq (⟨e, g, l⟩ : Book) (by show (⟨e, g, decL decPlan V⟩ : Book) = _; rw [hd]) hb (.cons (bkC_sub hs) .nil), q2B (putB_by _) hx]
  simp only []
  cases hc : decide (putB ⟨e, g, l⟩ = x) with
  | true => exact ⟨_, rfl, .tup (subC_all ⟨bkC_sub hs, .refl _, trivial⟩)⟩
  | false => exact ⟨_, rfl, zBk_sub⟩
theorem gTr_pl (l : List Plan) (h : l ≠ []) : decL decPlan (.tr 8 l.length fun i => canF encPlan default l i) = l ∧ SubV (.tr 8 l.length fun i => canF encPlan default l i) (encPlans l) := by
  match l, h with
  | x :: r, _ => exact ⟨dec_gTr dec_encPlan (x :: r), gTr_sub (sz := 8) (e := encPlan) (z := default) (x :: r)⟩
abbrev BN := List Int × Int
def dBN (a : List AV) : BN := (decL decB (a.getD 0 .nils), getI a 1)
def eBN (p : BN) : List AV := [encBy p.1, .int .i64 p.2]
def pBN (p : BN) : Prop := BytesOk p.1
theorem kget_con (p : BN) (h : pBN p) : Contract PG F_keeper_Get (eBN p) [] (tBk (getB p.1 p.2)) [] := by
  obtain ⟨x, n⟩ := p
  have hx : BytesOk x := h
  have hN : ∃ N, N = 5000 := ⟨_, rfl⟩
  obtain ⟨N, hN⟩ := hN
  have key : ∃ v, callT (envG kn70) (N + 1) F_keeper_Get [encBy x, .int .i64 n] = some v ∧ SubV v (tBk (getB x n)) := by
    rw [kget_in, gC_eq x (decBy x) hx (.refl _)]
    unfold getB fitM
    cases h1 : (gMsgF gIntP x).2 with
    | false => exact ⟨_, rfl, zBk_sub⟩
    | true =>
      have hk := msgF_k h1
      have hbk := bOf_ok hk
      revert hk hbk
      generalize (gMsgF gIntP x).1 = m
      intro hk hbk
      have hl := hk.2.2.1
      have hv : ∀ i, i < m.views.length → shortL (m.views.getD i default).chain := fun i hi => by
        have := (hk.2.2.2 _ (getD_mem hi (z := default))).2
        unfold shortL LB; omega
      simp only [Bool.not_true, cond_false, Bool.true_and]
      by_cases h2 : m.views.length % 2 = 0
      · have e2 : ((m.views.length : Int).tmod 2 = 0) := by rw [Int.tmod_eq_emod_of_nonneg (by omega)]; omega
        have e3 : IntKind.i64.wrap ((m.views.length : Int).tdiv 2) = ((m.views.length / 2 : Nat) : Int) := by
          rw [Int.tdiv_eq_ediv_of_nonneg (by omega), wrap64 (by omega)]; rfl
        rw [decide_eq_true e2, decide_eq_true h2, e3, Bool.true_and, Bool.not_true, cond_false]
        by_cases h3 : ((m.views.length / 2 : Nat) : Int) = n
        · rw [decide_eq_true h3, cond_true, Bool.not_true, cond_false]
          have run := pair_loop (l := m.views) (G := fun j ps i => LP (envG kn70) N 0 F_keeper_Get snK 0 [] j (SX x m ps i)) (fin := fun ps => match ps with
            | [] => endB true m.sess m.gen x .nils
            | l => endB true m.sess m.gen x (.tr 8 l.length fun i => canF encPlan default l i)) h2 (fun j ps hp => ?_) (fun j ps i hi hp => ?_) (m.views.length / 2) 0 N [] (by omega) (by omega) rfl
          · have run' : LP (envG kn70) N 0 F_keeper_Get snK 0 [] N (ST0 x m 0) = _ := run
            rw [run', List.drop_zero, List.nil_append]
            show ∃ v, _ = some v ∧ SubV v (tBk (bif decide (putB ⟨m.sess, m.gen, pOf m.views⟩ = x) then (⟨m.sess, m.gen, pOf m.views⟩, true) else (⟨0, 0, []⟩, false)))
            have hbk' : BookOk ⟨m.sess, m.gen, pOf m.views⟩ := hbk
            revert hbk'
            generalize pOf m.views = ps
            intro hbk'
            cases ps with
            | nil => exact endB_eq (l := []) rfl nilsL hbk' hx.2
            | cons p r => exact endB_eq (gTr_pl (p :: r) (by simp)).1 (gTr_pl (p :: r) (by simp)).2 hbk' hx.2
          · match ps, hp with
            | [], hp => show LP (envG kn70) N 0 F_keeper_Get snK 0 [] (j + 1) (ST0 x m _) = _; rw [kget_0, decide_eq_false (by omega), cond_false]
            | [p], hp => show LP (envG kn70) N 0 F_keeper_Get snK 0 [] (j + 1) (ST1 x m _ _) = _; rw [kget_1, decide_eq_false (by omega), cond_false]; rfl
            | p :: q :: r, hp =>
              show LP (envG kn70) N 0 F_keeper_Get snK 0 [] (j + 1) (STn x m _ _ _) = _
              rw [kget_n, decide_eq_false (by omega), cond_false, or_self]; rfl
          · have e4 : IntKind.i64.wrap ((i : Int) + 1) = ((i + 1 : Nat) : Int) := wrapS (by omega)
            have e5 : IntKind.i64.wrap ((i : Int) + 2) = ((i + 2 : Nat) : Int) := by rw [wrap64 (by omega)]; rfl
            match ps, hp with
            | [], hp =>
              show LP (envG kn70) N 0 F_keeper_Get snK 0 [] (j + 1) (ST0 x m _) = LP (envG kn70) N 0 F_keeper_Get snK 0 [] j (ST1 x m (canF encPlan default [_]) _)
              rw [kget_0, decide_eq_true (by omega), cond_true, rg_eq (by omega), e4, rg_eq hi, Int.toNat_natCast, Int.toNat_natCast, gMs_eq (hv i (by omega)), gMs_eq (hv _ hi), e5, canF_oneS]
              rfl
            | [p], hp =>
              show LP (envG kn70) N 0 F_keeper_Get snK 0 [] (j + 1) (ST1 x m _ _) = LP (envG kn70) N 0 F_keeper_Get snK 0 [] j (STn x m 2 (canF encPlan default [p, _]) _)
              rw [kget_1, decide_eq_true (by omega), cond_true, rg_eq (by omega), e4, rg_eq hi, Int.toNat_natCast, Int.toNat_natCast, gMs_eq (hv i (by omega)), gMs_eq (hv _ hi), e5, ← canF_app1]
              rfl
            | p :: q :: r, hp =>
              have el : (p :: q :: r) ++ [pl (m.views.getD i default) (m.views.getD (i + 1) default)] = p :: q :: (r ++ [pl (m.views.getD i default) (m.views.getD (i + 1) default)]) := rfl
              have en : (p :: q :: (r ++ [pl (m.views.getD i default) (m.views.getD (i + 1) default)])).length = (p :: q :: r).length + 1 := by simp
              rw [el]
              show LP (envG kn70) N 0 F_keeper_Get snK 0 [] (j + 1) (STn x m _ _ _) = LP (envG kn70) N 0 F_keeper_Get snK 0 [] j (STn x m (p :: q :: (r ++ [pl (m.views.getD i default) (m.views.getD (i + 1) default)])).length (canF encPlan default (p :: q :: (r ++ [_]))) _)
              rw [en, ← el, kget_n, decide_eq_true (by omega), cond_true, rg_eq (by omega), e4, rg_eq hi, Int.toNat_natCast, Int.toNat_natCast, gMs_eq (hv i (by omega)), gMs_eq (hv _ hi), e5, room1_eq (by omega) (by simp at hp ⊢; omega), ← canF_app (by simp)]
              rfl
        · rw [decide_eq_false h3]; exact ⟨_, rfl, zBk_sub⟩
      · have e2 : ¬ ((m.views.length : Int).tmod 2 = 0) := by rw [Int.tmod_eq_emod_of_nonneg (by omega)]; omega
        rw [decide_eq_false e2, decide_eq_false h2, Bool.false_and]; exact ⟨_, rfl, zBk_sub⟩
  obtain ⟨v, h1, h2⟩ := key
  exact (conG kn70_ok h1).res h2
noncomputable def kKGet : Known := .spec F_keeper_Get dBN pBN eBN (fun p => tBk (getB p.1 p.2))
theorem kKGet_ok : kKGet.Ok PG := Known.spec_ok kget_con
end Go.Wk
end

section
/- Books held against themselves; little books. -/
open Go Go.AM Go.Md
namespace Go.Wk
set_option maxRecDepth 100000
set_option maxHeartbeats 400000
def SSm (a : List Member) (i : Int) : St := { fr := [(0, encMembers a), (1, encMembers a), (5, .int .i64 i)], hp := [] }
theorem same16_in (N : Nat) (a : List Member) : callT env0 (N + 1) F_lockgateref16_Same [encMembers a, encMembers a] = bif !decide ((a.length : Int) = (a.length : Int)) then some (.bool false) else LP env0 N 0 F_lockgateref16_Same snK 0 [] N (SSm a 0) := by kernel_rfl
def eqMem (x : Member) : Bool := decide (x.node = x.node) && (decide (x.boot = x.boot) && true)
theorem same16_step (N : Nat) (a : List Member) (m : Nat) (i : Int) : LP env0 N 0 F_lockgateref16_Same snK 0 [] (m + 1) (SSm a i) =
    bif decide (i < (a.length : Int)) then bif decide (0 ≤ i) && decide (i < (a.length : Int)) then bif decide (0 ≤ i) && decide (i < (a.length : Int)) then
      bif !(eqMem (a.getD i.toNat default)) then some (.bool false) else LP env0 N 0 F_lockgateref16_Same snK 0 [] m (SSm a (IntKind.i64.wrap (i + 1))) else none else none else some (.bool true) := by kernel_rfl
theorem same16_con (a : List Member) (h : a.length ≤ LB) : Contract PG F_lockgateref16_Same [encMembers a, encMembers a] [] (.bool true) [] := by
  refine con0 ((same16_in (a.length + 1) a).trans ?_)
  rw [decide_eq_true rfl]
  exact scan_loop (G := fun m i => LP env0 (a.length + 1) 0 F_lockgateref16_Same snK 0 [] m (SSm a i)) (C := fun i => eqMem (a.getD i default)) h (same16_step _ a) (fun i hi => by simp [eqMem]) (by omega)
def eMM (l : List Member) : List AV := [encMembers l, encMembers l]
noncomputable def kSame16 : Known := .spec F_lockgateref16_Same (dL decMember) shortL eMM (fun _ => .bool true)
theorem kSame16_ok : kSame16.Ok PG := Known.spec_ok same16_con
noncomputable def gMM {R : Type} (l : List Member) (k : List Member → Option R) : Option R := gC (dL decMember) shortL eMM [encMembers l, encMembers l] k
theorem gMM_eq {R : Type} {l : List Member} {k : List Member → Option R} (h : shortL l) : gMM l k = k l := gC_eq l (decMembers l) h (.refl _)
/-! ### books -/
noncomputable def env67 : Env := envO [kSame16]
def SBs (b : Book) (i : Int) : St := { fr := [(2, .ptr 0 0 0), (3, .ptr 1 0 0), (5, .int .i64 i)], hp := [.arr true 3 [encBook b], .arr true 3 [encBook b]] }
theorem sb_in (N : Nat) (b : Book) : callT env67 (N + 1) F_lockgateref21_SameBook [.agg (encBook b), .agg (encBook b)] =
  bif !decide (b.sess = b.sess) then some (.bool false) else bif !decide (b.gen = b.gen) then some (.bool false) else bif !decide ((b.shards.length : Int) = (b.shards.length : Int)) then some (.bool false) else LP env67 N 0 F_lockgateref21_SameBook snK 0 [] N (SBs b 0) := by kernel_rfl
theorem sb_st (N j : Nat) (b : Book) (i : Int) : LP env67 N 0 F_lockgateref21_SameBook snK 0 [] (j + 1) (SBs b i) =
  bif decide (i < (b.shards.length : Int)) then rg i b.shards.length <| rg i b.shards.length <|
    bif !decide ((b.shards.getD i.toNat default).epoch = (b.shards.getD i.toNat default).epoch) then some (.bool false) else bif !decide ((b.shards.getD i.toNat default).gen = (b.shards.getD i.toNat default).gen) then some (.bool false) else
    bif !decide ((b.shards.getD i.toNat default).phase = (b.shards.getD i.toNat default).phase) then some (.bool false) else bif !bif (b.shards.getD i.toNat default).fresh then (b.shards.getD i.toNat default).fresh else !(b.shards.getD i.toNat default).fresh then some (.bool false) else
    bif !decide ((b.shards.getD i.toNat default).base = (b.shards.getD i.toNat default).base) then some (.bool false) else bif !decide ((b.shards.getD i.toNat default).reset = (b.shards.getD i.toNat default).reset) then some (.bool false) else
    gMM (b.shards.getD i.toNat default).chain fun _ => gMM (b.shards.getD i.toNat default).valid fun _ => LP env67 N 0 F_lockgateref21_SameBook snK 0 [] j (SBs b (IntKind.i64.wrap (i + 1)))
  else some (.bool true) := by kernel_rfl
def BookS (b : Book) : Prop := b.shards.length ≤ 2048 ∧ ∀ p ∈ b.shards, shortL p.chain ∧ shortL p.valid
theorem BookOk.s {b : Book} (h : BookOk b) : BookS b := ⟨h.2.2.1, fun p hp => by
  obtain ⟨_, _, _, _, _, h6, h7⟩ := h.2.2.2 p hp
  have := h6.1
  have := h7.1
  unfold shortL LB
  exact ⟨by omega, by omega⟩⟩
theorem sb_con (b : Book) (h : BookS b) : Contract PG F_lockgateref21_SameBook [.agg (encBook b), .agg (encBook b)] [] (.bool true) [] := by
  have hl := h.1
  have hN : ∃ N, N = 5000 := ⟨_, rfl⟩
  obtain ⟨N, hN⟩ := hN
  refine con_of (md := fun _ => none) (ak kSame16_ok ank) (n := N + 1) ((sb_in N b).trans ?_)
  simp only [decide_true, Bool.not_true, cond_false]
  refine up_loop (n := b.shards.length) (fun i m => LP env67 N 0 F_lockgateref21_SameBook snK 0 [] m (SBs b (i : Nat)) = some (.bool true)) (fun m => ?_) (fun i m hi ih => ?_) 0 N (Nat.zero_le _) (by omega)
  · rw [sb_st, decide_eq_false (by omega), cond_false]
  · obtain ⟨h1, h2⟩ := h.2 _ (getD_mem hi (z := default))
    rw [sb_st, decide_eq_true (by omega), cond_true, rg_eq hi, rg_eq hi, Int.toNat_natCast]
    simp only [decide_true, Bool.not_true, cond_false, cond_self]
    rw [gMM_eq h1, gMM_eq h2, wrapS (by omega)]
    exact ih
def eBB (b : Book) : List AV := [.agg (encBook b), .agg (encBook b)]
noncomputable def kSBk : Known := .spec F_lockgateref21_SameBook dBk BookS eBB (fun _ => .bool true)
theorem kSBk_ok : kSBk.Ok PG := Known.spec_ok sb_con
/-! ### little books -/
def SLi0 (b : Book) (i : Int) : St := { fr := [(1, .ptr 0 0 0), (3, .int .i64 i)], hp := [.arr true 3 [encBook b]] }
theorem li_in (N : Nat) (b : Book) : callT env0 (N + 1) F_lockgateref22_Little [.agg (encBook b)] = bif decide (10 < (b.shards.length : Int)) then some (.bool false) else LP env0 N 0 F_lockgateref22_Little snK 0 [] N (SLi0 b 0) := by kernel_rfl
theorem li_st (N j : Nat) (b : Book) (i : Int) : LP env0 N 0 F_lockgateref22_Little snK 0 [] (j + 1) (SLi0 b i) =
  bif decide (i < (b.shards.length : Int)) then rg i b.shards.length <| bif decide (16 < ((b.shards.getD i.toNat default).chain.length : Int)) then some (.bool false) else
    rg i b.shards.length <| bif decide (16 < ((b.shards.getD i.toNat default).valid.length : Int)) then some (.bool false) else LP env0 N 0 F_lockgateref22_Little snK 0 [] j (SLi0 b (IntKind.i64.wrap (i + 1)))
  else some (.bool true) := by kernel_rfl
def litP (p : Plan) : Bool := decide (p.chain.length ≤ 16) && decide (p.valid.length ≤ 16)
def litB (b : Book) : Bool := decide (b.shards.length ≤ 10) && b.shards.all litP
theorem li_con (b : Book) (_ : True) : Contract PG F_lockgateref22_Little [.agg (encBook b)] [] (.bool (litB b)) [] := by
  refine con0 (n := 13) ((li_in 12 b).trans ?_)
  unfold litB
  by_cases h : b.shards.length ≤ 10
  · rw [decide_eq_false (by omega), cond_false, decide_eq_true h, Bool.true_and]
    have run : ∀ d i m, i + d = b.shards.length → d < m → LP env0 12 0 F_lockgateref22_Little snK 0 [] m (SLi0 b (i : Nat)) = some (.bool ((b.shards.drop i).all litP)) := by
      intro d
      induction d with
      | zero =>
        intro i m hi hm
        obtain ⟨m, rfl⟩ : ∃ k, m = k + 1 := ⟨m - 1, by omega⟩
        rw [li_st, decide_eq_false (by omega), cond_false, List.drop_eq_nil_of_le (by omega)]; rfl
      | succ d ih =>
        intro i m hi hm
        obtain ⟨m, rfl⟩ : ∃ k, m = k + 1 := ⟨m - 1, by omega⟩
        have hil : i < b.shards.length := by omega
        rw [li_st, decide_eq_true (by omega), cond_true, rg_eq hil, rg_eq hil, Int.toNat_natCast, wrapS (by omega), ih (i + 1) m (by omega) (by omega), drop_cons (z := default) hil, List.all_cons]
        unfold litP
        by_cases h1 : (b.shards.getD i default).chain.length ≤ 16
        · by_cases h2 : (b.shards.getD i default).valid.length ≤ 16
          · rw [decide_eq_false (by omega), decide_eq_false (by omega), decide_eq_true h1, decide_eq_true h2]; rfl
          · rw [decide_eq_false (by omega), decide_eq_true (by omega), decide_eq_true h1, decide_eq_false h2]; rfl
        · rw [decide_eq_true (by omega), decide_eq_false h1]; rfl
    have := run b.shards.length 0 12 (by omega) (by omega)
    rw [List.drop_zero] at this
    exact this
  · rw [decide_eq_true (by omega), cond_true, decide_eq_false h, Bool.false_and]
noncomputable def kLit : Known := .spec F_lockgateref22_Little dBk (fun _ => True) eBk (fun b => .bool (litB b))
theorem kLit_ok : kLit.Ok PG := Known.spec_ok li_con
end Go.Wk
end

section
/- Keeper: awake. -/
open Go Go.AM Go.Md
namespace Go.Wk
set_option maxRecDepth 100000
set_option maxHeartbeats 0
theorem awakeK_eq : callT env0 400 F_lockgatelaw22_awake [] = some (.bool true) := by kernel_rfl
theorem awakeK_con : Contract PG F_lockgatelaw22_awake [] [] (.bool true) [] := con0 awakeK_eq
noncomputable def kAwakeK : Known := .spec (X := Unit) F_lockgatelaw22_awake (fun _ => ()) (fun _ => True) (fun _ => []) (fun _ => .bool true)
theorem kAwakeK_ok : kAwakeK.Ok PG := Known.spec_ok fun _ _ => awakeK_con
end Go.Wk
end

section
/- The laws KeeperGets, KeeperBooks. -/
open Go Go.AM Go.Md
namespace Go.Wk
set_option maxRecDepth 100000
set_option maxHeartbeats 400000
noncomputable def kn71 : List Known := [kAwakeK, kKPut, kKGet, kRPut, kSame03, kSBk, kLit]
theorem kn71_ok : ∀ k ∈ kn71, k.Ok PG := ak kAwakeK_ok (ak kKPut_ok (ak kKGet_ok (ak kRPut_ok (ak kSame03_ok (ak kSBk_ok (ak kLit_ok ank))))))
theorem con71 {n f : Nat} {xs : List AV} {r : AV} (e : callT (envO kn71) n f xs = some r) : Contract PG f xs [] r [] := con_of (md := fun _ => none) kn71_ok e
noncomputable def gAw {R : Type} (k : Unit → Option R) : Option R := gC (fun _ => ()) (fun _ => True) (fun _ => []) [] k
theorem gAw_eq {R : Type} {k : Unit → Option R} : gAw k = k () := gC_eq () rfl trivial .nil
theorem qBN {R : Type} {x : List Int} {n : Int} {A : AV} {k : BN → Option R} (hd : decL decB A = x) (hs : SubV A (encBy x)) (h : BytesOk x) : gC dBN pBN eBN [A, .int .i64 n] k = k (x, n) :=
  gC_eq (x, n) (by show (decL decB A, n) = (x, n); rw [hd]) h (.cons hs (.cons (.refl _) .nil))
theorem qS03 {R : Type} {x : List Int} {k : List Int → Option R} (h : x.length ≤ 1000000000) : gC (dL decB) (fun a => a.length ≤ 1000000000) (fun l => [encBy l, encBy l]) [encBy x, encBy x] k = k x := gC_eq x (decBy x) h (.refl _)
/-! ### KeeperGets -/
theorem gets_eq (x : List Int) (s : Int) : callT (envO kn71) 9 F_lockgatelaw22_KeeperGets [encBy x, .int .u8 s] = gAw fun _ =>
  bif decide (3000 < (x.length : Int)) then gAw fun _ => some (.bool true) else gC dBN pBN eBN [encBy x, .int .i64 (IntKind.i64.wrap (s.tmod 5))] fun y =>
    bif !(getB y.1 y.2).2 then gC dBk BookS eBB [.agg (encBook (getB y.1 y.2).1), .agg [.int .i64 0, .int .i64 0, .nils]] fun _ => some (.bool true) else
    bif decide (((getB y.1 y.2).1.shards.length : Int) = IntKind.i64.wrap (s.tmod 5)) then gC dBk BookOk eBk [.agg (encBook (getB y.1 y.2).1)] fun z =>
      gC (dL decB) (fun a => a.length ≤ 1000000000) (fun l => [encBy l, encBy l]) [encBy (putB z), encBy x] fun _ => some (.bool true)
    else some (.bool false) := by kernel_rfl
theorem gets_law {x : List Int} {s : Int} (hb : ByL x) : Contract PG F_lockgatelaw22_KeeperGets [encBy x, .int .u8 s] [] (.bool true) [] := by
  refine con71 ((gets_eq x s).trans ?_)
  rw [gAw_eq]
  by_cases h : x.length ≤ 3000
  · rw [decide_eq_false (by omega), cond_false, qBN (decBy x) (.refl _) ⟨by omega, hb⟩]
    try simp only []
    cases hg : (getB x (IntKind.i64.wrap (s.tmod 5))).2 with
    | false =>
      rw [Bool.not_false, cond_true, getB_false hg]
      exact gC_eq (⟨0, 0, []⟩ : Book) rfl ⟨by simp, fun p hp => by cases hp⟩ (.cons (.refl _) (.cons (.agg (subC_all ⟨.refl _, .refl _, nilsL, trivial⟩)) .nil))
    | true =>
      obtain ⟨h1, h2, h3⟩ := getB_true hg
      rw [Bool.not_true, cond_false, decide_eq_true h2, cond_true, qBk h3]
      try simp only []
      rw [h1, qS03 (by omega)]
  · rw [decide_eq_true (by omega), cond_true, gAw_eq]
/-! ### KeeperBooks -/
theorem books_eq (b : Book) : callT (envO kn71) 9 F_lockgatelaw22_KeeperBooks [.agg (encBook b)] = gAw fun _ => gC dBk (fun _ => True) eBk [.agg (encBook b)] fun y1 =>
  bif !litB y1 then gAw fun _ => some (.bool true) else gC dBk BookOk eBk [.agg (encBook b)] fun y3 => gC dBN pBN eBN [encBy (putB y3), .int .i64 (b.shards.length : Int)] fun y4 =>
    gC dBN pBN eBN [encBy (putB y3), .int .i64 (IntKind.i64.wrap ((b.shards.length : Int) + 1))] fun y5 =>
    bif decide (0 ≤ IntKind.i64.wrap (((putB y3).length : Int) - 1)) && decide (IntKind.i64.wrap (((putB y3).length : Int) - 1) ≤ ((putB y3).length : Int)) then
      gC dBN pBN eBN [.tr 1 (IntKind.i64.wrap (((putB y3).length : Int) - 1)).toNat fun i => bif i.blt (IntKind.i64.wrap (((putB y3).length : Int) - 1)).toNat then encB ((putB y3).getD (0 + i) 0) else encB ((putB y3).getD (putB y3).length 0), .int .i64 (b.shards.length : Int)] fun y6 =>
      gC dBk BookOk eBk [.agg (encBook b)] fun y7 => gC (dL decB) (fun a => a.length ≤ 1000000000) (fun l => [encBy l, encBy l]) [encBy (putB y3), encBy (putB y7)] fun _ =>
      bif (getB y4.1 y4.2).2 then gC dBk BookS eBB [.agg (encBook b), .agg (encBook (getB y4.1 y4.2).1)] fun _ => bif !(getB y5.1 y5.2).2 then some (.bool !(getB y6.1 y6.2).2) else some (.bool false)
      else some (.bool false)
    else none := by kernel_rfl
theorem memsB_lit {l : List Member} (h : MemsOk l) (h16 : l.length ≤ 16) : (memsB l).length ≤ 400 := by have := memsB_len h; omega
theorem viewB_lit {v : Md.View} (h : ViewOk v) (h16 : v.chain.length ≤ 16) : (viewB v).length ≤ 500 := by
  have h1 := numsB_len [v.shard, v.epoch, v.gen, v.phase]
  have h2 := memsB_lit h.2.2.2.2 h16
  simp only [List.length_cons, List.length_nil] at h1
  simp only [viewB, List.length_append]; omega
theorem flat_lit {X : Type} {p : X → List Int} {c : Nat} : ∀ (l : List X), (∀ x ∈ l, (p x).length ≤ c) → (l.flatMap p).length ≤ c * l.length
  | [], _ => by simp
  | x :: r, h => by
    have := flat_lit r (fun y hy => h y (by simp [hy]))
    have h0 := h x (by simp)
    rw [List.flatMap_cons, List.length_append, List.length_cons, Nat.mul_succ]; omega
theorem vOf_lit : ∀ (l : List Plan) (i : Nat), (∀ p ∈ l, litP p = true) → ∀ v ∈ vOf l i, v.chain.length ≤ 16
  | [], _, _, v, h => by cases h
  | p :: r, i, h, v, hv => by
    have hp := h p (by simp)
    unfold litP at hp
    rw [Bool.and_eq_true] at hp
    simp only [vOf, List.mem_cons] at hv
    rcases hv with rfl | rfl | hv
    · exact of_decide_eq_true hp.1
    · exact of_decide_eq_true hp.2
    · exact vOf_lit r (i + 1) (fun q hq => h q (by simp [hq])) v hv
theorem putB_len {b : Book} (h : BookOk b) (hl : litB b = true) : (putB b).length ≤ 50000 := by
  unfold litB at hl
  rw [Bool.and_eq_true] at hl
  have h10 := of_decide_eq_true hl.1
  have hall := List.all_eq_true.1 hl.2
  obtain ⟨g1, g2⟩ := vOf_ok b.shards 0 (by omega) h.2.2.2
  have hv := flat_lit (c := 500) (p := viewB) (vOf b.shards 0) fun v hv => viewB_lit (g2 v hv).1 (vOf_lit _ _ hall v hv)
  have a0 := numsB_len (msgN (mOf b))
  have a1 := intB_len 0
  have a2 := intB_len ((vOf b.shards 0).length : Int)
  have t0 : (textB []).length ≤ 11 := textB_len []
  have v0 : (verB ⟨0, 0⟩).length ≤ 22 := verB_len _
  have a0' : (msgN (mOf b)).length = 12 := rfl
  unfold putB msgB opB imgB entsB memsB seensB viewsB
  simp only [mOf, mkM, List.flatten_cons, List.flatten_nil, List.flatMap_nil, List.append_nil, List.length_append, List.length_cons, List.length_nil, Int.natCast_zero] at a0 a0' hv ⊢
  have : (500 * (vOf b.shards 0).length) ≤ 10000 := by rw [g1]; omega
  have z0 : (intB ((0 : Nat) : Int)).length ≤ 11 := intB_len _
  have b0 : ∀ x : Bool, [bitI x].length = 1 := fun _ => rfl
  simp only [Int.natCast_zero] at z0
  omega
theorem lit_last {x : List Int} (h : x ≠ []) : ∃ a, x = x.take (x.length - 1) ++ [a] := by
  refine ⟨x.getLast h, ?_⟩
  have := List.dropLast_concat_getLast h
  rw [List.dropLast_eq_take] at this
  exact this.symm
theorem cut_sub {x y : List Int} {a : Int} (h : x = y ++ [a]) : decL decB (.tr 1 (x.length - 1) fun i => bif i.blt (x.length - 1) then encB (x.getD (0 + i) 0) else encB (x.getD x.length 0)) = y ∧
    SubV (.tr 1 (x.length - 1) fun i => bif i.blt (x.length - 1) then encB (x.getD (0 + i) 0) else encB (x.getD x.length 0)) (encBy y) := by
  have hl : x.length - 1 = y.length := by rw [h]; simp
  have hg : ∀ i, i < y.length → x.getD i 0 = y.getD i 0 := fun i hi => by rw [h]; simp [List.getD, List.getElem?_append_left hi]
  rw [hl]
  refine ⟨?_, .trs fun i hi => by rw [blt_true hi, cond_true, Nat.zero_add, hg i hi]; exact .refl _⟩
  show (List.range y.length).map _ = y
  refine List.ext_getElem (by simp) fun i h1 h2 => ?_
  rw [List.getElem_map, List.getElem_range]
  show decB (bif i.blt y.length then encB (x.getD (0 + i) 0) else encB (x.getD x.length 0)) = y[i]
  rw [blt_true h2, cond_true, Nat.zero_add, hg i h2]
  show y.getD i 0 = y[i]
  simp [List.getD, List.getElem?_eq_getElem h2]
theorem books_end {b : Book} {x y : List Int} {a : Int} (hk : BookOk b) (hlen : x.length ≤ 50000) (hx : ByL x) (ha : x = y ++ [a]) (h1 : getB x b.shards.length = (b, true)) (h2 : (getB x (b.shards.length + 1)).2 = false) (h3 : (getB y b.shards.length).2 = false) {A : List AV} (hA : SubC A (eBB b)) (hA2 : dBk A = b)
    (k7 : (List Int → Option AV) → Option AV) (hk7 : ∀ k, k7 k = k x) :
    (gC dBN pBN eBN [encBy x, .int .i64 (b.shards.length : Int)] fun y4 =>
    gC dBN pBN eBN [encBy x, .int .i64 (IntKind.i64.wrap ((b.shards.length : Int) + 1))] fun y5 =>
    bif decide (0 ≤ IntKind.i64.wrap ((x.length : Int) - 1)) && decide (IntKind.i64.wrap ((x.length : Int) - 1) ≤ (x.length : Int)) then
      gC dBN pBN eBN [.tr 1 (IntKind.i64.wrap ((x.length : Int) - 1)).toNat fun i => bif i.blt (IntKind.i64.wrap ((x.length : Int) - 1)).toNat then encB (x.getD (0 + i) 0) else encB (x.getD x.length 0), .int .i64 (b.shards.length : Int)] fun y6 =>
      k7 fun z => gC (dL decB) (fun a => a.length ≤ 1000000000) (fun l => [encBy l, encBy l]) [encBy x, encBy z] fun _ =>
      bif (getB y4.1 y4.2).2 then gC dBk BookS eBB [.agg (encBook b), .agg (encBook (getB y4.1 y4.2).1)] fun _ => bif !(getB y5.1 y5.2).2 then some (.bool !(getB y6.1 y6.2).2) else some (.bool false)
      else some (.bool false)
    else none) = some (.bool true) := by
  have hsl := hk.2.2.1
  have hbo : BytesOk x := ⟨by omega, hx⟩
  have hxl : x.length = y.length + 1 := by rw [ha]; simp
  have e1 : IntKind.i64.wrap ((b.shards.length : Int) + 1) = ((b.shards.length : Int) + 1) := wrap64 (by omega)
  have e2 : IntKind.i64.wrap ((x.length : Int) - 1) = ((x.length - 1 : Nat) : Int) := by rw [wrap64 (by omega)]; omega
  obtain ⟨hd, hs⟩ := cut_sub ha
  rw [qBN (decBy _) (.refl _) hbo, qBN (decBy _) (.refl _) hbo, e1, e2, decide_eq_true (by omega), decide_eq_true (by omega), Bool.and_true, cond_true, Int.toNat_natCast, qBN hd hs ⟨by omega, fun z hz => hx z (by rw [ha]; simp [hz])⟩, hk7, qS03 (by omega)]
  simp only [h1, h2, h3, cond_true, Bool.not_false]
  exact gC_eq b (dec_encBook b) hk.s (.refl _)
theorem books_law {b : Book} (hb : litB b = true → BookOk b) : Contract PG F_lockgatelaw22_KeeperBooks [.agg (encBook b)] [] (.bool true) [] := by
  refine con71 ((books_eq b).trans ?_)
  rw [gAw_eq, qBk trivial]
  cases hl : litB b with
  | false => rw [Bool.not_false, cond_true, gAw_eq]
  | true =>
    have hk := hb hl
    obtain ⟨a, ha⟩ := lit_last (x := putB b) (msgB_ne _)
    rw [Bool.not_true, cond_false, qBk hk]
    exact books_end hk (putB_len hk hl) (putB_by b) ha (getB_putB hk) (getB_more hk) (getB_cut hk ha) (A := eBB b) (.refl _) (dec_encBook b) (fun k => gC dBk BookOk eBk [.agg (encBook b)] fun y7 => k (putB y7)) (fun k => qBk hk)
/-! ### what the arguments are -/
def ShapeTs (S : TypeId → List AV → Prop) : List TypeId → List AV → Prop
  | [], cs => cs = []
  | t :: r, cs => ∃ a b, cs = a ++ b ∧ S t a ∧ ShapeTs S r b
theorem fs_ts {S : TypeId → List AV → Prop} : ∀ {l : List Field} {cs : List AV}, ShapeFs S l cs → ShapeTs S (l.map (·.type)) cs
  | [], _, h => h
  | f :: r, _, ⟨a, b, h1, h2, h3⟩ => ⟨a, b, h1, h2, fs_ts h3⟩
def sFs : Option TypeDesc → Option (List TypeId)
  | some (.struct fs) => some (fs.toList.map (·.type))
  | _ => none
theorem shape_s {n : Nat} {t : TypeId} {ts : List TypeId} {cs : List AV} (hu : sFs (PG.underlying t) = some ts) (h : Shape PG (n + 1) t cs) : ShapeTs (Shape PG n) ts cs := by
  unfold Shape at h
  unfold sFs at hu
  split at hu
  · rename_i fs e
    rw [e] at h
    injection hu with hu
    rw [← hu]
    exact fs_ts h
  · cases hu
theorem shape_i {n : Nat} {cs : List AV} (h : Shape PG (n + 1) 3 cs) : ∃ i, cs = [.int .i64 i] ∧ I64 i := by
  have hu : PG.underlying 3 = some (.int .i64) := by kernel_rfl
  unfold Shape at h
  rw [hu] at h
  obtain ⟨i, h1, h2, h3⟩ := h
  have e1 : IntKind.i64.min = -9223372036854775808 := by decide
  have e2 : IntKind.i64.max = 9223372036854775807 := by decide
  rw [e1] at h2; rw [e2] at h3
  exact ⟨i, h1, h2, h3⟩
theorem shape_b {n : Nat} {cs : List AV} (h : Shape PG (n + 1) 4 cs) : ∃ b, cs = [.bool b] := by
  have hu : PG.underlying 4 = some .bool := by kernel_rfl
  unfold Shape at h
  rw [hu] at h
  exact h
/-- elements are chosen -/
theorem pick_list {X : Type} {z : X} {e : X → List AV} {Q : X → Prop} {m : Nat} {f : Nat → List AV} (h : ∀ i, i < m → ∃ x, SubC (f i) (e x) ∧ Q x) : ∃ l : List X, l.length = m ∧ (∀ i, i < m → SubC (f i) (e (l.getD i z))) ∧ ∀ x ∈ l, Q x := by
  induction m with
  | zero => exact ⟨[], rfl, fun i hi => by omega, fun x hx => by cases hx⟩
  | succ m ih =>
    obtain ⟨l, h1, h2, h3⟩ := ih fun i hi => h i (by omega)
    obtain ⟨x, hx, hq⟩ := h m (by omega)
    refine ⟨l ++ [x], by simp [h1], fun i hi => ?_, fun y hy => ?_⟩
    · by_cases hm : i < m
      · have : (l ++ [x]).getD i z = l.getD i z := by simp [List.getD, List.getElem?_append_left (by omega : i < l.length)]
        rw [this]; exact h2 i hm
      · have : i = m := by omega
        subst this
        have : (l ++ [x]).getD i z = x := by subst h1; simp [List.getD]
        rw [this]; exact hx
    · rcases List.mem_append.1 hy with hy | hy
      · exact h3 y hy
      · rw [List.mem_singleton] at hy; subst hy; exact hq
theorem shape_l {X : Type} {n sz : Nat} {t e : TypeId} {E : X → List AV} {z : X} {Q : X → Prop} {cs : List AV} (hu : PG.underlying t = some (.slice e)) (hc : PG.cellsOf e = sz) (hx : ∀ c, Shape PG n e c → ∃ x, SubC c (E x) ∧ Q x) (h : Shape PG (n + 1) t cs) :
    ∃ (c : AV) (l : List X), cs = [c] ∧ SubV c (encL sz E z l) ∧ ∀ x ∈ l, Q x := by
  obtain ⟨c, m, f, rfl, h1, h2, h3⟩ := Shape.list hu h
  obtain ⟨l, g1, g2, g3⟩ := pick_list (z := z) fun i hi => hx _ (h3 i hi)
  refine ⟨c, l, rfl, h1.trans ?_, g3⟩
  rw [hc]
  subst g1
  exact .trs g2
theorem shape_mem {n : Nat} {cs : List AV} (h : Shape PG (n + 2) 72 cs) : ∃ m : Member, SubC cs (encMember m) ∧ MemOk m := by
  obtain ⟨a, b, rfl, ha, c, d, rfl, hc, rfl⟩ := shape_s (ts := [3, 3]) (by kernel_rfl) h
  obtain ⟨i, rfl, hi⟩ := shape_i ha
  obtain ⟨j, rfl, hj⟩ := shape_i hc
  exact ⟨⟨i, j⟩, .refl _, hi, hj⟩
theorem shape_mems {n : Nat} {cs : List AV} (h : Shape PG (n + 3) 49 cs) : ∃ (c : AV) (l : List Member), cs = [c] ∧ SubV c (encMembers l) ∧ ∀ x ∈ l, MemOk x :=
  shape_l (by kernel_rfl) (by kernel_rfl) (fun _ h => shape_mem h) h
def PlanI (p : Plan) : Prop := I64 p.epoch ∧ I64 p.gen ∧ I64 p.phase ∧ I64 p.base ∧ I64 p.reset ∧ (∀ m ∈ p.chain, MemOk m) ∧ (∀ m ∈ p.valid, MemOk m)
theorem shape_plan {n : Nat} {cs : List AV} (h : Shape PG (n + 4) 70 cs) : ∃ p : Plan, SubC cs (encPlan p) ∧ PlanI p := by
  obtain ⟨c1, d1, rfl, h1, c2, d2, rfl, h2, c3, d3, rfl, h3, c4, d4, rfl, h4, c5, d5, rfl, h5, c6, d6, rfl, h6, c7, d7, rfl, h7, c8, d8, rfl, h8, rfl⟩ := shape_s (ts := [3, 3, 3, 4, 3, 3, 49, 49]) (by kernel_rfl) h
  obtain ⟨i1, rfl, g1⟩ := shape_i h1
  obtain ⟨i2, rfl, g2⟩ := shape_i h2
  obtain ⟨i3, rfl, g3⟩ := shape_i h3
  obtain ⟨b, rfl⟩ := shape_b h4
  obtain ⟨i5, rfl, g5⟩ := shape_i h5
  obtain ⟨i6, rfl, g6⟩ := shape_i h6
  obtain ⟨a7, l7, rfl, s7, g7⟩ := shape_mems h7
  obtain ⟨a8, l8, rfl, s8, g8⟩ := shape_mems h8
  exact ⟨⟨i1, i2, i3, b, i5, i6, l7, l8⟩, subC_all ⟨.refl _, .refl _, .refl _, .refl _, .refl _, .refl _, s7, s8, trivial⟩, g1, g2, g3, g5, g6, g7, g8⟩
theorem shape_plans {n : Nat} {cs : List AV} (h : Shape PG (n + 5) 22 cs) : ∃ (c : AV) (l : List Plan), cs = [c] ∧ SubV c (encPlans l) ∧ ∀ x ∈ l, PlanI x :=
  shape_l (by kernel_rfl) (by kernel_rfl) (fun _ h => shape_plan h) h
theorem books_ok : LawC PG 9 F_lockgatelaw22_KeeperBooks [24] := by
  intro avs h
  obtain ⟨av, r, hs, rfl, rfl⟩ := h
  obtain ⟨c1, d1, rfl, h1, c2, d2, rfl, h2, c3, d3, rfl, h3, rfl⟩ := shape_s (n := 8) (ts := [3, 3, 22]) (by kernel_rfl) hs
  obtain ⟨i1, rfl, g1⟩ := shape_i (n := 7) h1
  obtain ⟨i2, rfl, g2⟩ := shape_i (n := 7) h2
  obtain ⟨a3, l3, rfl, s3, g3⟩ := shape_plans (n := 3) h3
  have ea : argOf PG 24 ([.int .i64 i1] ++ ([.int .i64 i2] ++ ([a3] ++ []))) = .agg [.int .i64 i1, .int .i64 i2, a3] := by
    unfold argOf
    have hu : sFs (PG.underlying 24) = some [3, 3, 22] := by kernel_rfl
    unfold sFs at hu
    split at hu
    · rename_i fs e
      rw [e]; rfl
    · cases hu
  rw [ea]
  refine (books_law (b := ⟨i1, i2, l3⟩) fun hl => ?_).args (.cons (.agg (subC_all ⟨.refl _, .refl _, s3, trivial⟩)) .nil)
  unfold litB at hl
  rw [Bool.and_eq_true] at hl
  have h10 := of_decide_eq_true hl.1
  have hall := List.all_eq_true.1 hl.2
  refine ⟨g1, g2, by simp only at h10 ⊢; omega, fun p hp => ?_⟩
  obtain ⟨k1, k2, k3, k5, k6, k7, k8⟩ := g3 p hp
  have hlp := hall p hp
  unfold litP at hlp
  rw [Bool.and_eq_true] at hlp
  have q1 := of_decide_eq_true hlp.1
  have q2 := of_decide_eq_true hlp.2
  exact ⟨k1, k2, k3, k5, k6, ⟨by omega, k7⟩, ⟨by omega, k8⟩⟩
theorem gets_ok : LawC PG 9 F_lockgatelaw22_KeeperGets [27, 5] := by
  intro avs h
  obtain ⟨av, r, hs, rfl, av2, r2, hs2, rfl, rfl⟩ := h
  have u5 : PG.underlying 5 = some (.int .u8) := by kernel_rfl
  have u27 : PG.underlying 27 = some (.slice 5) := by kernel_rfl
  obtain ⟨c, m, g, rfl, b1, b2, b3⟩ := Shape.nums u27 u5 (by kernel_rfl) hs
  obtain ⟨a1, a2⟩ := Shape.num u5 hs2
  have e1 : argOf PG 5 av2 = .int .u8 (getI av2 0) := by unfold argOf; rw [u5, a1]; rfl
  have e2 : argOf PG 27 [c] = c := by unfold argOf; rw [u27]; rfl
  rw [e1, e2]
  have hb : IntKind.u8.min = 0 ∧ IntKind.u8.max = 255 := by decide
  rw [hb.1, hb.2] at b3
  refine (gets_law (x := (List.range m).map g) (s := getI av2 0) fun x hx => ?_).args (.cons (b1.trans ?_) (.cons (.refl _) .nil))
  · obtain ⟨i, hi, rfl⟩ := List.mem_map.1 hx
    exact b3 i (List.mem_range.1 hi)
  · have el : ((List.range m).map g).length = m := by simp
    unfold encBy encL
    rw [el]
    refine .trs fun i hi => ?_
    have : ((List.range m).map g).getD i 0 = g i := by simp [List.getD, List.getElem?_map, List.getElem?_range hi]
    rw [this]; exact .refl _
end Go.Wk
end
