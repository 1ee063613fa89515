/- Part 4 of the texts that the proof needs: the abstract machine, plain laws, contracts of the program's functions. No statement is claimed here. -/
import Derived.Test.YtiplgpondmehiaaGreatPart3
set_option linter.unusedVariables false
set_option linter.unusedSimpArgs false
section
/- Lists held against themselves; a number's bytes. -/
open Go Go.AM Go.Md
namespace Go.Wk
set_option maxRecDepth 100000
set_option maxHeartbeats 1000000

/-- a loop that goes up -/
theorem up_loop {n : Nat} (P : Nat → Nat → Prop) (h0 : ∀ m, P n (m + 1)) (hs : ∀ i m, i < n → P (i + 1) m → P i (m + 1)) : ∀ i m, i ≤ n → n - i < m → P i m := by
  intro i m hi hm
  obtain ⟨d, hd⟩ : ∃ d, n - i = d := ⟨_, rfl⟩
  induction d generalizing i m with
  | zero =>
    have : i = n := by omega
    subst this
    obtain ⟨m, rfl⟩ : ∃ k, m = k + 1 := ⟨m - 1, by omega⟩
    exact h0 m
  | succ d ih =>
    obtain ⟨m, rfl⟩ : ∃ k, m = k + 1 := ⟨m - 1, by omega⟩
    exact hs i m (by omega) (ih (i + 1) m (by omega) (by omega) (by omega))

/-- a loop that holds two lists against each other -/
theorem scan_loop {n : Nat} (hn : n ≤ LB) {G : Nat → Int → Option AV} {C : Nat → Bool}
    (hs : ∀ m (i : Int), G (m + 1) i = bif decide (i < (n : Int)) then bif decide (0 ≤ i) && decide (i < (n : Int)) then bif decide (0 ≤ i) && decide (i < (n : Int)) then
      bif !(C i.toNat) then some (.bool false) else G m (IntKind.i64.wrap (i + 1)) else none else none else some (.bool true))
    (hC : ∀ i, i < n → C i = true) {m : Nat} (hm : n < m) : G m 0 = some (.bool true) := by
  unfold LB at hn
  refine up_loop (n := n) (fun i m => G m (i : Int) = some (.bool true)) (fun m => ?_) (fun i m hi ih => ?_) 0 m (Nat.zero_le _) (by omega)
  · rw [hs, dec_nat, decide_eq_false (by omega), cond_false]
  · rw [hs, dec_nat, decide_eq_true hi, dec_nonneg]
    simp only [cond_true, Bool.and_true, Int.toNat_natCast, hC i hi, Bool.not_true, cond_false]
    rw [wrapS (by omega)]; exact ih

theorem strBeq_self : ∀ s : List UInt8, strBeq s s = true
  | [] => rfl
  | a :: s => by simp [strBeq, strBeq_self s]
theorem cond_self (b : Bool) : (bif b then b else !b) = true := by cases b <;> rfl

def SSm (a : List Member) (i : Int) : St := { fr := [(0, encMembers a), (1, encMembers a), (5, .int .i64 i)], hp := [] }
def SSs (a : List Seen) (i : Int) : St := { fr := [(0, encSeens a), (1, encSeens a), (5, .int .i64 i)], hp := [] }
def SSe (a : List Entry) (i : Int) : St := { fr := [(0, encEntrys a), (1, encEntrys a), (5, .int .i64 i)], hp := [] }
theorem same16_in (N : Nat) (a : List Member) : callT env0 (N + 1) F_lockgateref16_Same [encMembers a, encMembers a] = bif !decide ((a.length : Int) = (a.length : Int)) then some (.bool false) else LP env0 N 0 F_lockgateref16_Same snK 0 [] N (SSm a 0) := by kernel_rfl
theorem same14_in (N : Nat) (a : List Seen) : callT env0 (N + 1) F_lockgateref14_Same [encSeens a, encSeens a] = bif !decide ((a.length : Int) = (a.length : Int)) then some (.bool false) else LP env0 N 0 F_lockgateref14_Same snK 0 [] N (SSs a 0) := by kernel_rfl
theorem same05_in (N : Nat) (a : List Entry) : callT env0 (N + 1) F_lockgateref05_SameAll [encEntrys a, encEntrys a] = bif !decide ((a.length : Int) = (a.length : Int)) then some (.bool false) else LP env0 N 0 F_lockgateref05_SameAll snK 0 [] N (SSe a 0) := by kernel_rfl

def eqMem (x : Member) : Bool := decide (x.node = x.node) && (decide (x.boot = x.boot) && true)
def eqSeen (x : Seen) : Bool := decide (x.sess = x.sess) && (decide (x.num = x.num) && (fEq .f64 x.ver.re x.ver.re && fEq .f64 x.ver.im x.ver.im && (decide (x.kind = x.kind) && (decide (x.code = x.code) && (strBeq x.res x.res && ((bif x.hasRes then x.hasRes else !x.hasRes) && true))))))
def eqEntry (x : Entry) : Bool := fEq .f64 x.ver.re x.ver.re && fEq .f64 x.ver.im x.ver.im && (decide (x.kind = x.kind) && (strBeq x.key x.key && (strBeq x.val x.val && ((bif x.write then x.write else !x.write) && ((bif x.del then x.del else !x.del) && (decide (x.sess = x.sess) && (decide (x.num = x.num) && (decide (x.code = x.code) && (strBeq x.res x.res && ((bif x.hasRes then x.hasRes else !x.hasRes) && true))))))))))
theorem same16_step (N : Nat) (a : List Member) (m : Nat) (i : Int) : LP env0 N 0 F_lockgateref16_Same snK 0 [] (m + 1) (SSm a i) =
    bif decide (i < (a.length : Int)) then bif decide (0 ≤ i) && decide (i < (a.length : Int)) then bif decide (0 ≤ i) && decide (i < (a.length : Int)) then
      bif !(eqMem (a.getD i.toNat default)) then some (.bool false) else LP env0 N 0 F_lockgateref16_Same snK 0 [] m (SSm a (IntKind.i64.wrap (i + 1))) else none else none else some (.bool true) := by kernel_rfl
theorem same14_step (N : Nat) (a : List Seen) (m : Nat) (i : Int) : LP env0 N 0 F_lockgateref14_Same snK 0 [] (m + 1) (SSs a i) =
    bif decide (i < (a.length : Int)) then bif decide (0 ≤ i) && decide (i < (a.length : Int)) then bif decide (0 ≤ i) && decide (i < (a.length : Int)) then
      bif !(eqSeen (a.getD i.toNat default)) then some (.bool false) else LP env0 N 0 F_lockgateref14_Same snK 0 [] m (SSs a (IntKind.i64.wrap (i + 1))) else none else none else some (.bool true) := by kernel_rfl
theorem same05_step (N : Nat) (a : List Entry) (m : Nat) (i : Int) : LP env0 N 0 F_lockgateref05_SameAll snK 0 [] (m + 1) (SSe a i) =
    bif decide (i < (a.length : Int)) then bif decide (0 ≤ i) && decide (i < (a.length : Int)) then bif decide (0 ≤ i) && decide (i < (a.length : Int)) then
      bif !(eqEntry (a.getD i.toNat default)) then some (.bool false) else LP env0 N 0 F_lockgateref05_SameAll snK 0 [] m (SSe a (IntKind.i64.wrap (i + 1))) else none else none else some (.bool true) := by kernel_rfl

theorem getD_mem {X : Type} {l : List X} {i : Nat} {z : X} (h : i < l.length) : l.getD i z ∈ l := by
  simp [List.getD, List.getElem?_eq_getElem h]

theorem same16_con (a : List Member) (h : a.length ≤ LB) : Contract PG F_lockgateref16_Same [encMembers a, encMembers a] [] (.bool true) [] := by
  refine con0 ((same16_in (a.length + 1) a).trans ?_)
  rw [decide_eq_true rfl]
  exact scan_loop (G := fun m i => LP env0 (a.length + 1) 0 F_lockgateref16_Same snK 0 [] m (SSm a i)) (C := fun i => eqMem (a.getD i default)) h (same16_step _ a) (fun i hi => by simp [eqMem]) (by omega)
theorem same14_con (a : List Seen) (h : a.length ≤ LB ∧ ∀ x ∈ a, VOk x.ver) : Contract PG F_lockgateref14_Same [encSeens a, encSeens a] [] (.bool true) [] := by
  refine con0 ((same14_in (a.length + 1) a).trans ?_)
  rw [decide_eq_true rfl]
  exact scan_loop (G := fun m i => LP env0 (a.length + 1) 0 F_lockgateref14_Same snK 0 [] m (SSs a i)) (C := fun i => eqSeen (a.getD i default)) h.1 (same14_step _ a) (fun i hi => by
    obtain ⟨h1, h2⟩ := h.2 _ (getD_mem hi (z := default))
    simp only [eqSeen, h1, h2, decide_true, strBeq_self, cond_self, Bool.and_true]) (by omega)
theorem same05_con (a : List Entry) (h : a.length ≤ LB ∧ ∀ x ∈ a, VOk x.ver) : Contract PG F_lockgateref05_SameAll [encEntrys a, encEntrys a] [] (.bool true) [] := by
  refine con0 ((same05_in (a.length + 1) a).trans ?_)
  rw [decide_eq_true rfl]
  exact scan_loop (G := fun m i => LP env0 (a.length + 1) 0 F_lockgateref05_SameAll snK 0 [] m (SSe a i)) (C := fun i => eqEntry (a.getD i default)) h.1 (same05_step _ a) (fun i hi => by
    obtain ⟨h1, h2⟩ := h.2 _ (getD_mem hi (z := default))
    simp only [eqEntry, h1, h2, decide_true, strBeq_self, cond_self, Bool.and_true]) (by omega)

noncomputable def kSame16 : Known := .spec F_lockgateref16_Same (dL decMember) shortL (fun l => [encMembers l, encMembers l]) (fun _ => .bool true)
noncomputable def kSame14 : Known := .spec F_lockgateref14_Same (dL decSeen) (fun a => a.length ≤ LB ∧ ∀ x ∈ a, VOk x.ver) (fun l => [encSeens l, encSeens l]) (fun _ => .bool true)
noncomputable def kSame05 : Known := .spec F_lockgateref05_SameAll (dL decEntry) (fun a => a.length ≤ LB ∧ ∀ x ∈ a, VOk x.ver) (fun l => [encEntrys l, encEntrys l]) (fun _ => .bool true)
theorem kSame16_ok : kSame16.Ok PG := Known.spec_ok same16_con
theorem kSame14_ok : kSame14.Ok PG := Known.spec_ok same14_con
theorem kSame05_ok : kSame05.Ok PG := Known.spec_ok same05_con
end Go.Wk
end

section
/- A number's bytes. -/
open Go Go.AM Go.Md
namespace Go.Wk
set_option maxRecDepth 100000
set_option maxHeartbeats 1000000

def encB (b : Int) : List AV := [.int .u8 b]
def decB (cs : List AV) : Int := getI cs 0
/-- bytes -/
def encBy (l : List Int) : AV := encL 1 encB 0 l

/-- a whole number's groups of seven bits -/
def natB : Nat → Int → List Int
  | 0, _ => []
  | k + 1, x => if 127 < x then (128 + x % 128) :: natB k (x / 128) else [x]
def zig (n : Int) : Int := if n < 0 then 2 * (-(n + 1)) + 1 else 2 * n
def intB (n : Int) : List Int := natB 11 (zig n)

def SInt (x : Int) (acc : List (List AV)) : St := { fr := [(3, .int .u64 x), (4, .sl 1 0 0 acc.length acc.length)], hp := [.arr true 1 acc] }
/-- the loop, told level by level -/
def natK (z : Int → List (List AV) → Option (AV × Heap)) : Nat → Int → List (List AV) → Option (AV × Heap)
  | 0, x, acc => z x acc
  | k + 1, x, acc => bif decide (127 < x) then natK z k (IntKind.u64.wrap (x.tdiv 128)) (acc ++ [encB (IntKind.u8.wrap (IntKind.u64.wrap (128 + x.tmod 128)))])
    else some (.sl 1 0 0 (acc ++ [encB (IntKind.u8.wrap x)]).length (acc ++ [encB (IntKind.u8.wrap x)]).length, [.arr true 1 (acc ++ [encB (IntKind.u8.wrap x)])])

theorem int_in (N : Nat) (n : Int) : callH env0 (N + 12) F_lockgateref03_Int [.int .i64 n] [] =
    bif decide (n < 0) then natK (fun x acc => LP env0 (N + 11) 0 F_lockgateref03_Int (hnK 0) 0 [] N (SInt x acc)) 11 (IntKind.u64.wrap (IntKind.u64.wrap (2 * IntKind.u64.wrap (IntKind.i64.wrap (0 - IntKind.i64.wrap (n + 1)))) + 1)) []
    else natK (fun x acc => LP env0 (N + 11) 0 F_lockgateref03_Int (hnK 0) 0 [] N (SInt x acc)) 11 (IntKind.u64.wrap (2 * IntKind.u64.wrap n)) [] := by kernel_rfl

theorem wrapu64 {x : Int} (h : 0 ≤ x ∧ x ≤ 18446744073709551615) : IntKind.u64.wrap x = x := by
  simp [IntKind.wrap, IntKind.signed, IntKind.bits]; omega

theorem natK_eq {z : Int → List (List AV) → Option (AV × Heap)} : ∀ (k : Nat) (x : Int) (acc : List (List AV)), 0 ≤ x → x ≤ 18446744073709551615 → x < 128 ^ k → (0 < x ∨ 0 < k) → natK z k x acc = some (.sl 1 0 0 (acc ++ (natB k x).map encB).length (acc ++ (natB k x).map encB).length, [.arr true 1 (acc ++ (natB k x).map encB)])
  | 0, x, acc, h0, _, h, h2 => by simp at h; omega
  | k + 1, x, acc, h0, h1, h, _ => by
    unfold natK natB
    by_cases hx : 127 < x
    · rw [decide_eq_true hx, cond_true, if_pos hx]
      have e1 : IntKind.u64.wrap (x.tdiv 128) = x / 128 := by rw [Int.tdiv_eq_ediv_of_nonneg h0, wrapu64 (by omega)]
      have e2 : IntKind.u8.wrap (IntKind.u64.wrap (128 + x.tmod 128)) = 128 + x % 128 := by rw [Int.tmod_eq_emod_of_nonneg h0, wrapu64 (by omega), wrapu8 (by omega)]
      rw [e1, e2, natK_eq k (x / 128) _ (by omega) (by omega) (by rw [Int.pow_succ] at h; omega) (.inl (by omega))]
      simp
    · rw [decide_eq_false hx, cond_false, if_neg hx, wrapu8 (by omega)]
      simp

theorem natB_ne : ∀ (k : Nat) (x : Int), natB (k + 1) x ≠ [] := by
  intro k x
  unfold natB
  split <;> simp
theorem natB_len : ∀ (k : Nat) (x : Int), (natB k x).length ≤ k
  | 0, x => by simp [natB]
  | k + 1, x => by
    unfold natB
    split
    · have := natB_len k (x / 128)
      simp; omega
    · simp


theorem wneg (n : Int) (h : I64 n) (hn : n < 0) : IntKind.u64.wrap (IntKind.u64.wrap (2 * IntKind.u64.wrap (IntKind.i64.wrap (0 - IntKind.i64.wrap (n + 1)))) + 1) = 2 * (-(n + 1)) + 1 := by
  unfold I64 at h
  rw [wrap64 (by omega : -9223372036854775808 ≤ n + 1 ∧ n + 1 ≤ 9223372036854775807), wrap64 (by omega), wrapu64 (x := 0 - (n + 1)) (by omega), wrapu64 (x := 2 * (0 - (n + 1))) (by omega), wrapu64 (by omega)]
  omega

def intH (n : Int) : Int := (intB n).headD 0
def intT (n : Int) : List Int := (intB n).tail
theorem intB_eq (n : Int) : intB n = intH n :: intT n := by
  unfold intH intT
  have := natB_ne 10 (zig n)
  unfold intB
  cases h : natB 11 (zig n) with
  | nil => exact absurd h this
  | cons a r => rfl
theorem intB_len (n : Int) : (intB n).length ≤ 11 := natB_len 11 _

theorem int_con (n : Int) (h : I64 n) : Contract PG F_lockgateref03_Int [.int .i64 n] [] (outBlk 1 encB 0 (intB n)).1 (outBlk 1 encB 0 (intB n)).2 := by
  have e := int_in 0 n
  have hh := h
  unfold I64 at hh
  have hz : ∀ x : Int, x ≤ 18446744073709551615 → x < 128 ^ 11 := fun x hx => by
    have : (128 : Int) ^ 11 = 151115727451828646838272 := by decide
    omega
  have key : callH env0 (0 + 12) F_lockgateref03_Int [.int .i64 n] [] = some (.sl 1 0 0 (intB n).length (intB n).length, [.arr true 1 ((intB n).map encB)]) := by
    unfold intB zig
    by_cases hn : n < 0
    · rw [decide_eq_true hn, cond_true, wneg n h hn, natK_eq 11 _ [] (by omega) (by omega) (hz _ (by omega)) (.inr (by omega))] at e
      rw [if_pos hn]
      simpa using e
    · rw [decide_eq_false hn, cond_false, wrapu64 (x := n) (by omega), wrapu64 (by omega), natK_eq 11 _ [] (by omega) (by omega) (hz _ (by omega)) (.inr (by omega))] at e
      rw [if_neg hn]
      simpa using e
  exact (callH_ok (envM_ok (md := fun _ => none) (l := []) fun k hk => by cases hk) envM_code mixed key).1.blkArr _ fun x => rfl

noncomputable def kInt : Known := .specB F_lockgateref03_Int (fun a => getI a 0) I64 (fun n => [.int .i64 n]) (fun n => outBlk 1 encB 0 (intH n :: intT n))
theorem kInt_ok : kInt.Ok PG := Known.specB_ok fun n h => by
  have := int_con n h
  rw [intB_eq] at this
  exact this
end Go.Wk
end

section
/- Bytes of numbers, texts, lists of bytes. -/
open Go Go.AM Go.Md
namespace Go.Wk
set_option maxRecDepth 100000
set_option maxHeartbeats 1000000

/-- a list that isn't empty, as such -/
def ne (l : List Int) : List Int := l.headD 0 :: l.tail
theorem ne_eq {l : List Int} (h : l ≠ []) : ne l = l := by
  cases l with
  | nil => exact absurd rfl h
  | cons a r => rfl

def outB (l : List Int) : AV × Heap := outBlk 1 encB 0 l
noncomputable def kInt' : Known := .specB F_lockgateref03_Int (fun a => getI a 0) I64 (fun n => [.int .i64 n]) (fun n => outB (ne (intB n)))
theorem intB_ne (n : Int) : intB n ≠ [] := natB_ne 10 _
theorem kInt'_ok : kInt'.Ok PG := Known.specB_ok fun n h => by
  have := int_con n h
  show Contract PG F_lockgateref03_Int _ [] (outB (ne (intB n))).1 (outB (ne (intB n))).2
  rw [ne_eq (intB_ne n)]
  exact this

def mdB (f : Nat) : Option Nat := bif nmem f [F_lockgateref03_Int, F_lockgateref03_Text, F_lockgateref06_numbers, F_lockgateref05_Ver, F_lockgateref05_cat, F_lockgateref05_Op, F_lockgateref05_bit, F_lockgateref05_Entry, F_lockgateref06_entries, F_lockgateref06_members, F_lockgateref06_Views, F_lockgateref06_seens, F_lockgateref06_Image, F_lockgateref06_Msg] then some 1 else none
noncomputable def envB (l : List Known) : Env := envM mdB (orcOf l)
theorem conB {l : List Known} (h : ∀ k ∈ l, k.Ok PG) {n f : Nat} {args : List AV} {r : AV} {hp : Heap} (e : callH (envB l) n f args [] = some (r, hp)) : Contract PG f args [] r hp :=
  (callH_ok (envM_ok (md := mdB) h) envM_code mixed e).1

/-- bytes that stand in a block; and with more behind them, as 'append' lays them -/
def blkB (l : List Int) : BS := .seq true 1 l.length fun i => encB (l.getD i 0)
def blkR (l p : List Int) : BS := .seq true 1 (l.length + p.length) (appF l.length (fun i => encB (l.getD i 0)) p.length fun i => encB (p.getD i 0))
theorem blkR_eq (l p : List Int) : blkR l p = blkB (l ++ p) := by
  unfold blkR blkB
  rw [appF_enc encB 0 l p, List.length_append]
def slB (b : Nat) (l : List Int) : AV := .sl 1 b 0 l.length 0
def slR (b : Nat) (l p : List Int) : AV := .sl 1 b 0 (l.length + p.length) 0
theorem slR_eq (b : Nat) (l p : List Int) : slR b l p = slB b (l ++ p) := by unfold slR slB; rw [List.length_append]

/-- the tests of an 'append' of bytes -/
theorem ble_self (n : Nat) : Nat.ble n n = true := ble_true (Nat.le_refl n)
theorem or_self (n : Nat) : (Nat.beq n 0 || Nat.ble n n) = true := by rw [ble_self, Bool.or_true]
theorem roomB {a b : Nat} (h : a + b ≤ 1000000000) : (Nat.ble ((a + b) * 1) 140737488355328 && Nat.ble (a + b) 140737488355328) = true := by
  rw [ble_true (by omega), ble_true (by omega)]; rfl

/-! ### numbers -/
def encI (x : Int) : List AV := [.int .i64 x]
def decI (cs : List AV) : Int := getI cs 0
def encIs (l : List Int) : AV := encL 1 encI 0 l
theorem decIs (l : List Int) : decL decI (encIs l) = l := decL_encL (fun _ => rfl) l
def numsB (l : List Int) : List Int := l.flatMap intB

noncomputable def envN : Env := envB [kInt']
def SN0 (l : List Int) (i : Int) : St := { fr := [(0, encIs l), (3, .nils), (4, .int .i64 i)], hp := [] }
def SN (l acc : List Int) (i : Int) : St := { fr := [(0, encIs l), (3, slB 0 acc), (4, .int .i64 i)], hp := [blkB acc] }
def SNR (l acc p : List Int) (i : Int) : St := { fr := [(0, encIs l), (3, slR 0 acc p), (4, .int .i64 i)], hp := [blkR acc p] }
theorem nums_in (N : Nat) (l : List Int) : callH envN (N + 1) F_lockgateref06_numbers [encIs l] [] = LP envN N 0 F_lockgateref06_numbers (hnK 0) 0 [] N (SN0 l 0) := by kernel_rfl
theorem nums_first (N m : Nat) (l : List Int) (i : Int) : LP envN N 0 F_lockgateref06_numbers (hnK 0) 0 [] (m + 1) (SN0 l i) =
    bif decide (i < (l.length : Int)) then bif decide (0 ≤ i) && decide (i < (l.length : Int)) then
      gC (fun a => getI a 0) I64 (fun n => [.int .i64 n]) [.int .i64 (l.getD i.toNat 0)] fun y =>
        bif Nat.ble (ne (intB y)).length (ne (intB y)).length then bif Nat.ble ((0 + (ne (intB y)).length) * 1) 140737488355328 && Nat.ble (0 + (ne (intB y)).length) 140737488355328 then
          LP envN N 0 F_lockgateref06_numbers (hnK 0) 0 [] m (SN l (ne (intB y)) (IntKind.i64.wrap (i + 1))) else none else none
    else none else some (.nils, []) := by kernel_rfl
theorem nums_step (N m : Nat) (l acc : List Int) (i : Int) : LP envN N 0 F_lockgateref06_numbers (hnK 0) 0 [] (m + 1) (SN l acc i) =
    bif decide (i < (l.length : Int)) then bif decide (0 ≤ i) && decide (i < (l.length : Int)) then
      gC (fun a => getI a 0) I64 (fun n => [.int .i64 n]) [.int .i64 (l.getD i.toNat 0)] fun y =>
        bif (Nat.beq acc.length 0 || Nat.ble acc.length acc.length) then bif Nat.ble (ne (intB y)).length (ne (intB y)).length then
          bif Nat.ble ((acc.length + (ne (intB y)).length) * 1) 140737488355328 && Nat.ble (acc.length + (ne (intB y)).length) 140737488355328 then
            LP envN N 0 F_lockgateref06_numbers (hnK 0) 0 [] m (SNR l acc (ne (intB y)) (IntKind.i64.wrap (i + 1))) else none else none else none
    else none else some (outB acc) := by kernel_rfl

theorem SNR_eq (l acc p : List Int) (i : Int) : SNR l acc p i = SN l (acc ++ p) i := by unfold SNR SN; rw [slR_eq, blkR_eq]

theorem nums_loop {N : Nat} {l : List Int} (hl : l.length ≤ LB) (hI : ∀ x ∈ l, I64 x) : ∀ i m, i ≤ l.length → l.length - i < m → ∀ acc : List Int, acc.length ≤ 11 * i →
    LP envN N 0 F_lockgateref06_numbers (hnK 0) 0 [] m (SN l acc i) = some (outB (acc ++ numsB (l.drop i))) := by
  unfold LB at hl
  refine up_loop (n := l.length) (fun i m => ∀ acc : List Int, acc.length ≤ 11 * i → LP envN N 0 F_lockgateref06_numbers (hnK 0) 0 [] m (SN l acc i) = some (outB (acc ++ numsB (l.drop i)))) (fun m acc ha => ?_) (fun i m hi ih acc ha => ?_)
  · rw [nums_step, dec_nat, decide_eq_false (by omega), cond_false, List.drop_eq_nil_of_le (Nat.le_refl _)]
    simp [numsB]
  · rw [nums_step, dec_nat, decide_eq_true hi, dec_nonneg]
    simp only [cond_true, Bool.and_true, Int.toNat_natCast]
    have hx := hI _ (getD_mem hi (z := 0))
    rw [gC_eq (l.getD i 0) rfl hx (.refl _), ne_eq (intB_ne _)]
    have hb := intB_len (l.getD i 0)
    rw [or_self, ble_self, roomB (by omega)]
    simp only [cond_true]
    rw [SNR_eq, wrapS (by omega), ih _ (by rw [List.length_append]; omega), drop_cons (z := 0) hi]
    simp [numsB]

theorem nums_con (l : List Int) (h : l.length ≤ LB ∧ l ≠ [] ∧ ∀ x ∈ l, I64 x) : Contract PG F_lockgateref06_numbers [encIs l] [] (outB (numsB l)).1 (outB (numsB l)).2 := by
  obtain ⟨h1, h2, h3⟩ := h
  have hl := h1
  unfold LB at hl
  refine conB (l := [kInt']) (fun k hk => by simp at hk; subst hk; exact kInt'_ok) (n := l.length + 3) ?_
  refine (nums_in (l.length + 2) l).trans ?_
  have hpos : 0 < l.length := List.length_pos_iff.2 h2
  rw [nums_first, decide_eq_true (show (0 : Int) < (l.length : Int) by omega), decide_eq_true (show (0 : Int) ≤ 0 by omega)]
  simp only [cond_true, Bool.and_true]
  have e0 : (0 : Int).toNat = 0 := rfl
  rw [e0, gC_eq (l.getD 0 0) rfl (h3 _ (getD_mem hpos)) (.refl _), ne_eq (intB_ne _)]
  have hb := intB_len (l.getD 0 0)
  rw [ble_self, roomB (by omega)]
  simp only [cond_true]
  have e1 : IntKind.i64.wrap (0 + 1) = ((1 : Nat) : Int) := by decide
  rw [e1, nums_loop h1 h3 1 _ hpos (by omega) _ (by omega)]
  have := drop_cons (z := (0 : Int)) hpos
  rw [List.drop_zero] at this
  conv => rhs; rw [this]
  rfl

theorem numsB_ne {l : List Int} (h : l ≠ []) : numsB l ≠ [] := by
  cases l with
  | nil => exact absurd rfl h
  | cons a r => simp [numsB, intB_ne a]
theorem numsB_len (l : List Int) : (numsB l).length ≤ 11 * l.length := by
  induction l with
  | nil => simp [numsB]
  | cons a r ih =>
    have := intB_len a
    simp only [numsB, List.flatMap_cons, List.length_append, List.length_cons] at ih ⊢
    omega
def preN (l : List Int) : Prop := l.length ≤ LB ∧ l ≠ [] ∧ ∀ x ∈ l, I64 x
noncomputable def kNums : Known := .specB F_lockgateref06_numbers (dL decI) preN (fun l => [encIs l]) (fun l => outB (ne (numsB l)))
theorem kNums_ok : kNums.Ok PG := Known.specB_ok fun l h => by
  rw [ne_eq (numsB_ne h.2.1)]; exact nums_con l h
end Go.Wk
end

section
/- Bytes of texts; pieces one behind the other; bits. -/
open Go Go.AM Go.Md
namespace Go.Wk
set_option maxRecDepth 100000
set_option maxHeartbeats 1000000

/-- a loop that lays piece behind piece -/
theorem app_loop {X : Type} {l : List X} {z : X} {p : X → List Int} {c a0 : Nat} (hl : l.length ≤ LB) (hp : ∀ x ∈ l, (p x).length ≤ c) {G : Nat → List Int → Int → Option (AV × Heap)}
    (hend : ∀ m acc, G (m + 1) acc (l.length : Int) = some (outB acc))
    (hstep : ∀ m acc (i : Nat), i < l.length → acc.length ≤ a0 + c * l.length → G (m + 1) acc i = G m (acc ++ p (l.getD i z)) ((i + 1 : Nat) : Int)) :
    ∀ i m, i ≤ l.length → l.length - i < m → ∀ acc : List Int, acc.length ≤ a0 + c * i → G m acc i = some (outB (acc ++ (l.drop i).flatMap p)) := by
  refine up_loop (n := l.length) (fun i m => ∀ acc : List Int, acc.length ≤ a0 + c * i → G m acc i = some (outB (acc ++ (l.drop i).flatMap p))) (fun m acc ha => ?_) (fun i m hi ih acc ha => ?_)
  · rw [hend, List.drop_eq_nil_of_le (Nat.le_refl _)]; simp
  · have h1 : c * i ≤ c * l.length := Nat.mul_le_mul_left c (by omega)
    have hx := hp _ (getD_mem hi (z := z))
    rw [hstep m acc i hi (by omega), ih _ (by rw [List.length_append, Nat.mul_succ]; omega), drop_cons (z := z) hi]
    simp

/-! ### a text's bytes -/
def chB (c : UInt8) : List Int := [(c.toNat : Int)]
def textB (s : List UInt8) : List Int := intB s.length ++ s.flatMap chB
def ST (s : List UInt8) (acc : List Int) (i : Int) : St := { fr := [(0, .str s), (3, slB 0 acc), (4, .int .i64 i)], hp := [blkB acc] }
def STR (s : List UInt8) (acc p : List Int) (i : Int) : St := { fr := [(0, .str s), (3, slR 0 acc p), (4, .int .i64 i)], hp := [.seq true 1 (acc.length + p.length) (appF acc.length (fun i => encB (acc.getD i 0)) p.length fun i => (p.map encB).getD i [])] }
theorem STR_eq (s : List UInt8) (acc p : List Int) (i : Int) : STR s acc p i = ST s (acc ++ p) i := by
  unfold STR ST
  rw [slR_eq, appF_lit encB 0 acc p]
  unfold blkB
  rw [List.length_append]
theorem text_in (N : Nat) (s : List UInt8) : callH envN (N + 1) F_lockgateref03_Text [.str s] [] =
    gC (fun a => getI a 0) I64 (fun n => [.int .i64 n]) [.int .i64 (s.length : Int)] fun y => LP envN N 0 F_lockgateref03_Text (hnK 0) 0 [] N (ST s (ne (intB y)) 0) := by kernel_rfl
theorem text_step (N m : Nat) (s : List UInt8) (acc : List Int) (i : Int) : LP envN N 0 F_lockgateref03_Text (hnK 0) 0 [] (m + 1) (ST s acc i) =
    bif decide (i < (s.length : Int)) then bif decide (0 ≤ i) && decide (i < (s.length : Int)) then
      bif (Nat.beq acc.length 0 || Nat.ble acc.length acc.length) then bif Nat.ble ((acc.length + 1) * 1) 140737488355328 && Nat.ble (acc.length + 1) 140737488355328 then
        LP envN N 0 F_lockgateref03_Text (hnK 0) 0 [] m (STR s acc [((s.getD i.toNat 0).toNat : Int)] (IntKind.i64.wrap (i + 1))) else none else none
    else none else some (outB acc) := by kernel_rfl

theorem text_con (s : List UInt8) (h : s.length ≤ LB) : Contract PG F_lockgateref03_Text [.str s] [] (outB (textB s)).1 (outB (textB s)).2 := by
  have hl := h
  unfold LB at hl
  refine conB (l := [kInt']) (fun k hk => by simp at hk; subst hk; exact kInt'_ok) (n := s.length + 2) ?_
  refine (text_in (s.length + 1) s).trans ?_
  rw [gC_eq (s.length : Int) rfl (by unfold I64; omega) (.refl _), ne_eq (intB_ne _)]
  have hb := intB_len (s.length : Int)
  have := app_loop (l := s) (z := 0) (p := chB) (c := 1) (a0 := 11) h (fun x _ => by simp [chB]) (G := fun m acc i => LP envN (s.length + 1) 0 F_lockgateref03_Text (hnK 0) 0 [] m (ST s acc i))
    (fun m acc => by rw [text_step, dec_nat, decide_eq_false (by omega), cond_false])
    (fun m acc i hi ha => by
      rw [text_step, dec_nat, decide_eq_true hi, dec_nonneg, or_self, roomB (by omega)]
      simp only [cond_true, Bool.and_true, Int.toNat_natCast]
      rw [STR_eq, wrapS (by omega)]
      rfl) 0 (s.length + 1) (Nat.zero_le _) (by omega) (intB s.length) (by omega)
  rw [List.drop_zero] at this
  exact this

theorem textB_ne (s : List UInt8) : textB s ≠ [] := by simp [textB, intB_ne]
theorem textB_len (s : List UInt8) : (textB s).length ≤ 11 + s.length := by
  have := intB_len (s.length : Int)
  have h2 : (s.flatMap chB).length = s.length := by
    clear this
    induction s with
    | nil => rfl
    | cons a r ih => simp only [List.flatMap_cons, List.length_append, ih, List.length_cons]; simp [chB]; omega
  simp only [textB, List.length_append]
  omega
noncomputable def kText : Known := .specB F_lockgateref03_Text (fun a => getS a 0) (fun s => s.length ≤ LB) (fun s => [.str s]) (fun s => outB (ne (textB s)))
theorem kText_ok : kText.Ok PG := Known.specB_ok fun s h => by rw [ne_eq (textB_ne s)]; exact text_con s h

/-! ### pieces -/
def encBl (l : List Int) : List AV := [encBy l]
def decBl (cs : List AV) : List Int := decL decB (cs.getD 0 .nils)
def encBls (ls : List (List Int)) : AV := encL 1 encBl [] ls
theorem decBy (l : List Int) : decL decB (encBy l) = l := decL_encL (fun _ => rfl) l
theorem decBls (ls : List (List Int)) : decL decBl (encBls ls) = ls := decL_encL (fun l => decBy l) ls
def SC0 (ls : List (List Int)) (i : Int) : St := { fr := [(0, encBls ls), (3, .nils), (4, .int .i64 i)], hp := [] }
def SCt (ls : List (List Int)) (acc : List Int) (i : Int) : St := { fr := [(0, encBls ls), (3, slB 0 acc), (4, .int .i64 i)], hp := [blkB acc] }
def SCR (ls : List (List Int)) (acc p : List Int) (i : Int) : St := { fr := [(0, encBls ls), (3, slR 0 acc p), (4, .int .i64 i)], hp := [blkR acc p] }
theorem SCR_eq (ls : List (List Int)) (acc p : List Int) (i : Int) : SCR ls acc p i = SCt ls (acc ++ p) i := by unfold SCR SCt; rw [slR_eq, blkR_eq]
theorem cat_in (N : Nat) (ls : List (List Int)) : callH envN (N + 1) F_lockgateref05_cat [encBls ls] [] = LP envN N 0 F_lockgateref05_cat (hnK 0) 0 [] N (SC0 ls 0) := by kernel_rfl
theorem cat_first (N m : Nat) (ls : List (List Int)) (i : Int) : LP envN N 0 F_lockgateref05_cat (hnK 0) 0 [] (m + 1) (SC0 ls i) =
    bif decide (i < (ls.length : Int)) then bif decide (0 ≤ i) && decide (i < (ls.length : Int)) then
      bif Nat.ble ((0 + (ls.getD i.toNat []).length) * 1) 140737488355328 && Nat.ble (0 + (ls.getD i.toNat []).length) 140737488355328 then
        bif Nat.beq (ls.getD i.toNat []).length 0 then LP envN N 0 F_lockgateref05_cat (hnK 0) 0 [] m (SC0 ls (IntKind.i64.wrap (i + 1)))
        else LP envN N 0 F_lockgateref05_cat (hnK 0) 0 [] m (SCt ls (ls.getD i.toNat []) (IntKind.i64.wrap (i + 1))) else none
    else none else some (.nils, []) := by kernel_rfl
theorem cat_step (N m : Nat) (ls : List (List Int)) (acc : List Int) (i : Int) : LP envN N 0 F_lockgateref05_cat (hnK 0) 0 [] (m + 1) (SCt ls acc i) =
    bif decide (i < (ls.length : Int)) then bif decide (0 ≤ i) && decide (i < (ls.length : Int)) then
      bif (Nat.beq acc.length 0 || Nat.ble acc.length acc.length) then
        bif Nat.ble ((acc.length + (ls.getD i.toNat []).length) * 1) 140737488355328 && Nat.ble (acc.length + (ls.getD i.toNat []).length) 140737488355328 then
          bif Nat.beq (ls.getD i.toNat []).length 0 then LP envN N 0 F_lockgateref05_cat (hnK 0) 0 [] m (SCt ls acc (IntKind.i64.wrap (i + 1)))
          else LP envN N 0 F_lockgateref05_cat (hnK 0) 0 [] m (SCR ls acc (ls.getD i.toNat []) (IntKind.i64.wrap (i + 1))) else none else none
    else none else some (outB acc) := by kernel_rfl

/-- pieces: some, none of them empty, none too long -/
def preC (ls : List (List Int)) : Prop := ls.length ≤ 1000 ∧ ls ≠ [] ∧ ∀ l ∈ ls, l ≠ [] ∧ l.length ≤ 100000
theorem cat_con (ls : List (List Int)) (h : preC ls) : Contract PG F_lockgateref05_cat [encBls ls] [] (outB ls.flatten).1 (outB ls.flatten).2 := by
  obtain ⟨h1, h2, h3⟩ := h
  refine conB (l := [kInt']) (fun k hk => by simp at hk; subst hk; exact kInt'_ok) (n := ls.length + 3) ?_
  refine (cat_in (ls.length + 2) ls).trans ?_
  have hpos : 0 < ls.length := List.length_pos_iff.2 h2
  obtain ⟨g1, g2⟩ := h3 _ (getD_mem hpos (z := []))
  rw [cat_first, decide_eq_true (show (0 : Int) < (ls.length : Int) by omega), decide_eq_true (show (0 : Int) ≤ 0 by omega)]
  have e0 : (0 : Int).toNat = 0 := rfl
  have e1 : IntKind.i64.wrap (0 + 1) = ((1 : Nat) : Int) := by decide
  have hz : Nat.beq (ls.getD 0 []).length 0 = false := beq_false (fun e => g1 (List.eq_nil_of_length_eq_zero e))
  simp only [e0, e1, cond_true, Bool.and_true, hz, roomB (show 0 + (ls.getD 0 []).length ≤ 1000000000 by omega), cond_false]
  have := app_loop (l := ls) (z := []) (p := fun l => l) (c := 100000) (a0 := 0) (by unfold LB; omega) (fun x hx => (h3 x hx).2) (G := fun m acc i => LP envN (ls.length + 2) 0 F_lockgateref05_cat (hnK 0) 0 [] m (SCt ls acc i))
    (fun m acc => by rw [cat_step, dec_nat, decide_eq_false (by omega), cond_false])
    (fun m acc i hi ha => by
      obtain ⟨g1, g2⟩ := h3 _ (getD_mem hi (z := []))
      have hz : Nat.beq (ls.getD i []).length 0 = false := beq_false (fun e => g1 (List.eq_nil_of_length_eq_zero e))
      have hm : 100000 * ls.length ≤ 100000000 := by omega
      rw [cat_step, dec_nat, decide_eq_true hi, dec_nonneg, or_self]
      simp only [cond_true, Bool.and_true, Int.toNat_natCast, hz, cond_false]
      rw [roomB (by omega), cond_true, SCR_eq, wrapS (by omega)]) 1 (ls.length + 1) hpos (by omega) (ls.getD 0 []) (by omega)
  rw [this]
  have hd := drop_cons (z := ([] : List Int)) hpos
  rw [List.drop_zero] at hd
  conv => rhs; rw [hd]
  simp
noncomputable def kCat : Known := .specB F_lockgateref05_cat (dL decBl) preC (fun ls => [encBls ls]) (fun ls => outB (ne ls.flatten))
theorem flat_ne {ls : List (List Int)} (h : ls ≠ []) (h2 : ∀ l ∈ ls, l ≠ []) : ls.flatten ≠ [] := by
  cases ls with
  | nil => exact absurd rfl h
  | cons a r => simp [h2 a (by simp)]
theorem kCat_ok : kCat.Ok PG := Known.specB_ok fun ls h => by rw [ne_eq (flat_ne h.2.1 fun l hl => (h.2.2 l hl).1)]; exact cat_con ls h

def bitI (b : Bool) : Int := bif b then 1 else 0
theorem bit06_eq (b : Bool) : callT env0 2 F_lockgateref06_bit [.bool b] = bif b then some (.int .u8 1) else some (.int .u8 0) := by kernel_rfl
noncomputable def kBit06 : Known := .spec F_lockgateref06_bit (fun a => getB a 0) (fun _ => True) (fun b => [.bool b]) (fun b => .int .u8 (bitI b))
theorem kBit06_ok : kBit06.Ok PG := Known.spec_ok fun b _ => con0 (by rw [bit06_eq]; cases b <;> rfl)
theorem bit05_eq (b : Bool) : callH env0 2 F_lockgateref05_bit [.bool b] [] = bif b then some (.sl 1 0 0 1 1, [.arr true 1 [[.int .u8 1]]]) else some (.sl 1 0 0 1 1, [.arr true 1 [[.int .u8 0]]]) := by kernel_rfl
noncomputable def kBit05 : Known := .specB F_lockgateref05_bit (fun a => getB a 0) (fun _ => True) (fun b => [.bool b]) (fun b => outB [bitI b])
theorem kBit05_ok : kBit05.Ok PG := Known.specB_ok fun b _ => by
  have e : callH env0 2 F_lockgateref05_bit [.bool b] [] = some (.sl 1 0 0 ([bitI b] : List Int).length 1, [.arr true 1 ([bitI b].map encB)]) := by rw [bit05_eq]; cases b <;> rfl
  exact ((callH_ok (envM_ok (md := fun _ => none) (l := []) fun k hk => by cases hk) envM_code mixed e).1.blkArr _ fun x => rfl)
end Go.Wk
end

section
/- Bytes of versions, operations, entries, members, views, seens, images, messages. -/
open Go Go.AM Go.Md
namespace Go.Wk
set_option maxRecDepth 100000
set_option maxHeartbeats 1000000

noncomputable def kns1 : List Known := [kInt', kText, kCat, kBit05, kBit06, kNums]
theorem ac {X : Type} {p : X → Prop} {k : X} {l : List X} (h : p k) (t : ∀ x ∈ l, p x) : ∀ x ∈ k :: l, p x := fun x hx => by
  rcases List.mem_cons.1 hx with rfl | hx
  · exact h
  · exact t x hx
theorem an {X : Type} {p : X → Prop} : ∀ x ∈ ([] : List X), p x := fun x hx => by cases hx
theorem ak {k : Known} {l : List Known} (h : k.Ok PG) (t : ∀ x ∈ l, x.Ok PG) : ∀ x ∈ k :: l, x.Ok PG := fun x hx => by
  rcases List.mem_cons.1 hx with rfl | hx
  · exact h
  · exact t x hx
theorem ank : ∀ x ∈ ([] : List Known), x.Ok PG := fun x hx => by cases hx
theorem kns1_ok : ∀ k ∈ kns1, k.Ok PG := ak kInt'_ok (ak kText_ok (ak kCat_ok (ak kBit05_ok (ak kBit06_ok (ak kNums_ok ank)))))
noncomputable def envV : Env := envB kns1

noncomputable def gI {R : Type} (n : Int) (k : Int → Option R) : Option R := gC (fun a => getI a 0) I64 (fun n => [.int .i64 n]) [.int .i64 n] k
theorem gI_eq {R : Type} {n : Int} {k : Int → Option R} (h : I64 n) : gI n k = k n := gC_eq n rfl h (.refl _)
noncomputable def gT {R : Type} (s : List UInt8) (k : List UInt8 → Option R) : Option R := gC (fun a => getS a 0) (fun s => s.length ≤ LB) (fun s => [.str s]) [.str s] k
theorem gT_eq {R : Type} {s : List UInt8} {k : List UInt8 → Option R} (h : s.length ≤ LB) : gT s k = k s := gC_eq s rfl h (.refl _)
noncomputable def gBit {R : Type} (b : Bool) (k : Bool → Option R) : Option R := gC (fun a => getB a 0) (fun _ => True) (fun b => [.bool b]) [.bool b] k
theorem gBit_eq {R : Type} {b : Bool} {k : Bool → Option R} : gBit b k = k b := gC_eq b rfl trivial (.refl _)
noncomputable def gCat {R : Type} (ls : List (List Int)) (k : List (List Int) → Option R) : Option R := gC (dL decBl) preC (fun ls => [encBls ls]) [.trl 1 (ls.map encBl)] k
theorem dec_trl {X : Type} {e : X → List AV} {d : List AV → X} (h : ∀ x, d (e x) = x) (sz : Nat) (l : List X) : decL d (.trl sz (l.map e)) = l := by
  simp [decL, List.map_map, Function.comp_def, h]
theorem gCat_eq {R : Type} {ls : List (List Int)} {k : List (List Int) → Option R} (h : preC ls) : gCat ls k = k ls :=
  gC_eq ls (dec_trl (fun l => decBy l) 1 ls) h (.cons (.trl_encL ls) .nil)
noncomputable def gNums {R : Type} (l : List Int) (k : List Int → Option R) : Option R := gC (dL decI) preN (fun l => [encIs l]) [.trl 1 (l.map encI)] k
theorem gNums_eq {R : Type} {l : List Int} {k : List Int → Option R} (h : preN l) : gNums l k = k l :=
  gC_eq l (dec_trl (fun _ => rfl) 1 l) h (.cons (.trl_encL l) .nil)

def lnG (l : List (List Int)) : Bool := match l with
  | [] => true
  | a :: r => Nat.ble a.length a.length && true && lnG r
theorem lnG_eq : ∀ l, lnG l = true
  | [] => rfl
  | a :: r => by simp [lnG, lnG_eq r, ble_self]

def verB (v : Ver) : List Int := [intB (vE v), intB (vN v)].flatten
theorem ver_eq (v : Ver) : callH envV 2 F_lockgateref05_Ver [.cplx .f64 v.re v.im] [] =
    bif (fI v.re).isSome then bif decide (IntKind.i64.min ≤ (fI v.re).getD 0) && decide ((fI v.re).getD 0 ≤ IntKind.i64.max) then gI ((fI v.re).getD 0) fun y0 =>
      bif (fI v.im).isSome then bif decide (IntKind.i64.min ≤ (fI v.im).getD 0) && decide ((fI v.im).getD 0 ≤ IntKind.i64.max) then gI ((fI v.im).getD 0) fun y1 =>
        bif Nat.ble (ne (intB y0)).length (ne (intB y0)).length && true && (Nat.ble (ne (intB y1)).length (ne (intB y1)).length && true && true) && true && true then gCat [ne (intB y0), ne (intB y1)] fun y => some (outB (ne y.flatten))
        else none else none else none else none else none := by kernel_rfl

def PP (l : List Int) : Prop := l ≠ [] ∧ l.length ≤ 100000
theorem pc2 {a b : List Int} (ha : PP a) (hb : PP b) : preC [a, b] := ⟨by simp, by simp, ac (p := PP) ha (ac (p := PP) hb an)⟩
theorem intP (n : Int) : PP (intB n) := ⟨intB_ne n, by have := intB_len n; omega⟩

theorem ver_con (v : Ver) (h : VInt v) : Contract PG F_lockgateref05_Ver [.cplx .f64 v.re v.im] [] (outB (ne (verB v))).1 (outB (ne (verB v))).2 := by
  refine conB kns1_ok (n := 2) ((ver_eq v).trans ?_)
  obtain ⟨h1, h2⟩ := h
  simp only [h1.1, decide_eq_true h1.2.1, decide_eq_true h1.2.2, h2.1, decide_eq_true h2.2.1, decide_eq_true h2.2.2, cond_true, Bool.and_true, gI_eq (okI64 h1), gI_eq (okI64 h2), ble_self, ne_eq (intB_ne _)]
  rw [gCat_eq (pc2 (intP _) (intP _))]
  rfl
theorem verB_ne (v : Ver) : verB v ≠ [] := by simp [verB, intB_ne]
theorem verB_len (v : Ver) : (verB v).length ≤ 22 := by
  have h1 := intB_len (vE v)
  have h2 := intB_len (vN v)
  simp [verB]; omega
noncomputable def kVer : Known := .specB F_lockgateref05_Ver (fun a => (⟨(getC a 0).1, (getC a 0).2⟩ : Ver)) VInt (fun v => [.cplx .f64 v.re v.im]) (fun v => outB (ne (verB v)))
theorem kVer_ok : kVer.Ok PG := Known.specB_ok ver_con
noncomputable def gVer {R : Type} (v : Ver) (k : Ver → Option R) : Option R := gC (fun a => (⟨(getC a 0).1, (getC a 0).2⟩ : Ver)) VInt (fun v => [.cplx .f64 v.re v.im]) [.cplx .f64 v.re v.im] k
theorem gVer_eq {R : Type} {v : Ver} {k : Ver → Option R} (h : VInt v) : gVer v k = k v := gC_eq v rfl h (.refl _)
end Go.Wk
end

section
/- Bytes of operations, entries, members, views, seens, images, messages. -/
open Go Go.AM Go.Md
namespace Go.Wk
set_option maxRecDepth 100000
set_option maxHeartbeats 1000000

/-! ### what stands in a block, and is grown -/
def oS (l : List Int) : Nat × (Nat → List AV) := (l.length, fun i => encB (l.getD i 0))
def apS (x : Nat × (Nat → List AV)) (p : List Int) : Nat × (Nat → List AV) := (x.1 + p.length, appF x.1 x.2 p.length fun i => encB (p.getD i 0))
def apL (x : Nat × (Nat → List AV)) (p : List Int) : Nat × (Nat → List AV) := (x.1 + p.length, appF x.1 x.2 p.length fun i => (p.map encB).getD i [])
theorem apS_eq (l p : List Int) : apS (oS l) p = oS (l ++ p) := by
  unfold apS oS
  simp only [appF_enc encB 0 l p, List.length_append]
theorem apL_eq (l p : List Int) : apL (oS l) p = oS (l ++ p) := by
  unfold apL oS
  simp only [appF_lit encB 0 l p, List.length_append]
def outX (x : Nat × (Nat → List AV)) : AV × Heap := (.sl 1 0 0 x.1 0, [.seq true 1 x.1 x.2])
theorem outX_eq (l : List Int) : outX (oS l) = outB l := rfl
/-- the tests of an append -/
def gAp {R : Type} (x : Nat × (Nat → List AV)) (p : List Int) (k : Option R) : Option R :=
  bif (Nat.beq x.1 0 || Nat.ble x.1 x.1) then bif Nat.ble p.length p.length then bif Nat.ble ((x.1 + p.length) * 1) 140737488355328 && Nat.ble (x.1 + p.length) 140737488355328 then k else none else none else none
def gAl {R : Type} (x : Nat × (Nat → List AV)) (p : List Int) (k : Option R) : Option R :=
  bif (Nat.beq x.1 0 || Nat.ble x.1 x.1) then bif Nat.ble ((x.1 + p.length) * 1) 140737488355328 && Nat.ble (x.1 + p.length) 140737488355328 then k else none else none
theorem gAp_eq {R : Type} {l p : List Int} {k : Option R} (h : l.length + p.length ≤ 1000000000) : gAp (oS l) p k = k := by
  unfold gAp oS
  simp only [ble_self, Bool.or_true, roomB h, cond_true]
theorem gAl_eq {R : Type} {l p : List Int} {k : Option R} (h : l.length + p.length ≤ 1000000000) : gAl (oS l) p k = k := by
  unfold gAl oS
  simp only [or_self, roomB h, cond_true]

/-! ### operations -/
theorem textP {s : List UInt8} (h : s.length ≤ 2000) : PP (textB s) := ⟨textB_ne s, by have := textB_len s; omega⟩
theorem bitP (b : Bool) : PP [bitI b] := ⟨by simp, by simp⟩
def opB (o : Md.Op) : List Int := [intB o.kind, textB o.key, textB o.val, textB o.old, [bitI o.hasOld]].flatten
theorem op_eq (o : Md.Op) : callH envV 2 F_lockgateref05_Op [.agg (encOp o)] [] =
    gI o.kind fun a => gT o.key fun b => gT o.val fun c => gT o.old fun d => gBit o.hasOld fun e =>
      bif lnG [ne (intB a), ne (textB b), ne (textB c), ne (textB d), [bitI e]] && true && true then
        gCat [ne (intB a), ne (textB b), ne (textB c), ne (textB d), [bitI e]] fun y => some (outB (ne y.flatten)) else none := by kernel_rfl
def OpOk' (o : Md.Op) : Prop := I64 o.kind ∧ o.key.length ≤ 2000 ∧ o.val.length ≤ 2000 ∧ o.old.length ≤ 2000
theorem opB_ne (o : Md.Op) : opB o ≠ [] := by simp [opB, intB_ne]
theorem LB2 {n : Nat} (h : n ≤ 2000) : n ≤ LB := by unfold LB; omega
theorem op_con (o : Md.Op) (h : OpOk' o) : Contract PG F_lockgateref05_Op [.agg (encOp o)] [] (outB (ne (opB o))).1 (outB (ne (opB o))).2 := by
  refine conB kns1_ok (n := 2) ((op_eq o).trans ?_)
  obtain ⟨h1, h2, h3, h4⟩ := h
  rw [gI_eq h1, gT_eq (LB2 h2), gT_eq (LB2 h3), gT_eq (LB2 h4), gBit_eq, lnG_eq, ne_eq (intB_ne _), ne_eq (textB_ne _), ne_eq (textB_ne _), ne_eq (textB_ne _)]
  simp only [Bool.and_true, cond_true]
  rw [gCat_eq ⟨by simp, by simp, ac (p := PP) (intP _) (ac (p := PP) (textP h2) (ac (p := PP) (textP h3) (ac (p := PP) (textP h4) (ac (p := PP) (bitP _) an))))⟩]
  rfl
theorem opB_len {o : Md.Op} (h : OpOk' o) : (opB o).length ≤ 7000 := by
  obtain ⟨h1, h2, h3, h4⟩ := h
  have a1 := intB_len o.kind
  have a2 := textB_len o.key
  have a3 := textB_len o.val
  have a4 := textB_len o.old
  simp [opB]; omega
noncomputable def kOp : Known := .specB F_lockgateref05_Op (fun a => decOp (argC a 0)) OpOk' (fun o => [.agg (encOp o)]) (fun o => outB (ne (opB o)))
theorem kOp_ok : kOp.Ok PG := Known.specB_ok op_con
noncomputable def gOp {R : Type} (o : Md.Op) (k : Md.Op → Option R) : Option R := gC (fun a => decOp (argC a 0)) OpOk' (fun o => [.agg (encOp o)]) [.agg (encOp o)] k
theorem gOp_eq {R : Type} {o : Md.Op} {k : Md.Op → Option R} (h : OpOk' o) : gOp o k = k o := gC_eq o rfl h (.refl _)

/-! ### entries -/
noncomputable def kns2 : List Known := [kInt', kText, kCat, kBit05, kBit06, kNums, kVer, kOp]
theorem kns2_ok : ∀ k ∈ kns2, k.Ok PG := ak kInt'_ok (ak kText_ok (ak kCat_ok (ak kBit05_ok (ak kBit06_ok (ak kNums_ok (ak kVer_ok (ak kOp_ok ank)))))))
noncomputable def envW : Env := envB kns2
def entB (e : Entry) : List Int := [verB e.ver, intB e.kind, textB e.key, textB e.val, [bitI e.write], [bitI e.del], intB e.sess, intB e.num, intB e.code, textB e.res, [bitI e.hasRes]].flatten
theorem ent_eq (e : Entry) : callH envW 2 F_lockgateref05_Entry [.agg (encEntry e)] [] =
    gVer e.ver fun v => gI e.kind fun a => gT e.key fun b => gT e.val fun c => gBit e.write fun d => gBit e.del fun f => gI e.sess fun g => gI e.num fun h => gI e.code fun i => gT e.res fun j => gBit e.hasRes fun k =>
      bif lnG [ne (verB v), ne (intB a), ne (textB b), ne (textB c), [bitI d], [bitI f], ne (intB g), ne (intB h), ne (intB i), ne (textB j), [bitI k]] && true && true then
        gCat [ne (verB v), ne (intB a), ne (textB b), ne (textB c), [bitI d], [bitI f], ne (intB g), ne (intB h), ne (intB i), ne (textB j), [bitI k]] fun y => some (outB (ne y.flatten)) else none := by kernel_rfl
def EntOk (e : Entry) : Prop := VInt e.ver ∧ I64 e.kind ∧ e.key.length ≤ 2000 ∧ e.val.length ≤ 2000 ∧ I64 e.sess ∧ I64 e.num ∧ I64 e.code ∧ e.res.length ≤ 2000
theorem entB_ne (e : Entry) : entB e ≠ [] := by simp [entB, verB_ne]
theorem verP (v : Ver) : PP (verB v) := ⟨verB_ne v, by have := verB_len v; omega⟩
theorem ent_con (e : Entry) (h : EntOk e) : Contract PG F_lockgateref05_Entry [.agg (encEntry e)] [] (outB (ne (entB e))).1 (outB (ne (entB e))).2 := by
  refine conB kns2_ok (n := 2) ((ent_eq e).trans ?_)
  obtain ⟨h0, h1, h2, h3, h4, h5, h6, h7⟩ := h
  simp only [gVer_eq h0, gI_eq h1, gT_eq (LB2 h2), gT_eq (LB2 h3), gBit_eq, gI_eq h4, gI_eq h5, gI_eq h6, gT_eq (LB2 h7), lnG_eq, ne_eq (intB_ne _), ne_eq (textB_ne _), ne_eq (verB_ne _), Bool.and_true, cond_true]
  rw [gCat_eq ⟨by simp, by simp, ac (p := PP) (verP _) (ac (p := PP) (intP _) (ac (p := PP) (textP h2) (ac (p := PP) (textP h3) (ac (p := PP) (bitP _) (ac (p := PP) (bitP _) (ac (p := PP) (intP _) (ac (p := PP) (intP _) (ac (p := PP) (intP _) (ac (p := PP) (textP h7) (ac (p := PP) (bitP _) an))))))))))⟩]
  rfl
theorem entB_len {e : Entry} (h : EntOk e) : (entB e).length ≤ 7000 := by
  obtain ⟨h0, h1, h2, h3, h4, h5, h6, h7⟩ := h
  have a0 := verB_len e.ver
  have a1 := intB_len e.kind
  have a2 := textB_len e.key
  have a3 := textB_len e.val
  have a4 := intB_len e.sess
  have a5 := intB_len e.num
  have a6 := intB_len e.code
  have a7 := textB_len e.res
  simp [entB]; omega
noncomputable def kEnt : Known := .specB F_lockgateref05_Entry (fun a => decEntry (argC a 0)) EntOk (fun o => [.agg (encEntry o)]) (fun o => outB (ne (entB o)))
theorem kEnt_ok : kEnt.Ok PG := Known.specB_ok ent_con
noncomputable def gEnt {R : Type} (o : Entry) (k : Entry → Option R) : Option R := gC (fun a => decEntry (argC a 0)) EntOk (fun o => [.agg (encEntry o)]) [.agg (encEntry o)] k
theorem gEnt_eq {R : Type} {o : Entry} {k : Entry → Option R} (h : EntOk o) : gEnt o k = k o := gC_eq o rfl h (.refl _)
end Go.Wk
end

section
/- Bytes of lists: members, entries, views, seens. -/
open Go Go.AM Go.Md
namespace Go.Wk
set_option maxRecDepth 100000
set_option maxHeartbeats 1000000
noncomputable def kns3 : List Known := [kInt', kText, kCat, kBit05, kBit06, kNums, kVer, kOp, kEnt]
theorem kns3_ok : ∀ k ∈ kns3, k.Ok PG := ak kInt'_ok (ak kText_ok (ak kCat_ok (ak kBit05_ok (ak kBit06_ok (ak kNums_ok (ak kVer_ok (ak kOp_ok (ak kEnt_ok ank))))))))
noncomputable def envX : Env := envB kns3

/-- a state of a loop over l, with what was laid so far -/
def SL (l : AV) (x : Nat × (Nat → List AV)) (i : Int) : St := { fr := [(0, l), (3, .sl 1 0 0 x.1 0), (4, .int .i64 i)], hp := [.seq true 1 x.1 x.2] }

theorem list_con {X : Type} {F : Nat} {l : List X} {z : X} {al : AV} {p : X → List Int} {c : Nat} (hl : l.length ≤ 1000) (hp : ∀ x ∈ l, (p x).length ≤ c) (hc : c ≤ 100000)
    (hin : ∀ N, callH envX (N + 1) F [al] [] = gI (l.length : Int) fun y => LP envX N 0 F (hnK 0) 0 [] N (SL al (oS (ne (intB y))) 0))
    (hend : ∀ N m acc, LP envX N 0 F (hnK 0) 0 [] (m + 1) (SL al (oS acc) (l.length : Int)) = some (outB acc))
    (hstep : ∀ N m acc (i : Nat), i < l.length → acc.length ≤ 11 + c * 1000 → LP envX N 0 F (hnK 0) 0 [] (m + 1) (SL al (oS acc) i) = LP envX N 0 F (hnK 0) 0 [] m (SL al (oS (acc ++ p (l.getD i z))) ((i + 1 : Nat) : Int))) :
    Contract PG F [al] [] (outB (ne (intB l.length ++ l.flatMap p))).1 (outB (ne (intB l.length ++ l.flatMap p))).2 := by
  refine conB kns3_ok (n := l.length + 2) ((hin (l.length + 1)).trans ?_)
  rw [gI_eq (by unfold I64; omega), ne_eq (intB_ne _), ne_eq (by simp [intB_ne])]
  have hb := intB_len (l.length : Int)
  have := app_loop (l := l) (z := z) (p := p) (c := c) (a0 := 11) (by unfold LB; omega) hp (G := fun m acc i => LP envX (l.length + 1) 0 F (hnK 0) 0 [] m (SL al (oS acc) i)) (fun m acc => hend _ m acc)
    (fun m acc i hi ha => hstep _ m acc i hi (by have : c * l.length ≤ c * 1000 := Nat.mul_le_mul_left c hl; omega)) 0 (l.length + 1) (Nat.zero_le _) (by omega) (intB l.length) (by omega)
  rw [List.drop_zero] at this
  exact this

/-! ### entries -/
def entsB (l : List Entry) : List Int := intB l.length ++ l.flatMap entB
theorem ents_in (N : Nat) (l : List Entry) : callH envX (N + 1) F_lockgateref06_entries [encEntrys l] [] = gI (l.length : Int) fun y => LP envX N 0 F_lockgateref06_entries (hnK 0) 0 [] N (SL (encEntrys l) (oS (ne (intB y))) 0) := by kernel_rfl
theorem ents_step (N m : Nat) (l : List Entry) (acc : List Int) (i : Int) : LP envX N 0 F_lockgateref06_entries (hnK 0) 0 [] (m + 1) (SL (encEntrys l) (oS acc) i) =
    bif decide (i < (l.length : Int)) then bif decide (0 ≤ i) && decide (i < (l.length : Int)) then
      gEnt (l.getD i.toNat default) fun y => gAp (oS acc) (ne (entB y)) <| LP envX N 0 F_lockgateref06_entries (hnK 0) 0 [] m (SL (encEntrys l) (apS (oS acc) (ne (entB y))) (IntKind.i64.wrap (i + 1)))
    else none else some (outB acc) := by kernel_rfl
def EntsOk (l : List Entry) : Prop := l.length ≤ 1000 ∧ ∀ e ∈ l, EntOk e
theorem ents_con (l : List Entry) (h : EntsOk l) : Contract PG F_lockgateref06_entries [encEntrys l] [] (outB (ne (entsB l))).1 (outB (ne (entsB l))).2 := by
  refine list_con (z := default) h.1 (fun e he => entB_len (h.2 e he)) (by omega) (fun N => ents_in N l) (fun N m acc => ?_) (fun N m acc i hi ha => ?_)
  · rw [ents_step, dec_nat, decide_eq_false (by omega), cond_false]
  · rw [ents_step, dec_nat, decide_eq_true hi, dec_nonneg]
    simp only [cond_true, Bool.and_true, Int.toNat_natCast]
    have hx := h.2 _ (getD_mem hi (z := default))
    have hb := entB_len hx
    rw [gEnt_eq hx, ne_eq (entB_ne _), gAp_eq (by omega), apS_eq, wrapS (by have := h.1; omega)]

/-! ### members -/
def memB (m : Member) : List Int := numsB [m.node, m.boot]
def memsB (l : List Member) : List Int := intB l.length ++ l.flatMap memB
theorem mems_in (N : Nat) (l : List Member) : callH envX (N + 1) F_lockgateref06_members [encMembers l] [] = gI (l.length : Int) fun y => LP envX N 0 F_lockgateref06_members (hnK 0) 0 [] N (SL (encMembers l) (oS (ne (intB y))) 0) := by kernel_rfl
theorem mems_step (N m : Nat) (l : List Member) (acc : List Int) (i : Int) : LP envX N 0 F_lockgateref06_members (hnK 0) 0 [] (m + 1) (SL (encMembers l) (oS acc) i) =
    bif decide (i < (l.length : Int)) then bif decide (0 ≤ i) && decide (i < (l.length : Int)) then bif decide (0 ≤ i) && decide (i < (l.length : Int)) then
      gNums [(l.getD i.toNat default).node, (l.getD i.toNat default).boot] fun y => gAp (oS acc) (ne (numsB y)) <| LP envX N 0 F_lockgateref06_members (hnK 0) 0 [] m (SL (encMembers l) (apS (oS acc) (ne (numsB y))) (IntKind.i64.wrap (i + 1)))
    else none else none else some (outB acc) := by kernel_rfl
def MemOk (m : Member) : Prop := I64 m.node ∧ I64 m.boot
def MemsOk (l : List Member) : Prop := l.length ≤ 1000 ∧ ∀ m ∈ l, MemOk m
theorem mems_con (l : List Member) (h : MemsOk l) : Contract PG F_lockgateref06_members [encMembers l] [] (outB (ne (memsB l))).1 (outB (ne (memsB l))).2 := by
  refine list_con (z := default) (c := 22) h.1 (fun e he => numsB_len _) (by omega) (fun N => mems_in N l) (fun N m acc => ?_) (fun N m acc i hi ha => ?_)
  · rw [mems_step, dec_nat, decide_eq_false (by omega), cond_false]
  · rw [mems_step, dec_nat, decide_eq_true hi, dec_nonneg]
    simp only [cond_true, Bool.and_true, Int.toNat_natCast]
    have hx := h.2 _ (getD_mem hi (z := default))
    have hb := numsB_len [(l.getD i default).node, (l.getD i default).boot]
    simp only [List.length_cons, List.length_nil] at hb
    rw [gNums_eq ⟨by simp [LB], by simp, ac (p := I64) hx.1 (ac (p := I64) hx.2 an)⟩, ne_eq (numsB_ne (by simp)), gAp_eq (by omega), apS_eq, wrapS (by have := h.1; omega)]
    rfl
end Go.Wk
end

section
/- Bytes of views and of seens. -/
open Go Go.AM Go.Md
namespace Go.Wk
set_option maxRecDepth 100000
set_option maxHeartbeats 1000000
noncomputable def gMems {R : Type} (l : List Member) (k : List Member → Option R) : Option R := gC (dL decMember) MemsOk (fun l => [encMembers l]) [encMembers l] k
theorem gMems_eq {R : Type} {l : List Member} {k : List Member → Option R} (h : MemsOk l) : gMems l k = k l := gC_eq l (decMembers l) h (.refl _)
noncomputable def kMems : Known := .specB F_lockgateref06_members (dL decMember) MemsOk (fun l => [encMembers l]) (fun l => outB (ne (memsB l)))
theorem kMems_ok : kMems.Ok PG := Known.specB_ok mems_con
noncomputable def gEnts {R : Type} (l : List Entry) (k : List Entry → Option R) : Option R := gC (dL decEntry) EntsOk (fun l => [encEntrys l]) [encEntrys l] k
theorem gEnts_eq {R : Type} {l : List Entry} {k : List Entry → Option R} (h : EntsOk l) : gEnts l k = k l := gC_eq l (decEntrys l) h (.refl _)
noncomputable def kEnts : Known := .specB F_lockgateref06_entries (dL decEntry) EntsOk (fun l => [encEntrys l]) (fun l => outB (ne (entsB l)))
theorem kEnts_ok : kEnts.Ok PG := Known.specB_ok ents_con
noncomputable def kns4 : List Known := [kInt', kText, kCat, kBit05, kBit06, kNums, kVer, kOp, kEnt, kMems, kEnts]
theorem kns4_ok : ∀ k ∈ kns4, k.Ok PG := ak kInt'_ok (ak kText_ok (ak kCat_ok (ak kBit05_ok (ak kBit06_ok (ak kNums_ok (ak kVer_ok (ak kOp_ok (ak kEnt_ok (ak kMems_ok (ak kEnts_ok ank))))))))))
noncomputable def envY : Env := envB kns4

theorem list_conY {X : Type} {F : Nat} {l : List X} {z : X} {al : AV} {p : X → List Int} {c : Nat} (hl : l.length ≤ 1000) (hp : ∀ x ∈ l, (p x).length ≤ c) (hc : c ≤ 100000)
    (hin : ∀ N, callH envY (N + 1) F [al] [] = gI (l.length : Int) fun y => LP envY N 0 F (hnK 0) 0 [] N (SL al (oS (ne (intB y))) 0))
    (hend : ∀ N m acc, LP envY N 0 F (hnK 0) 0 [] (m + 1) (SL al (oS acc) (l.length : Int)) = some (outB acc))
    (hstep : ∀ N m acc (i : Nat), i < l.length → acc.length ≤ 11 + c * 1000 → LP envY N 0 F (hnK 0) 0 [] (m + 1) (SL al (oS acc) i) = LP envY N 0 F (hnK 0) 0 [] m (SL al (oS (acc ++ p (l.getD i z))) ((i + 1 : Nat) : Int))) :
    Contract PG F [al] [] (outB (ne (intB l.length ++ l.flatMap p))).1 (outB (ne (intB l.length ++ l.flatMap p))).2 := by
  refine conB kns4_ok (n := l.length + 2) ((hin (l.length + 1)).trans ?_)
  rw [gI_eq (by unfold I64; omega), ne_eq (intB_ne _), ne_eq (by simp [intB_ne])]
  have hb := intB_len (l.length : Int)
  have := app_loop (l := l) (z := z) (p := p) (c := c) (a0 := 11) (by unfold LB; omega) hp (G := fun m acc i => LP envY (l.length + 1) 0 F (hnK 0) 0 [] m (SL al (oS acc) i)) (fun m acc => hend _ m acc)
    (fun m acc i hi ha => hstep _ m acc i hi (by have : c * l.length ≤ c * 1000 := Nat.mul_le_mul_left c hl; omega)) 0 (l.length + 1) (Nat.zero_le _) (by omega) (intB l.length) (by omega)
  rw [List.drop_zero] at this
  exact this

/-- the tests of an append on what an append left -/
def gAs {R : Type} (x : Nat × (Nat → List AV)) (p : List Int) (k : Option R) : Option R :=
  bif Nat.ble x.1 x.1 then bif Nat.ble p.length p.length then bif Nat.ble ((x.1 + p.length) * 1) 140737488355328 && Nat.ble (x.1 + p.length) 140737488355328 then k else none else none else none
def gAq {R : Type} (x : Nat × (Nat → List AV)) (p : List Int) (k : Option R) : Option R :=
  bif Nat.ble x.1 x.1 then bif Nat.ble ((x.1 + p.length) * 1) 140737488355328 && Nat.ble (x.1 + p.length) 140737488355328 then k else none else none
theorem gAs_eq {R : Type} {l p : List Int} {k : Option R} (h : l.length + p.length ≤ 1000000000) : gAs (oS l) p k = k := by
  unfold gAs oS
  simp only [ble_self, roomB h, cond_true]
theorem gAq_eq {R : Type} {l p : List Int} {k : Option R} (h : l.length + p.length ≤ 1000000000) : gAq (oS l) p k = k := by
  unfold gAq oS
  simp only [ble_self, roomB h, cond_true]

/-! ### views -/
def viewB (v : Md.View) : List Int := numsB [v.shard, v.epoch, v.gen, v.phase] ++ memsB v.chain
def viewsB (l : List Md.View) : List Int := intB l.length ++ l.flatMap viewB
theorem views_in (N : Nat) (l : List Md.View) : callH envY (N + 1) F_lockgateref06_Views [encViews l] [] = gI (l.length : Int) fun y => LP envY N 0 F_lockgateref06_Views (hnK 0) 0 [] N (SL (encViews l) (oS (ne (intB y))) 0) := by kernel_rfl
def rg (i n : Int) {R : Type} (k : Option R) : Option R := bif decide (0 ≤ i) && decide (i < n) then k else none
theorem rg_eq {i n : Nat} (h : i < n) {R : Type} {k : Option R} : rg (i : Int) (n : Int) k = k := by
  unfold rg; rw [dec_nonneg, dec_nat, decide_eq_true h]; rfl
theorem views_step (N m : Nat) (l : List Md.View) (acc : List Int) (i : Int) : LP envY N 0 F_lockgateref06_Views (hnK 0) 0 [] (m + 1) (SL (encViews l) (oS acc) i) =
    bif decide (i < (l.length : Int)) then rg i l.length <| rg i l.length <| rg i l.length <| rg i l.length <|
      gNums [(l.getD i.toNat default).shard, (l.getD i.toNat default).epoch, (l.getD i.toNat default).gen, (l.getD i.toNat default).phase] fun y => gAp (oS acc) (ne (numsB y)) <| rg i l.length <|
        gMems (l.getD i.toNat default).chain fun z => gAs (apS (oS acc) (ne (numsB y))) (ne (memsB z)) <|
        LP envY N 0 F_lockgateref06_Views (hnK 0) 0 [] m (SL (encViews l) (apS (apS (oS acc) (ne (numsB y))) (ne (memsB z))) (IntKind.i64.wrap (i + 1)))
    else some (outB acc) := by kernel_rfl
def ViewOk (v : Md.View) : Prop := I64 v.shard ∧ I64 v.epoch ∧ I64 v.gen ∧ I64 v.phase ∧ MemsOk v.chain
def ViewsOk (l : List Md.View) : Prop := l.length ≤ 1000 ∧ ∀ v ∈ l, ViewOk v
theorem memsB_len {l : List Member} (h : MemsOk l) : (memsB l).length ≤ 11 + 22 * l.length := by
  have h1 := intB_len (l.length : Int)
  have h2 : (l.flatMap memB).length ≤ 22 * l.length := by
    clear h h1
    induction l with
    | nil => simp
    | cons a r ih =>
      have := numsB_len [a.node, a.boot]
      simp only [List.flatMap_cons, List.length_append, List.length_cons, List.length_nil, memB] at ih this ⊢
      omega
  simp only [memsB, List.length_append]; omega
theorem viewB_len {v : Md.View} (h : ViewOk v) : (viewB v).length ≤ 23000 := by
  have h1 := numsB_len [v.shard, v.epoch, v.gen, v.phase]
  have h2 := memsB_len h.2.2.2.2
  have h3 := h.2.2.2.2.1
  simp only [List.length_cons, List.length_nil] at h1
  simp only [viewB, List.length_append]; omega
theorem memsB_ne (l : List Member) : memsB l ≠ [] := by simp [memsB, intB_ne]
theorem views_con (l : List Md.View) (h : ViewsOk l) : Contract PG F_lockgateref06_Views [encViews l] [] (outB (ne (viewsB l))).1 (outB (ne (viewsB l))).2 := by
  refine list_conY (z := default) (c := 23000) h.1 (fun e he => viewB_len (h.2 e he)) (by omega) (fun N => views_in N l) (fun N m acc => ?_) (fun N m acc i hi ha => ?_)
  · rw [views_step, dec_nat, decide_eq_false (by omega), cond_false]
  · rw [views_step, dec_nat, decide_eq_true hi]
    simp only [cond_true, rg_eq hi, Int.toNat_natCast]
    have hx := h.2 _ (getD_mem hi (z := default))
    have hv := viewB_len hx
    obtain ⟨h1, h2, h3, h4, h5⟩ := hx
    simp only [viewB, List.length_append] at hv
    rw [gNums_eq ⟨by simp [LB], by simp, ac (p := I64) h1 (ac (p := I64) h2 (ac (p := I64) h3 (ac (p := I64) h4 an)))⟩, ne_eq (numsB_ne (by simp)), gAp_eq (by omega), apS_eq, gMems_eq h5, ne_eq (memsB_ne _), gAs_eq (by rw [List.length_append]; omega), apS_eq, wrapS (by have := h.1; omega), List.append_assoc]
    rfl

/-! ### seens -/
def seenB (s : Seen) : List Int := numsB [s.sess, s.num] ++ verB s.ver ++ numsB [s.kind, s.code] ++ textB s.res ++ [bitI s.hasRes]
def seensB (l : List Seen) : List Int := intB l.length ++ l.flatMap seenB
theorem seens_in (N : Nat) (l : List Seen) : callH envY (N + 1) F_lockgateref06_seens [encSeens l] [] = gI (l.length : Int) fun y => LP envY N 0 F_lockgateref06_seens (hnK 0) 0 [] N (SL (encSeens l) (oS (ne (intB y))) 0) := by kernel_rfl
theorem seens_step (N m : Nat) (l : List Seen) (acc : List Int) (i : Int) : LP envY N 0 F_lockgateref06_seens (hnK 0) 0 [] (m + 1) (SL (encSeens l) (oS acc) i) =
    bif decide (i < (l.length : Int)) then rg i l.length <| rg i l.length <|
      gNums [(l.getD i.toNat default).sess, (l.getD i.toNat default).num] fun y => gAp (oS acc) (ne (numsB y)) <| rg i l.length <|
      gVer (l.getD i.toNat default).ver fun v => gAs (apS (oS acc) (ne (numsB y))) (ne (verB v)) <| rg i l.length <| rg i l.length <|
      gNums [(l.getD i.toNat default).kind, (l.getD i.toNat default).code] fun w => gAs (apS (apS (oS acc) (ne (numsB y))) (ne (verB v))) (ne (numsB w)) <| rg i l.length <|
      gT (l.getD i.toNat default).res fun t => gAs (apS (apS (apS (oS acc) (ne (numsB y))) (ne (verB v))) (ne (numsB w))) (ne (textB t)) <| rg i l.length <|
      gBit (l.getD i.toNat default).hasRes fun b => gAq (apS (apS (apS (apS (oS acc) (ne (numsB y))) (ne (verB v))) (ne (numsB w))) (ne (textB t))) [bitI b] <|
        LP envY N 0 F_lockgateref06_seens (hnK 0) 0 [] m (SL (encSeens l) (apL (apS (apS (apS (apS (oS acc) (ne (numsB y))) (ne (verB v))) (ne (numsB w))) (ne (textB t))) [bitI b]) (IntKind.i64.wrap (i + 1)))
    else some (outB acc) := by kernel_rfl
def SeenOk (s : Seen) : Prop := I64 s.sess ∧ I64 s.num ∧ VInt s.ver ∧ I64 s.kind ∧ I64 s.code ∧ s.res.length ≤ 2000
def SeensOk (l : List Seen) : Prop := l.length ≤ 1000 ∧ ∀ v ∈ l, SeenOk v
theorem seenB_len {s : Seen} (h : SeenOk s) : (seenB s).length ≤ 3000 := by
  have h1 := numsB_len [s.sess, s.num]
  have h2 := numsB_len [s.kind, s.code]
  have h3 := verB_len s.ver
  have h4 := textB_len s.res
  have h5 := h.2.2.2.2.2
  simp only [List.length_cons, List.length_nil] at h1 h2
  simp only [seenB, List.length_append, List.length_cons, List.length_nil]; omega
theorem seens_con (l : List Seen) (h : SeensOk l) : Contract PG F_lockgateref06_seens [encSeens l] [] (outB (ne (seensB l))).1 (outB (ne (seensB l))).2 := by
  refine list_conY (z := default) (c := 3000) h.1 (fun e he => seenB_len (h.2 e he)) (by omega) (fun N => seens_in N l) (fun N m acc => ?_) (fun N m acc i hi ha => ?_)
  · rw [seens_step, dec_nat, decide_eq_false (by omega), cond_false]
  · rw [seens_step, dec_nat, decide_eq_true hi]
    simp only [cond_true, rg_eq hi, Int.toNat_natCast]
    have hx := h.2 _ (getD_mem hi (z := default))
    have hv := seenB_len hx
    obtain ⟨h1, h2, h3, h4, h5, h6⟩ := hx
    simp only [seenB, List.length_append, List.length_cons, List.length_nil] at hv
    rw [gNums_eq ⟨by simp [LB], by simp, ac (p := I64) h1 (ac (p := I64) h2 an)⟩, ne_eq (numsB_ne (by simp)), gAp_eq (by omega), apS_eq, gVer_eq h3, ne_eq (verB_ne _), gAs_eq (by rw [List.length_append]; omega), apS_eq,
      gNums_eq ⟨by simp [LB], by simp, ac (p := I64) h4 (ac (p := I64) h5 an)⟩, ne_eq (numsB_ne (by simp)), gAs_eq (by simp only [List.length_append]; omega), apS_eq, gT_eq (LB2 h6), ne_eq (textB_ne _), gAs_eq (by simp only [List.length_append]; omega), apS_eq,
      gBit_eq, gAq_eq (by simp only [List.length_append, List.length_cons, List.length_nil]; omega), apL_eq, wrapS (by have := h.1; omega)]
    simp only [seenB, List.append_assoc]
end Go.Wk
end

section
/- Bytes of images and messages. -/
open Go Go.AM Go.Md
namespace Go.Wk
set_option maxRecDepth 100000
set_option maxHeartbeats 2000000
theorem flat_len {X : Type} {p : X → List Int} {c : Nat} : ∀ {l : List X}, (∀ x ∈ l, (p x).length ≤ c) → (l.flatMap p).length ≤ c * l.length
  | [], _ => by simp
  | a :: r, h => by
    have h1 := h a (by simp)
    have h2 := flat_len (l := r) (p := p) (c := c) fun x hx => h x (by simp [hx])
    simp only [List.flatMap_cons, List.length_append, List.length_cons, Nat.mul_add, Nat.mul_one] at h2 ⊢
    omega
theorem flat_len' {X : Type} {p : X → List Int} {c : Nat} {l : List X} (hl : l.length ≤ 1000) (h : ∀ x ∈ l, (p x).length ≤ c) : (intB l.length ++ l.flatMap p).length ≤ 11 + c * 1000 := by
  have h1 := intB_len (l.length : Int)
  have h2 := flat_len h
  have h3 : c * l.length ≤ c * 1000 := Nat.mul_le_mul_left c hl
  simp only [List.length_append]; omega
theorem entsB_len {l : List Entry} (h : EntsOk l) : (entsB l).length ≤ 10000000 := by
  have := flat_len' (p := entB) h.1 fun x hx => entB_len (h.2 x hx)
  unfold entsB; omega
theorem seensB_len {l : List Seen} (h : SeensOk l) : (seensB l).length ≤ 10000000 := by
  have := flat_len' (p := seenB) h.1 fun x hx => seenB_len (h.2 x hx)
  unfold seensB; omega
theorem viewsB_len {l : List Md.View} (h : ViewsOk l) : (viewsB l).length ≤ 30000000 := by
  have := flat_len' (p := viewB) h.1 fun x hx => viewB_len (h.2 x hx)
  unfold viewsB; omega
theorem entsB_ne (l : List Entry) : entsB l ≠ [] := by simp [entsB, intB_ne]
theorem seensB_ne (l : List Seen) : seensB l ≠ [] := by simp [seensB, intB_ne]
theorem viewsB_ne (l : List Md.View) : viewsB l ≠ [] := by simp [viewsB, intB_ne]

noncomputable def gViews {R : Type} (l : List Md.View) (k : List Md.View → Option R) : Option R := gC (dL decView) ViewsOk (fun l => [encViews l]) [encViews l] k
theorem gViews_eq {R : Type} {l : List Md.View} {k : List Md.View → Option R} (h : ViewsOk l) : gViews l k = k l := gC_eq l (decViews l) h (.refl _)
noncomputable def kViews : Known := .specB F_lockgateref06_Views (dL decView) ViewsOk (fun l => [encViews l]) (fun l => outB (ne (viewsB l)))
theorem kViews_ok : kViews.Ok PG := Known.specB_ok views_con
noncomputable def gSeens {R : Type} (l : List Seen) (k : List Seen → Option R) : Option R := gC (dL decSeen) SeensOk (fun l => [encSeens l]) [encSeens l] k
theorem gSeens_eq {R : Type} {l : List Seen} {k : List Seen → Option R} (h : SeensOk l) : gSeens l k = k l := gC_eq l (decSeens l) h (.refl _)
noncomputable def kSeens : Known := .specB F_lockgateref06_seens (dL decSeen) SeensOk (fun l => [encSeens l]) (fun l => outB (ne (seensB l)))
theorem kSeens_ok : kSeens.Ok PG := Known.specB_ok seens_con
noncomputable def kns5 : List Known := [kInt', kText, kCat, kBit05, kBit06, kNums, kVer, kOp, kEnt, kMems, kEnts, kViews, kSeens]
theorem kns5_ok : ∀ k ∈ kns5, k.Ok PG := ak kInt'_ok (ak kText_ok (ak kCat_ok (ak kBit05_ok (ak kBit06_ok (ak kNums_ok (ak kVer_ok (ak kOp_ok (ak kEnt_ok (ak kMems_ok (ak kEnts_ok (ak kViews_ok (ak kSeens_ok ank))))))))))))
noncomputable def envZ : Env := envB kns5

/-! ### images -/
def imgB (x : Image) : List Int := verB x.floor ++ verB x.last ++ intB x.gen ++ entsB x.log ++ seensB x.seen
theorem img_eq (x : Image) : callH envZ 2 F_lockgateref06_Image [.agg (encImage x)] [] =
    gVer x.floor fun a => gVer x.last fun b => gAs (oS (ne (verB a))) (ne (verB b)) <|
    gI x.gen fun c => gAs (apS (oS (ne (verB a))) (ne (verB b))) (ne (intB c)) <|
    gEnts x.log fun d => gAs (apS (apS (oS (ne (verB a))) (ne (verB b))) (ne (intB c))) (ne (entsB d)) <|
    gSeens x.seen fun e => gAs (apS (apS (apS (oS (ne (verB a))) (ne (verB b))) (ne (intB c))) (ne (entsB d))) (ne (seensB e)) <|
    some (outX (apS (apS (apS (apS (oS (ne (verB a))) (ne (verB b))) (ne (intB c))) (ne (entsB d))) (ne (seensB e)))) := by kernel_rfl
def ImgOk (x : Image) : Prop := VInt x.floor ∧ VInt x.last ∧ I64 x.gen ∧ EntsOk x.log ∧ SeensOk x.seen
theorem imgB_len {x : Image} (h : ImgOk x) : (imgB x).length ≤ 30000000 := by
  obtain ⟨h1, h2, h3, h4, h5⟩ := h
  have a1 := verB_len x.floor
  have a2 := verB_len x.last
  have a3 := intB_len x.gen
  have a4 := entsB_len h4
  have a5 := seensB_len h5
  simp only [imgB, List.length_append]; omega
theorem imgB_ne (x : Image) : imgB x ≠ [] := by simp [imgB, verB_ne]
theorem img_con (x : Image) (h : ImgOk x) : Contract PG F_lockgateref06_Image [.agg (encImage x)] [] (outB (ne (imgB x))).1 (outB (ne (imgB x))).2 := by
  refine conB kns5_ok (n := 2) ((img_eq x).trans ?_)
  obtain ⟨h1, h2, h3, h4, h5⟩ := h
  have a1 := verB_len x.floor
  have a2 := verB_len x.last
  have a3 := intB_len x.gen
  have a4 := entsB_len h4
  have a5 := seensB_len h5
  rw [gVer_eq h1, gVer_eq h2, ne_eq (verB_ne _), ne_eq (verB_ne _), gAs_eq (by omega), apS_eq, gI_eq h3, ne_eq (intB_ne _), gAs_eq (by simp only [List.length_append]; omega), apS_eq,
    gEnts_eq h4, ne_eq (entsB_ne _), gAs_eq (by simp only [List.length_append]; omega), apS_eq, gSeens_eq h5, ne_eq (seensB_ne _), gAs_eq (by simp only [List.length_append]; omega), apS_eq, ne_eq (imgB_ne _)]
  rfl
noncomputable def gImg {R : Type} (l : Image) (k : Image → Option R) : Option R := gC (fun a => decImage (argC a 0)) ImgOk (fun l => [.agg (encImage l)]) [.agg (encImage l)] k
theorem gImg_eq {R : Type} {l : Image} {k : Image → Option R} (h : ImgOk l) : gImg l k = k l := gC_eq l (dec_encImage l) h (.refl _)
noncomputable def kImg : Known := .specB F_lockgateref06_Image (fun a => decImage (argC a 0)) ImgOk (fun l => [.agg (encImage l)]) (fun l => outB (ne (imgB l)))
theorem kImg_ok : kImg.Ok PG := Known.specB_ok img_con

/-! ### messages -/
noncomputable def kns6 : List Known := [kInt', kText, kCat, kBit05, kBit06, kNums, kVer, kOp, kEnt, kMems, kEnts, kViews, kSeens, kImg]
theorem kns6_ok : ∀ k ∈ kns6, k.Ok PG := ak kInt'_ok (ak kText_ok (ak kCat_ok (ak kBit05_ok (ak kBit06_ok (ak kNums_ok (ak kVer_ok (ak kOp_ok (ak kEnt_ok (ak kMems_ok (ak kEnts_ok (ak kViews_ok (ak kSeens_ok (ak kImg_ok ank)))))))))))))
noncomputable def envQ : Env := envB kns6
def msgN (x : Msg) : List Int := [x.kind, x.src, x.dst, x.boot, x.sboot, x.shard, x.epoch, x.gen, x.sess, x.num, x.a, x.code]
def msgB (x : Msg) : List Int := numsB (msgN x) ++ [bitI x.has, bitI x.fresh] ++ textB x.key ++ textB x.val ++ verB x.ver ++ verB x.floor ++ opB x.op ++ entsB x.entries ++ memsB x.chain ++ viewsB x.views ++ imgB x.image
/-- an append, and what follows it -/
def pA {R : Type} (x : Nat × (Nat → List AV)) (p : List Int) (k : Nat × (Nat → List AV) → Option R) : Option R := gAs x p (k (apS x p))
def pQ {R : Type} (x : Nat × (Nat → List AV)) (p : List Int) (k : Nat × (Nat → List AV) → Option R) : Option R := gAq x p (k (apL x p))
theorem pA_eq {R : Type} {l p : List Int} {k : Nat × (Nat → List AV) → Option R} (h : l.length + p.length ≤ 1000000000) : pA (oS l) p k = k (oS (l ++ p)) := by
  unfold pA; rw [gAs_eq h, apS_eq]
theorem pQ_eq {R : Type} {l p : List Int} {k : Nat × (Nat → List AV) → Option R} (h : l.length + p.length ≤ 1000000000) : pQ (oS l) p k = k (oS (l ++ p)) := by
  unfold pQ; rw [gAq_eq h, apL_eq]
theorem msg_eq (x : Msg) : callH envQ 2 F_lockgateref06_Msg [.agg (encMsg x)] [] =
    gNums (msgN x) fun y0 => gBit x.has fun y1 => gBit x.fresh fun y2 => pQ (oS (ne (numsB y0))) [bitI y1, bitI y2] fun s =>
    gT x.key fun y => pA s (ne (textB y)) fun s =>
    gT x.val fun y => pA s (ne (textB y)) fun s =>
    gVer x.ver fun y => pA s (ne (verB y)) fun s =>
    gVer x.floor fun y => pA s (ne (verB y)) fun s =>
    gOp x.op fun y => pA s (ne (opB y)) fun s =>
    gEnts x.entries fun y => pA s (ne (entsB y)) fun s =>
    gMems x.chain fun y => pA s (ne (memsB y)) fun s =>
    gViews x.views fun y => pA s (ne (viewsB y)) fun s =>
    gImg x.image fun y => pA s (ne (imgB y)) fun s =>
    some (outX s) := by kernel_rfl
def MsgOk (x : Msg) : Prop := (∀ n ∈ msgN x, I64 n) ∧ x.key.length ≤ 2000 ∧ x.val.length ≤ 2000 ∧ VInt x.ver ∧ VInt x.floor ∧ OpOk' x.op ∧ EntsOk x.entries ∧ MemsOk x.chain ∧ ViewsOk x.views ∧ ImgOk x.image
theorem msgB_ne (x : Msg) : msgB x ≠ [] := by simp [msgB, verB_ne]
theorem msg_con (x : Msg) (h : MsgOk x) : Contract PG F_lockgateref06_Msg [.agg (encMsg x)] [] (outB (ne (msgB x))).1 (outB (ne (msgB x))).2 := by
  refine conB kns6_ok (n := 2) ((msg_eq x).trans ?_)
  obtain ⟨h0, h1, h2, h3, h4, h5, h6, h7, h8, h9⟩ := h
  have a0 := numsB_len (msgN x)
  have a1 := textB_len x.key
  have a2 := textB_len x.val
  have a3 := verB_len x.ver
  have a4 := verB_len x.floor
  have a5 := opB_len h5
  have a6 := entsB_len h6
  have a7 := memsB_len h7
  have a7' := h7.1
  have a8 := viewsB_len h8
  have a9 := imgB_len h9
  have a0' : (msgN x).length = 12 := rfl
  rw [gNums_eq ⟨by simp [LB, a0'], by simp [msgN], h0⟩, gBit_eq, gBit_eq, ne_eq (numsB_ne (by simp [msgN])), pQ_eq (by simp only [List.length_cons, List.length_nil]; omega),
    gT_eq (LB2 h1), ne_eq (textB_ne _), pA_eq (by simp only [List.length_append, List.length_cons, List.length_nil]; omega),
    gT_eq (LB2 h2), ne_eq (textB_ne _), pA_eq (by simp only [List.length_append, List.length_cons, List.length_nil]; omega),
    gVer_eq h3, ne_eq (verB_ne _), pA_eq (by simp only [List.length_append, List.length_cons, List.length_nil]; omega),
    gVer_eq h4, ne_eq (verB_ne _), pA_eq (by simp only [List.length_append, List.length_cons, List.length_nil]; omega),
    gOp_eq h5, ne_eq (opB_ne _), pA_eq (by simp only [List.length_append, List.length_cons, List.length_nil]; omega),
    gEnts_eq h6, ne_eq (entsB_ne _), pA_eq (by simp only [List.length_append, List.length_cons, List.length_nil]; omega),
    gMems_eq h7, ne_eq (memsB_ne _), pA_eq (by simp only [List.length_append, List.length_cons, List.length_nil]; omega),
    gViews_eq h8, ne_eq (viewsB_ne _), pA_eq (by simp only [List.length_append, List.length_cons, List.length_nil]; omega),
    gImg_eq h9, ne_eq (imgB_ne _), pA_eq (by simp only [List.length_append, List.length_cons, List.length_nil]; omega), ne_eq (msgB_ne _)]
  rfl
theorem msgB_len {x : Msg} (h : MsgOk x) : (msgB x).length ≤ 100000000 := by
  obtain ⟨h0, h1, h2, h3, h4, h5, h6, h7, h8, h9⟩ := h
  have a0 := numsB_len (msgN x)
  have a1 := textB_len x.key
  have a2 := textB_len x.val
  have a3 := verB_len x.ver
  have a4 := verB_len x.floor
  have a5 := opB_len h5
  have a6 := entsB_len h6
  have a7 := memsB_len h7
  have a7' := h7.1
  have a8 := viewsB_len h8
  have a9 := imgB_len h9
  have a0' : (msgN x).length = 12 := rfl
  simp only [msgB, List.length_append, List.length_cons, List.length_nil]; omega
noncomputable def kMsg : Known := .specB F_lockgateref06_Msg (fun a => decMsg (argC a 0)) MsgOk (fun l => [.agg (encMsg l)]) (fun l => outB (ne (msgB l)))
theorem kMsg_ok : kMsg.Ok PG := Known.specB_ok msg_con
noncomputable def gMsg {R : Type} (l : Msg) (k : Msg → Option R) : Option R := gC (fun a => decMsg (argC a 0)) MsgOk (fun l => [.agg (encMsg l)]) [.agg (encMsg l)] k
theorem gMsg_eq {R : Type} {l : Msg} {k : Msg → Option R} (h : MsgOk l) : gMsg l k = k l := gC_eq l (dec_encMsg l) h (.refl _)
end Go.Wk
end

section
/- Messages held against themselves. -/
open Go Go.AM Go.Md
namespace Go.Wk
set_option maxRecDepth 100000
set_option maxHeartbeats 2000000
theorem wrapB {i : Nat} (h : i < 1000000000) : IntKind.i64.wrap ((i : Int) + 1) = ((i + 1 : Nat) : Int) := wrap64 (by omega)
theorem scan_loopB {n : Nat} (hn : n ≤ 1000000000) {G : Nat → Int → Option AV} {C : Nat → Bool}
    (hs : ∀ m (i : Int), G (m + 1) i = bif decide (i < (n : Int)) then rg i n <| rg i n <|
      bif !(C i.toNat) then some (.bool false) else G m (IntKind.i64.wrap (i + 1)) else some (.bool true))
    (hC : ∀ i, i < n → C i = true) {m : Nat} (hm : n < m) : G m 0 = some (.bool true) := by
  refine up_loop (n := n) (fun i m => G m (i : Int) = some (.bool true)) (fun m => ?_) (fun i m hi ih => ?_) 0 m (Nat.zero_le _) (by omega)
  · rw [hs, dec_nat, decide_eq_false (by omega), cond_false]
  · rw [hs, dec_nat, decide_eq_true hi]
    simp only [cond_true, rg_eq hi, Int.toNat_natCast, hC i hi, Bool.not_true, cond_false]
    rw [wrapB (by omega)]; exact ih
def SSb (a : List Int) (i : Int) : St := { fr := [(0, encBy a), (1, encBy a), (5, .int .i64 i)], hp := [] }
theorem same03_in (N : Nat) (x : List Int) : callT env0 (N + 1) F_lockgateref03_Same [encBy x, encBy x] = bif !decide ((x.length : Int) = (x.length : Int)) then some (.bool false) else LP env0 N 0 F_lockgateref03_Same snK 0 [] N (SSb x 0) := by kernel_rfl
theorem same03_step (N : Nat) (a : List Int) (m : Nat) (i : Int) : LP env0 N 0 F_lockgateref03_Same snK 0 [] (m + 1) (SSb a i) =
    bif decide (i < (a.length : Int)) then rg i a.length <| rg i a.length <|
      bif !(decide (a.getD i.toNat 0 = a.getD i.toNat 0)) then some (.bool false) else LP env0 N 0 F_lockgateref03_Same snK 0 [] m (SSb a (IntKind.i64.wrap (i + 1))) else some (.bool true) := by kernel_rfl
theorem same03_con (a : List Int) (h : a.length ≤ 1000000000) : Contract PG F_lockgateref03_Same [encBy a, encBy a] [] (.bool true) [] := by
  refine con0 ((same03_in (a.length + 1) a).trans ?_)
  rw [decide_eq_true rfl]
  exact scan_loopB (G := fun m i => LP env0 (a.length + 1) 0 F_lockgateref03_Same snK 0 [] m (SSb a i)) (C := fun i => decide (a.getD i 0 = a.getD i 0)) h (same03_step _ a) (fun i hi => by simp) (by omega)
noncomputable def kSame03 : Known := .spec F_lockgateref03_Same (dL decB) (fun a => a.length ≤ 1000000000) (fun l => [encBy l, encBy l]) (fun _ => .bool true)
theorem kSame03_ok : kSame03.Ok PG := Known.spec_ok same03_con
noncomputable def gSame03 {R : Type} (a b : List Int) (k : List Int → Option R) : Option R := gC (dL decB) (fun a => a.length ≤ 1000000000) (fun l => [encBy l, encBy l]) [encBy a, encBy b] k
theorem gSame03_eq {R : Type} {a : List Int} {k : List Int → Option R} (h : a.length ≤ 1000000000) : gSame03 a a k = k a := gC_eq a (decBy a) h (.refl _)

noncomputable def kns7 : List Known := [kMsg, kSame03]
theorem kns7_ok : ∀ k ∈ kns7, k.Ok PG := ak kMsg_ok (ak kSame03_ok ank)
noncomputable def env7 : Env := envB kns7
theorem same06_eq (x : Msg) : callT env7 2 F_lockgateref06_Same [.agg (encMsg x), .agg (encMsg x)] = gMsg x fun a => gMsg x fun b =>
    bif Nat.ble (ne (msgB a)).length (ne (msgB a)).length && (Nat.ble (ne (msgB b)).length (ne (msgB b)).length && true) then gSame03 (ne (msgB a)) (ne (msgB b)) fun _ => some (.bool true) else none := by kernel_rfl
theorem conBT {l : List Known} (h : ∀ k ∈ l, k.Ok PG) {n f : Nat} {xs : List AV} {r : AV} (e : callT (envB l) n f xs = some r) : Contract PG f xs [] r [] :=
  callT_ok (envM_ok (md := mdB) h) envM_code mixed e
theorem same06_con (x : Msg) (h : MsgOk x) : Contract PG F_lockgateref06_Same [.agg (encMsg x), .agg (encMsg x)] [] (.bool true) [] := by
  refine conBT kns7_ok (n := 2) ((same06_eq x).trans ?_)
  rw [gMsg_eq h, gMsg_eq h, ne_eq (msgB_ne _)]
  simp only [ble_self, Bool.and_true, cond_true]
  rw [gSame03_eq (by have := msgB_len h; omega)]
noncomputable def kSame06 : Known := .spec F_lockgateref06_Same (fun a => decMsg (argC a 0)) MsgOk (fun l => [.agg (encMsg l), .agg (encMsg l)]) (fun _ => .bool true)
theorem kSame06_ok : kSame06.Ok PG := Known.spec_ok same06_con

/-! ### lists of messages -/
noncomputable def env8 : Env := envB [kSame06]
def SSg (a : List Msg) (i : Int) : St := { fr := [(0, encMsgs a), (1, encMsgs a), (5, .int .i64 i)], hp := [] }
noncomputable def gSame06 {R : Type} (x : Msg) (k : Msg → Option R) : Option R := gC (fun a => decMsg (argC a 0)) MsgOk (fun l => [.agg (encMsg l), .agg (encMsg l)]) [.agg (encMsg x), .agg (encMsg x)] k
theorem gSame06_eq {R : Type} {x : Msg} {k : Msg → Option R} (h : MsgOk x) : gSame06 x k = k x := gC_eq x (dec_encMsg x) h (.refl _)
theorem sameAll_in (N : Nat) (x : List Msg) : callT env8 (N + 1) F_lockgateref06_SameAll [encMsgs x, encMsgs x] = bif !decide ((x.length : Int) = (x.length : Int)) then some (.bool false) else LP env8 N 0 F_lockgateref06_SameAll snK 0 [] N (SSg x 0) := by kernel_rfl
theorem sameAll_step (N : Nat) (a : List Msg) (m : Nat) (i : Int) : LP env8 N 0 F_lockgateref06_SameAll snK 0 [] (m + 1) (SSg a i) =
    bif decide (i < (a.length : Int)) then rg i a.length <| rg i a.length <|
      gSame06 (a.getD i.toNat default) fun _ => LP env8 N 0 F_lockgateref06_SameAll snK 0 [] m (SSg a (IntKind.i64.wrap (i + 1))) else some (.bool true) := by kernel_rfl
def MsgsOk (l : List Msg) : Prop := l.length ≤ LB ∧ ∀ x ∈ l, MsgOk x
theorem sameAll_con (a : List Msg) (h : MsgsOk a) : Contract PG F_lockgateref06_SameAll [encMsgs a, encMsgs a] [] (.bool true) [] := by
  refine conBT (ak kSame06_ok ank) ((sameAll_in (a.length + 1) a).trans ?_)
  rw [decide_eq_true rfl, Bool.not_true, cond_false]
  refine up_loop (n := a.length) (fun i m => LP env8 (a.length + 1) 0 F_lockgateref06_SameAll snK 0 [] m (SSg a (i : Int)) = some (.bool true)) (fun m => ?_) (fun i m hi ih => ?_) 0 (a.length + 1) (Nat.zero_le _) (by omega)
  · rw [sameAll_step, dec_nat, decide_eq_false (by omega), cond_false]
  · rw [sameAll_step, dec_nat, decide_eq_true hi]
    simp only [cond_true, rg_eq hi, Int.toNat_natCast]
    rw [gSame06_eq (h.2 _ (getD_mem hi)), wrapS (by have := h.1; unfold LB at this; omega)]
    exact ih
noncomputable def kSameAll : Known := .spec F_lockgateref06_SameAll (dL decMsg) MsgsOk (fun l => [encMsgs l, encMsgs l]) (fun _ => .bool true)
theorem kSameAll_ok : kSameAll.Ok PG := Known.spec_ok sameAll_con
end Go.Wk
end

section
/- Versions: pairs of small whole numbers; their order, the next one. -/
open Go Go.AM Go.Md Go.Fl
open Ieee (double)
namespace Go.Wk
set_option maxRecDepth 100000
set_option maxHeartbeats 1000000
theorem ahead_eq (a b : Ver) : callT env0 4 F_ver_Ahead [eV a, eV b] = bif !fEq .f64 a.re b.re then some (.bool (fLt .f64 a.re b.re)) else some (.bool (fLt .f64 a.im b.im)) := by kernel_rfl
def eV2 (p : Ver × Ver) : List AV := [eV p.1, eV p.2]
def dV2 (a : List AV) : Ver × Ver := (⟨(getC a 0).1, (getC a 0).2⟩, ⟨(getC a 1).1, (getC a 1).2⟩)
def V2 (p : Ver × Ver) : Prop := VNum p.1 ∧ VNum p.2
theorem qV2 {R : Type} {a b : Ver} {k : Ver × Ver → Option R} (ha : VNum a) (hb : VNum b) : gC dV2 V2 eV2 [.cplx .f64 a.re a.im, .cplx .f64 b.re b.im] k = k (a, b) := gC_eq (a, b) rfl ⟨ha, hb⟩ (.refl _)
theorem ahead_con (p : Ver × Ver) (h : V2 p) : Contract PG F_ver_Ahead [eV p.1, eV p.2] [] (.bool (vlt p.1 p.2)) [] := by
  refine con0 ((ahead_eq p.1 p.2).trans ?_)
  rw [bif_not, bif_some, ← fvlt h.1 h.2]
  cases fEq .f64 p.1.re p.2.re <;> rfl
noncomputable def kAhead : Known := .spec F_ver_Ahead dV2 V2 eV2 (fun p => .bool (vlt p.1 p.2))
theorem kAhead_ok : kAhead.Ok PG := Known.spec_ok ahead_con
theorem later_eq (a b : Ver) : callT env0 4 F_ver_Later [eV a, eV b] = bif !fEq .f64 b.re a.re then bif fLt .f64 b.re a.re then some (eV a) else some (eV b) else bif fLt .f64 b.im a.im then some (eV a) else some (eV b) := by kernel_rfl
theorem later_con (p : Ver × Ver) (h : V2 p) : Contract PG F_ver_Later [eV p.1, eV p.2] [] (eV (vmax p.1 p.2)) [] := by
  refine con0 ((later_eq p.1 p.2).trans ?_)
  rw [bif_not, ← vmax_swap h.1 h.2, ← fvlt h.2 h.1]
  cases fEq .f64 p.2.re p.1.re <;> cases fLt .f64 p.2.im p.1.im <;> cases fLt .f64 p.2.re p.1.re <;> rfl
noncomputable def kLater : Known := .spec F_ver_Later dV2 V2 eV2 (fun p => eV (vmax p.1 p.2))
theorem kLater_ok : kLater.Ok PG := Known.spec_ok later_con
end Go.Wk
end

section
/- The reference's functions of versions, and the program's next one. -/
open Go Go.AM Go.Md Go.Fl
namespace Go.Wk
set_option maxRecDepth 100000
set_option maxHeartbeats 1000000
def gF {R : Type} (b : Nat) (k : Option R) : Option R := bif (fI b).isSome then bif decide (IntKind.i64.min ≤ (fI b).getD 0) && decide ((fI b).getD 0 ≤ IntKind.i64.max) then k else none else none
theorem gF_eq {R : Type} {b : Nat} {k : Option R} (h : okI b) : gF b k = k := by
  obtain ⟨h1, h2, h3⟩ := h
  unfold gF; rw [h1, decide_eq_true h2, decide_eq_true h3]; rfl
theorem rahead_eq (a b : Ver) : callT env0 4 F_lockgateref01_Ahead [eV a, eV b] = gF a.re (gF b.re (bif decide (vE a = vE b) then gF a.im (gF b.im (some (.bool (decide (vN a < vN b))))) else gF a.re (gF b.re (some (.bool (decide (vE a < vE b))))))) := by kernel_rfl
theorem rahead_con (p : Ver × Ver) (h : V2 p) : Contract PG F_lockgateref01_Ahead [eV p.1, eV p.2] [] (.bool (vlt p.1 p.2)) [] := by
  refine con0 ((rahead_eq p.1 p.2).trans ?_)
  obtain ⟨ha, hb⟩ := h
  simp only [gF_eq ha.int.1, gF_eq ha.int.2, gF_eq hb.int.1, gF_eq hb.int.2, vE_ep ha, vE_ep hb, vN_nu ha, vN_nu hb, dec_int, dec_ilt]
  unfold vlt
  cases decide (ep p.1 = ep p.2) <;> rfl
noncomputable def kRAhead : Known := .spec F_lockgateref01_Ahead dV2 V2 eV2 (fun p => .bool (vlt p.1 p.2))
theorem kRAhead_ok : kRAhead.Ok PG := Known.spec_ok rahead_con
theorem rlater_eq (a b : Ver) : callT env0 4 F_lockgateref01_Later [eV a, eV b] = gF a.re (gF b.re (bif decide (vE a = vE b) then gF a.im (gF b.im (bif decide (vN a < vN b) then some (eV b) else some (eV a))) else gF a.re (gF b.re (bif decide (vE a < vE b) then some (eV b) else some (eV a))))) := by kernel_rfl
theorem rlater_con (p : Ver × Ver) (h : V2 p) : Contract PG F_lockgateref01_Later [eV p.1, eV p.2] [] (eV (vmax p.1 p.2)) [] := by
  refine con0 ((rlater_eq p.1 p.2).trans ?_)
  obtain ⟨ha, hb⟩ := h
  simp only [gF_eq ha.int.1, gF_eq ha.int.2, gF_eq hb.int.1, gF_eq hb.int.2, vE_ep ha, vE_ep hb, vN_nu ha, vN_nu hb, dec_int, dec_ilt]
  unfold vmax vlt
  cases decide (ep p.1 = ep p.2) <;> cases decide (nu p.1 < nu p.2) <;> cases decide (ep p.1 < ep p.2) <;> rfl
noncomputable def kRLater : Known := .spec F_lockgateref01_Later dV2 V2 eV2 (fun p => eV (vmax p.1 p.2))
theorem kRLater_ok : kRLater.Ok PG := Known.spec_ok rlater_con

/-! ### numbers -/
def dV1 (a : List AV) : Ver := ⟨(getC a 0).1, (getC a 0).2⟩
def eV1 (v : Ver) : List AV := [eV v]
theorem qV1 {R : Type} {a : Ver} {k : Ver → Option R} (ha : VNum a) : gC dV1 VNum eV1 [.cplx .f64 a.re a.im] k = k a := gC_eq a rfl ha (.refl _)
theorem num_eq (a : Ver) : callT env0 4 F_ver_Num [eV a] = gF a.im (some (.int .i64 (vN a))) := by kernel_rfl
theorem rnum_eq (a : Ver) : callT env0 4 F_lockgateref01_Num [eV a] = gF a.im (some (.int .i64 (vN a))) := by kernel_rfl
theorem num_con (a : Ver) (h : VNum a) : Contract PG F_ver_Num [eV a] [] (.int .i64 (nu a)) [] := con0 ((num_eq a).trans (by rw [gF_eq h.int.2, vN_nu h]))
theorem rnum_con (a : Ver) (h : VNum a) : Contract PG F_lockgateref01_Num [eV a] [] (.int .i64 (nu a)) [] := con0 ((rnum_eq a).trans (by rw [gF_eq h.int.2, vN_nu h]))
noncomputable def kNum : Known := .spec F_ver_Num dV1 VNum eV1 (fun p => .int .i64 (nu p))
theorem kNum_ok : kNum.Ok PG := Known.spec_ok num_con
noncomputable def kRNum : Known := .spec F_lockgateref01_Num dV1 VNum eV1 (fun p => .int .i64 (nu p))
theorem kRNum_ok : kRNum.Ok PG := Known.spec_ok rnum_con

/-! ### making versions -/
def dI2 (a : List AV) : Nat × Nat := ((getI a 0).toNat, (getI a 1).toNat)
theorem make_eq (a b : Int) : callT env0 4 F_ver_Make [.int .i64 a, .int .i64 b] = some (.cplx .f64 (FloatKind.f64.nearest a) (FloatKind.f64.nearest b)) := by kernel_rfl
theorem rmake_eq (a b : Int) : callT env0 4 F_lockgateref01_Make [.int .i64 a, .int .i64 b] = some (.cplx .f64 (FloatKind.f64.nearest a) (FloatKind.f64.nearest b)) := by kernel_rfl
theorem make_con (p : Nat × Nat) (_ : True) : Contract PG F_ver_Make [.int .i64 p.1, .int .i64 p.2] [] (eV (vr p.1 p.2)) [] := con0 ((make_eq p.1 p.2).trans (by rw [near_fl, near_fl]; rfl))
theorem rmake_con (p : Nat × Nat) (_ : True) : Contract PG F_lockgateref01_Make [.int .i64 p.1, .int .i64 p.2] [] (eV (vr p.1 p.2)) [] := con0 ((rmake_eq p.1 p.2).trans (by rw [near_fl, near_fl]; rfl))
def pI2 (_ : Nat × Nat) : Prop := True
def eI2 (p : Nat × Nat) : List AV := [.int .i64 p.1, .int .i64 p.2]
noncomputable def kMake : Known := .spec F_ver_Make dI2 pI2 eI2 (fun p => eV (vr p.1 p.2))
theorem kMake_ok : kMake.Ok PG := Known.spec_ok make_con
noncomputable def kRMake : Known := .spec F_lockgateref01_Make dI2 pI2 eI2 (fun p => eV (vr p.1 p.2))
theorem kRMake_ok : kRMake.Ok PG := Known.spec_ok rmake_con
def dVI (a : List AV) : Ver × Nat := (⟨(getC a 0).1, (getC a 0).2⟩, (getI a 1).toNat)
theorem next_eq (a : Ver) (e : Int) : callT env0 4 F_ver_Next [eV a, .int .i64 e] = bif (FloatKind.f64.format.add a.im 4607182418800017408).isSome then some (.cplx .f64 (FloatKind.f64.nearest e) ((FloatKind.f64.format.add a.im 4607182418800017408).getD 0)) else none := by kernel_rfl
theorem next_con (p : Ver × Nat) (h : VNum p.1) : Contract PG F_ver_Next [eV p.1, .int .i64 p.2] [] (eV (vr p.2 (nu p.1 + 1))) [] := by
  refine con0 ((next_eq p.1 p.2).trans ?_)
  have h2 := h.lt
  have e : p.1.im = fl (nu p.1) := congrArg Ver.im h.eta
  rw [e, next_fl (by omega), near_fl, Option.isSome_some, cond_true, Option.getD_some]
  rfl
def pVI (p : Ver × Nat) : Prop := VNum p.1
def eVI (p : Ver × Nat) : List AV := [eV p.1, .int .i64 p.2]
noncomputable def kNext : Known := .spec F_ver_Next dVI pVI eVI (fun p => eV (vr p.2 (nu p.1 + 1)))
theorem kNext_ok : kNext.Ok PG := Known.spec_ok next_con

/-! ### as the callers see them -/
noncomputable def gAhead {R : Type} (a b : Ver) (k : Ver × Ver → Option R) : Option R := gC dV2 V2 eV2 [eV a, eV b] k
theorem gAhead_eq {R : Type} {a b : Ver} {k : Ver × Ver → Option R} (ha : VNum a) (hb : VNum b) : gAhead a b k = k (a, b) := gC_eq (a, b) rfl ⟨ha, hb⟩ (.refl _)
noncomputable def gNum {R : Type} (a : Ver) (k : Ver → Option R) : Option R := gC dV1 VNum eV1 [eV a] k
theorem gNum_eq {R : Type} {a : Ver} {k : Ver → Option R} (ha : VNum a) : gNum a k = k a := gC_eq a rfl ha (.refl _)
end Go.Wk
end

section
/- A member of a chain: does it live, work, lead; what it knows to be committed. -/
open Go Go.AM Go.Md
namespace Go.Wk
set_option maxRecDepth 100000
set_option maxHeartbeats 1000000
def dRep1 (a : List AV) : Rep := decRep (argC a 0)
def pRep1 (_ : Rep) : Prop := True
def eRep1 (r : Rep) : List AV := [.agg (encRep r)]
def pChain1 (r : Rep) : Prop := r.view.chain.length ≤ LB
theorem qRep1 {R : Type} {r : Rep} {P : Rep → Prop} {k : Rep → Option R} (h : P r) : gC dRep1 P eRep1 [.agg (encRep r)] k = k r := gC_eq r (dec_encRep r) h (.refl _)
noncomputable def kns8 : List Known := [kIndex, kRIndex]
theorem kns8_ok : ∀ k ∈ kns8, k.Ok PG := ak kIndex_ok (ak kRIndex_ok ank)
noncomputable def envH : Env := envO kns8
theorem conH {n f : Nat} {xs : List AV} {r : AV} (e : callT envH n f xs = some r) : Contract PG f xs [] r [] := con_of (md := fun _ => none) kns8_ok e
def chF (l : List Member) (m : Member) : Bool := decide ((l.getD (Int.toNat 0) default).node = m.node) && (decide ((l.getD (Int.toNat 0) default).boot = m.boot) && true)
/-- the test whether a member is a chain's head, as the program does it -/
def gFst {R : Type} (l : List Member) (m : Member) (no : Option R) (k : Bool → Option R) : Option R := bif decide ((l.length : Int) = 0) then no else bif decide (0 < (l.length : Int)) then k (chF l m) else none
theorem gFst_eq {R : Type} {l : List Member} {m : Member} {no : Option R} {k : Bool → Option R} (h : no = k false) : gFst l m no k = k (isFirst l m) := by
  unfold gFst
  cases l with
  | nil => exact h
  | cons x r =>
    rw [decide_eq_false (by simp only [List.length_cons]; omega), cond_false, decide_eq_true (by simp only [List.length_cons]; omega), cond_true]
    unfold chF isFirst
    rw [Bool.and_true]
    exact congrArg k (mem_eq x m)
theorem head_eq (r : Rep) : callT envH 6 F_chain_Head [.agg (encRep r)] = bif !decide (r.view.phase = 0) then bif decide (r.frozen ≤ r.view.epoch) then bif decide (r.view.phase = 3) then
    gFst r.view.chain r.self (some (.bool false)) fun b => some (.bool b) else some (.bool false) else some (.bool false) else some (.bool false) := by kernel_rfl
theorem head_con (r : Rep) (_ : True) : Contract PG F_chain_Head [.agg (encRep r)] [] (.bool (headP r)) [] := by
  refine conH ((head_eq r).trans ?_)
  rw [gFst_eq (no := some (AV.bool false)) (k := fun b => some (AV.bool b)) rfl]
  unfold headP worksP liveP
  cases decide (r.view.phase = 0) <;> cases decide (r.frozen ≤ r.view.epoch) <;> cases decide (r.view.phase = 3) <;> rfl
noncomputable def kHead : Known := .spec F_chain_Head dRep1 pRep1 eRep1 (fun r => .bool (headP r))
theorem kHead_ok : kHead.Ok PG := Known.spec_ok head_con
noncomputable def gIdxR {R : Type} (l : List Member) (m : Member) (k : List Member × Member → Option R) : Option R := gC decLM preLM encLM [encMembers l, .agg (encMember m)] k
theorem gIdxR_eq {R : Type} {l : List Member} {m : Member} {k : List Member × Member → Option R} (h : l.length ≤ LB) : gIdxR l m k = k (l, m) := gC_eq (l, m) (by unfold decLM; exact Prod.ext (decMembers l) rfl) h (.refl _)
theorem rhead_eq (r : Rep) : callT envH 6 F_lockgateref18_Head [.agg (encRep r)] = bif !decide (r.view.phase = 0) then bif decide (r.frozen ≤ r.view.epoch) then bif decide (r.view.phase = 3) then
    gIdxR r.view.chain r.self fun y => some (.bool (decide (idx y.1 y.2 = 0))) else some (.bool false) else some (.bool false) else some (.bool false) := by kernel_rfl
theorem rhead_con (r : Rep) (h : r.view.chain.length ≤ LB) : Contract PG F_lockgateref18_Head [.agg (encRep r)] [] (.bool (headP r)) [] := by
  refine conH ((rhead_eq r).trans ?_)
  rw [gIdxR_eq h, idx_first]
  unfold headP worksP liveP
  cases decide (r.view.phase = 0) <;> cases decide (r.frozen ≤ r.view.epoch) <;> cases decide (r.view.phase = 3) <;> rfl
noncomputable def kRHead : Known := .spec F_lockgateref18_Head dRep1 pChain1 eRep1 (fun r => .bool (headP r))
theorem kRHead_ok : kRHead.Ok PG := Known.spec_ok rhead_con
theorem syncs_eq (r : Rep) : callT envH 6 F_chain_syncs [.agg (encRep r)] = bif !decide (r.view.phase = 0) then bif decide (r.frozen ≤ r.view.epoch) then some (.bool (decide (r.view.phase = 2))) else some (.bool false) else some (.bool false) := by kernel_rfl
theorem syncs_con (r : Rep) (_ : True) : Contract PG F_chain_syncs [.agg (encRep r)] [] (.bool (syncsP r)) [] := by
  refine conH ((syncs_eq r).trans ?_)
  unfold syncsP liveP
  cases decide (r.view.phase = 0) <;> cases decide (r.frozen ≤ r.view.epoch) <;> rfl
noncomputable def kSyncs : Known := .spec F_chain_syncs dRep1 pRep1 eRep1 (fun r => .bool (syncsP r))
theorem kSyncs_ok : kSyncs.Ok PG := Known.spec_ok syncs_con
theorem commit_eq (r : Rep) : callT envH 6 F_chain_Commit [.agg (encRep r)] = bif !decide (r.view.phase = 0) then bif decide (r.frozen ≤ r.view.epoch) then bif decide (r.view.phase = 3) then
    gFst r.view.chain r.self (some (eV ⟨0, 0⟩)) fun b => bif !b then some (eV ⟨0, 0⟩) else bif decide ((r.view.chain.length : Int) = 1) then some (eV r.tail.last) else some (eV r.got)
    else some (eV ⟨0, 0⟩) else some (eV ⟨0, 0⟩) else some (eV ⟨0, 0⟩) := by kernel_rfl
theorem commit_con (r : Rep) (_ : True) : Contract PG F_chain_Commit [.agg (encRep r)] [] (eV (commitP r)) [] := by
  refine conH ((commit_eq r).trans ?_)
  rw [gFst_eq (no := some (eV ⟨0, 0⟩)) (k := fun b => bif !b then some (eV ⟨0, 0⟩) else bif decide ((r.view.chain.length : Int) = 1) then some (eV r.tail.last) else some (eV r.got)) rfl, show decide ((r.view.chain.length : Int) = 1) = decide (r.view.chain.length = 1) from dec_int _ 1]
  unfold commitP headP worksP liveP
  cases decide (r.view.phase = 0) <;> cases decide (r.frozen ≤ r.view.epoch) <;> cases decide (r.view.phase = 3) <;> cases isFirst r.view.chain r.self <;> cases decide (r.view.chain.length = 1) <;> rfl
noncomputable def kCommit : Known := .spec F_chain_Commit dRep1 pRep1 eRep1 (fun r => eV (commitP r))
theorem kCommit_ok : kCommit.Ok PG := Known.spec_ok commit_con
end Go.Wk
end

section
/- A member in memory of its own. -/
open Go Go.AM Go.Md
namespace Go.Wk
set_option maxRecDepth 100000
set_option maxHeartbeats 1000000
noncomputable def gClM {R : Type} (l : List Member) (k : List Member → Option R) : Option R := gC (dL decMember) shortL eMems [encMembers l] k
noncomputable def gClE {R : Type} (l : List Entry) (k : List Entry → Option R) : Option R := gC (dL decEntry) shortL eEnts [encEntrys l] k
noncomputable def gClS {R : Type} (l : List Seen) (k : List Seen → Option R) : Option R := gC (dL decSeen) shortL eSeens [encSeens l] k
noncomputable def gClB {R : Type} (l : List Bool) (k : List Bool → Option R) : Option R := gC (dL decBool) shortL eBools [encBools l] k
theorem gClM_eq {R : Type} {l : List Member} {k : List Member → Option R} (h : shortL l) : gClM l k = k l := gC_eq l (decMembers l) h (.refl _)
theorem gClE_eq {R : Type} {l : List Entry} {k : List Entry → Option R} (h : shortL l) : gClE l k = k l := gC_eq l (decEntrys l) h (.refl _)
theorem gClS_eq {R : Type} {l : List Seen} {k : List Seen → Option R} (h : shortL l) : gClS l k = k l := gC_eq l (decSeens l) h (.refl _)
theorem gClB_eq {R : Type} {l : List Bool} {k : List Bool → Option R} (h : shortL l) : gClB l k = k l := gC_eq l (decBools l) h (.refl _)
noncomputable def kns9 : List Known := [kCloneMember, kCloneEntry, kCloneSeen, kCloneBool]
theorem kns9_ok : ∀ k ∈ kns9, k.Ok PG := ak kCloneMember_ok (ak kCloneEntry_ok (ak kCloneSeen_ok (ak kCloneBool_ok ank)))
noncomputable def envC : Env := envO kns9
theorem conC {n f : Nat} {xs : List AV} {r : AV} (e : callT envC n f xs = some r) : Contract PG f xs [] r [] := con_of (md := fun _ => none) kns9_ok e
theorem own_eq (r : Rep) : callT envC 3 F_chain_own [.agg (encRep r)] = gClM r.view.chain fun a => gClE r.tail.log fun b => gClS r.seen fun c => gClB r.synced fun d =>
    some (.agg (encRep { r with view := { r.view with chain := a }, tail := { r.tail with log := b }, seen := c, synced := d })) := by kernel_rfl
def RepShort (r : Rep) : Prop := shortL r.view.chain ∧ shortL r.tail.log ∧ shortL r.seen ∧ shortL r.synced
theorem own_con (r : Rep) (h : RepShort r) : Contract PG F_chain_own [.agg (encRep r)] [] (.agg (encRep r)) [] :=
  conC ((own_eq r).trans (by rw [gClM_eq h.1, gClE_eq h.2.1, gClS_eq h.2.2.1, gClB_eq h.2.2.2]))
noncomputable def kOwn : Known := .spec F_chain_own dRep1 RepShort eRep1 (fun r => .agg (encRep r))
theorem kOwn_ok : kOwn.Ok PG := Known.spec_ok own_con

/-! ### messages a member sends -/
def toP (r : Rep) (x : Member) (kind : Int) : Msg := { (default : Msg) with kind := kind, src := r.self.node, dst := x.node, boot := x.boot, sboot := r.self.boot, shard := r.shard, epoch := r.view.epoch }
end Go.Wk
end

section
/- What a member's messages and notes of entries hold. -/
open Go Go.AM Go.Md
namespace Go.Wk
set_option maxRecDepth 100000
set_option maxHeartbeats 1000000
/-- a list cell by cell -/
def subAll : List AV → List AV → Prop
  | [], [] => True
  | a :: r, b :: s => SubV a b ∧ subAll r s
  | _, _ => False
theorem subC_all : ∀ {a b : List AV}, subAll a b → SubC a b
  | [], [], _ => .nil
  | _ :: _, _ :: _, h => .cons h.1 (subC_all h.2)
  | [], _ :: _, h => h.elim
  | _ :: _, [], h => h.elim
/-- a message's cells, with the lists that are nothing -/
def toN (r : Rep) (x : Member) (k : Int) : List AV := [.int .i64 k, .int .i64 r.self.node, .int .i64 x.node, .int .i64 x.boot, .int .i64 r.self.boot, .int .i64 r.shard, .int .i64 r.view.epoch, .int .i64 0, .int .i64 0, .int .i64 0, .int .i64 0, .int .i64 0, .bool false, .bool false, .str [], .str [], .cplx .f64 0 0, .cplx .f64 0 0, .int .i64 0, .str [], .str [], .str [], .bool false, .nils, .nils, .nils, .cplx .f64 0 0, .cplx .f64 0 0, .int .i64 0, .nils, .nils]
theorem to_eq (r : Rep) (x : Member) (k : Int) : callT env0 6 F_chain_to [.agg (encRep r), .agg (encMember x), .int .i64 k] = some (.agg (toN r x k)) := by kernel_rfl
theorem rmsg_eq (r : Rep) (x : Member) (k : Int) : callT env0 6 F_lockgateref18_msg [.agg (encRep r), .int .i64 k, .agg (encMember x)] = some (.agg (toN r x k)) := by kernel_rfl
theorem subRest {a b : List AV} {l : List AV} (h : SubC a b) : SubC (l ++ a) (l ++ b) := by
  induction l with
  | nil => exact h
  | cons c l ih => exact .cons (.refl _) ih
theorem nilsL {X : Type} {sz : Nat} {e : X → List AV} {z : X} : SubV .nils (encL sz e z []) := SubV.nils
theorem toN_sub (r : Rep) (x : Member) (k : Int) : SubC (toN r x k) (encMsg (toM r x k)) :=
  subRest (l := [.int .i64 k, .int .i64 r.self.node, .int .i64 x.node, .int .i64 x.boot, .int .i64 r.self.boot, .int .i64 r.shard, .int .i64 r.view.epoch, .int .i64 0, .int .i64 0, .int .i64 0, .int .i64 0, .int .i64 0, .bool false, .bool false, .str [], .str [], .cplx .f64 0 0, .cplx .f64 0 0, .int .i64 0, .str [], .str [], .str [], .bool false])
    (a := [.nils, .nils, .nils, .cplx .f64 0 0, .cplx .f64 0 0, .int .i64 0, .nils, .nils]) (b := [encEntrys [], encMembers [], encViews [], .cplx .f64 0 0, .cplx .f64 0 0, .int .i64 0, encEntrys [], encSeens []])
    (.cons nilsL (.cons nilsL (.cons nilsL (subRest (l := [.cplx .f64 0 0, .cplx .f64 0 0, .int .i64 0]) (.cons nilsL (.cons nilsL .nil))))))
theorem to_con (p : Rep × Member × Int) (_ : True) : Contract PG F_chain_to [.agg (encRep p.1), .agg (encMember p.2.1), .int .i64 p.2.2] [] (.agg (encMsg (toM p.1 p.2.1 p.2.2))) [] :=
  (con0 (to_eq p.1 p.2.1 p.2.2)).res (.agg (toN_sub _ _ _))
theorem rmsg_con (p : Rep × Member × Int) (_ : True) : Contract PG F_lockgateref18_msg [.agg (encRep p.1), .int .i64 p.2.2, .agg (encMember p.2.1)] [] (.agg (encMsg (toM p.1 p.2.1 p.2.2))) [] :=
  (con0 (rmsg_eq p.1 p.2.1 p.2.2)).res (.agg (toN_sub _ _ _))
abbrev RMI := Rep × Member × Int
def dTo (a : List AV) : RMI := (decRep (argC a 0), decMember (argC a 1), getI a 2)
def pTo (_ : RMI) : Prop := True
def eTo (p : RMI) : List AV := [.agg (encRep p.1), .agg (encMember p.2.1), .int .i64 p.2.2]
def dRMsg (a : List AV) : RMI := (decRep (argC a 0), decMember (argC a 2), getI a 1)
def eRMsg (p : RMI) : List AV := [.agg (encRep p.1), .int .i64 p.2.2, .agg (encMember p.2.1)]
noncomputable def kTo : Known := .spec F_chain_to dTo pTo eTo (fun p => .agg (encMsg (toM p.1 p.2.1 p.2.2)))
theorem kTo_ok : kTo.Ok PG := Known.spec_ok to_con
noncomputable def kRMsg : Known := .spec F_lockgateref18_msg dRMsg pTo eRMsg (fun p => .agg (encMsg (toM p.1 p.2.1 p.2.2)))
theorem kRMsg_ok : kRMsg.Ok PG := Known.spec_ok rmsg_con
/-- the same, with the lists that are nothing -/
noncomputable def kToN : Known := .spec F_chain_to dTo pTo eTo (fun p => .agg (toN p.1 p.2.1 p.2.2))
theorem kToN_ok : kToN.Ok PG := Known.spec_ok fun p _ => con0 (to_eq p.1 p.2.1 p.2.2)
noncomputable def kRMsgN : Known := .spec F_lockgateref18_msg dRMsg pTo eRMsg (fun p => .agg (toN p.1 p.2.1 p.2.2))
theorem kRMsgN_ok : kRMsgN.Ok PG := Known.spec_ok fun p _ => con0 (rmsg_eq p.1 p.2.1 p.2.2)
theorem qTo {R : Type} {r : Rep} {x : Member} {i : Int} {k : RMI → Option R} : gC dTo pTo eTo [.agg (encRep r), .agg (encMember x), .int .i64 i] k = k (r, x, i) := gC_eq (r, x, i) (Prod.ext (dec_encRep r) rfl) trivial (.refl _)
theorem qRMsg {R : Type} {r : Rep} {x : Member} {i : Int} {k : RMI → Option R} : gC dRMsg pTo eRMsg [.agg (encRep r), .int .i64 i, .agg (encMember x)] k = k (r, x, i) := gC_eq (r, x, i) (Prod.ext (dec_encRep r) rfl) trivial (.refl _)
theorem of_eq (e : Entry) : callT env0 6 F_seen_Of [.agg (encEntry e)] = some (.agg (encSeen (ofP e))) := by kernel_rfl
theorem rof_eq (e : Entry) : callT env0 6 F_lockgateref14_Of [.agg (encEntry e)] = some (.agg (encSeen (ofP e))) := by kernel_rfl
def dEnt1 (a : List AV) : Entry := decEntry (argC a 0)
def pEnt1 (_ : Entry) : Prop := True
def eEnt1 (e : Entry) : List AV := [.agg (encEntry e)]
theorem qEnt1 {R : Type} {e : Entry} {k : Entry → Option R} : gC dEnt1 pEnt1 eEnt1 [.agg (encEntry e)] k = k e := gC_eq e (dec_encEntry e) trivial (.refl _)
noncomputable def kOf : Known := .spec F_seen_Of dEnt1 pEnt1 eEnt1 (fun e => .agg (encSeen (ofP e)))
theorem kOf_ok : kOf.Ok PG := Known.spec_ok fun e _ => con0 (of_eq e)
noncomputable def kROf : Known := .spec F_lockgateref14_Of dEnt1 pEnt1 eEnt1 (fun e => .agg (encSeen (ofP e)))
theorem kROf_ok : kROf.Ok PG := Known.spec_ok fun e _ => con0 (rof_eq e)
theorem rent_eq (v : Ver) : callT env0 6 F_lockgateref18_Entry [eV v] = gF v.im (some (.agg (encEntry ⟨v, 2, [107], [118], true, false, 1, vN v, 0, [], false⟩))) := by kernel_rfl
theorem rent_con (v : Ver) (h : VNum v) : Contract PG F_lockgateref18_Entry [eV v] [] (.agg (encEntry (entP v))) [] :=
  con0 ((rent_eq v).trans (by rw [gF_eq h.int.2, vN_nu h]; rfl))
noncomputable def kREntry : Known := .spec F_lockgateref18_Entry dV1 VNum eV1 (fun p => .agg (encEntry (entP p)))
theorem kREntry_ok : kREntry.Ok PG := Known.spec_ok rent_con
end Go.Wk
end

section
/- Who stands beside a member in its chain. -/
open Go Go.AM Go.Md
namespace Go.Wk
set_option maxRecDepth 100000
set_option maxHeartbeats 1000000
def sideA (o : Option Member) : AV := .tup [.agg (encMember (o.getD default)), .bool o.isSome]
theorem behind_eq (l : List Member) (m : Member) : callT envH 6 F_view_Behind [encMembers l, .agg (encMember m)] = gIdxR l m fun y =>
    bif decide (idx y.1 y.2 < 0) then some (sideA none) else bif decide ((l.length : Int) ≤ IntKind.i64.wrap (idx y.1 y.2 + 1)) then some (sideA none) else
    rg (IntKind.i64.wrap (idx y.1 y.2 + 1)) l.length (some (sideA (some (l.getD (IntKind.i64.wrap (idx y.1 y.2 + 1)).toNat default)))) := by kernel_rfl
theorem rside_eq (l : List Member) (m : Member) (d : Int) : callT envH 6 F_lockgateref16_Side [encMembers l, .agg (encMember m), .int .i64 d] = gIdxR l m fun y =>
    bif decide (idx y.1 y.2 < 0) then some (sideA none) else bif decide (IntKind.i64.wrap (idx y.1 y.2 + d) < 0) then some (sideA none) else bif decide ((l.length : Int) ≤ IntKind.i64.wrap (idx y.1 y.2 + d)) then some (sideA none) else
    rg (IntKind.i64.wrap (idx y.1 y.2 + d)) l.length (some (sideA (some (l.getD (IntKind.i64.wrap (idx y.1 y.2 + d)).toNat default)))) := by kernel_rfl
theorem ahead'_eq (l : List Member) (m : Member) : callT envH 6 F_view_Ahead [encMembers l, .agg (encMember m)] = gIdxR l m fun y =>
    bif decide (idx y.1 y.2 < 1) then some (sideA none) else
    rg (IntKind.i64.wrap (idx y.1 y.2 - 1)) l.length (some (sideA (some (l.getD (IntKind.i64.wrap (idx y.1 y.2 - 1)).toNat default)))) := by kernel_rfl
theorem rg_int {R : Type} {i n : Int} {k : Option R} (h : 0 ≤ i ∧ i < n) : rg i n k = k := by
  unfold rg; rw [decide_eq_true h.1, decide_eq_true h.2]; rfl
theorem behind_con (x : LM) (h : preLM x) : Contract PG F_view_Behind [encMembers x.1, .agg (encMember x.2)] [] (sideA (sideP x.1 x.2 1)) [] := by
  refine conH ((behind_eq x.1 x.2).trans ?_)
  rw [gIdxR_eq h]
  have hb := idx_le x.1 x.2
  have hl : x.1.length ≤ 1000000 := h
  simp only [wrap64 (x := idx x.1 x.2 + 1) (by omega)]
  unfold sideP
  by_cases h1 : idx x.1 x.2 < 0
  · rw [decide_eq_true h1, if_pos (Or.inl h1)]; rfl
  · by_cases h2 : (x.1.length : Int) ≤ idx x.1 x.2 + 1
    · rw [decide_eq_false h1, decide_eq_true h2, if_pos (Or.inr (Or.inr h2))]; rfl
    · rw [decide_eq_false h1, decide_eq_false h2, if_neg (by omega), rg_int (by omega)]; rfl
theorem ahead'_con (x : LM) (h : preLM x) : Contract PG F_view_Ahead [encMembers x.1, .agg (encMember x.2)] [] (sideA (sideP x.1 x.2 (-1))) [] := by
  refine conH ((ahead'_eq x.1 x.2).trans ?_)
  rw [gIdxR_eq h]
  have hb := idx_le x.1 x.2
  have hl : x.1.length ≤ 1000000 := h
  simp only [wrap64 (x := idx x.1 x.2 - 1) (by omega)]
  unfold sideP
  by_cases h1 : idx x.1 x.2 < 1
  · rw [decide_eq_true h1, if_pos (by omega)]; rfl
  · rw [decide_eq_false h1, if_neg (by omega), rg_int (by omega)]; rfl
theorem rside_con (x : LM × Int) (h : preLM x.1 ∧ (x.2 = 1 ∨ x.2 = -1)) : Contract PG F_lockgateref16_Side [encMembers x.1.1, .agg (encMember x.1.2), .int .i64 x.2] [] (sideA (sideP x.1.1 x.1.2 x.2)) [] := by
  refine conH ((rside_eq x.1.1 x.1.2 x.2).trans ?_)
  obtain ⟨⟨l, m⟩, d⟩ := x
  obtain ⟨h, hd⟩ := h
  simp only at hd ⊢
  rw [gIdxR_eq h]
  have hb := idx_le l m
  have hl : l.length ≤ 1000000 := h
  simp only [wrap64 (x := idx l m + d) (by omega)]
  unfold sideP
  by_cases h1 : idx l m < 0
  · rw [decide_eq_true h1, if_pos (Or.inl h1)]; rfl
  · by_cases h3 : idx l m + d < 0
    · rw [decide_eq_false h1, decide_eq_true h3, if_pos (by omega)]; rfl
    · by_cases h2 : (l.length : Int) ≤ idx l m + d
      · rw [decide_eq_false h1, decide_eq_false h3, decide_eq_true h2, if_pos (by omega)]; rfl
      · rw [decide_eq_false h1, decide_eq_false h3, decide_eq_false h2, if_neg (by omega), rg_int (by omega)]; rfl
noncomputable def kBehind : Known := .spec F_view_Behind decLM preLM encLM (fun x => sideA (sideP x.1 x.2 1))
theorem kBehind_ok : kBehind.Ok PG := Known.spec_ok behind_con
noncomputable def kAheadV : Known := .spec F_view_Ahead decLM preLM encLM (fun x => sideA (sideP x.1 x.2 (-1)))
theorem kAheadV_ok : kAheadV.Ok PG := Known.spec_ok ahead'_con
def dSd (a : List AV) : LM × Int := (decLM a, getI a 2)
def pSd (x : LM × Int) : Prop := preLM x.1 ∧ (x.2 = 1 ∨ x.2 = -1)
def eSd (x : LM × Int) : List AV := [encMembers x.1.1, .agg (encMember x.1.2), .int .i64 x.2]
theorem qSd {R : Type} {l : List Member} {m : Member} {d : Int} {k : LM × Int → Option R} (h : l.length ≤ LB) (hd : d = 1 ∨ d = -1) : gC dSd pSd eSd [encMembers l, .agg (encMember m), .int .i64 d] k = k ((l, m), d) :=
  gC_eq ((l, m), d) (Prod.ext (Prod.ext (decMembers l) rfl) rfl) ⟨h, hd⟩ (.refl _)
noncomputable def kRSide : Known := .spec F_lockgateref16_Side dSd pSd eSd (fun x => sideA (sideP x.1.1 x.1.2 x.2))
theorem kRSide_ok : kRSide.Ok PG := Known.spec_ok rside_con
end Go.Wk
end

section
/- The word to the member ahead. -/
open Go Go.AM Go.Md
namespace Go.Wk
set_option maxRecDepth 100000
set_option maxHeartbeats 1000000
noncomputable def kns10 : List Known := [kAhead, kLater, kRAhead, kNum, kRNum, kBehind, kAheadV, kRSide, kTo, kRMsg, kHead, kRHead]
theorem kns10_ok : ∀ k ∈ kns10, k.Ok PG := ak kAhead_ok (ak kLater_ok (ak kRAhead_ok (ak kNum_ok (ak kRNum_ok (ak kBehind_ok (ak kAheadV_ok (ak kRSide_ok (ak kTo_ok (ak kRMsg_ok (ak kHead_ok (ak kRHead_ok ank)))))))))))
noncomputable def envT : Env := envO kns10
theorem conT {n f : Nat} {xs : List AV} {r : AV} (e : callT envT n f xs = some r) : Contract PG f xs [] r [] := con_of (md := fun _ => none) kns10_ok e
theorem acked_eq (r : Rep) (m : Member) : callT envT 6 F_chain_acked [.agg (encRep r), .agg (encMember m)] = gC dTo pTo eTo [.agg (encRep r), .agg (encMember m), .int .i64 14] fun y => gIdxR r.view.chain r.self fun z =>
    bif (sideP z.1 z.2 1).isSome then some (.agg (encMsg { toM y.1 y.2.1 y.2.2 with ver := r.got })) else some (.agg (encMsg { toM y.1 y.2.1 y.2.2 with ver := r.tail.last })) := by kernel_rfl
theorem acked_con (p : Rep × Member) (h : p.1.view.chain.length ≤ LB) : Contract PG F_chain_acked [.agg (encRep p.1), .agg (encMember p.2)] [] (.agg (encMsg { toM p.1 p.2 14 with ver := haveP p.1 })) [] := by
  refine conT ((acked_eq p.1 p.2).trans ?_)
  rw [qTo, gIdxR_eq h]
  unfold haveP
  cases (sideP p.1.view.chain p.1.self 1).isSome <;> rfl
def dRM (a : List AV) : Rep × Member := (decRep (argC a 0), decMember (argC a 1))
def pRM (p : Rep × Member) : Prop := p.1.view.chain.length ≤ LB
def eRM (p : Rep × Member) : List AV := [.agg (encRep p.1), .agg (encMember p.2)]
theorem qRM {R : Type} {r : Rep} {x : Member} {P : Rep × Member → Prop} {k : Rep × Member → Option R} (h : P (r, x)) : gC dRM P eRM [.agg (encRep r), .agg (encMember x)] k = k (r, x) := gC_eq (r, x) (Prod.ext (dec_encRep r) rfl) h (.refl _)
noncomputable def kAcked : Known := .spec F_chain_acked dRM pRM eRM (fun p => .agg (encMsg { toM p.1 p.2 14 with ver := haveP p.1 }))
theorem kAcked_ok : kAcked.Ok PG := Known.spec_ok acked_con
end Go.Wk
end

section
/- The reference's word to the member ahead. -/
open Go Go.AM Go.Md
namespace Go.Wk
set_option maxRecDepth 100000
set_option maxHeartbeats 1000000
theorem racks_eq (r : Rep) : callT envT 6 F_lockgateref18_acks [.agg (encRep r)] = gC dSd pSd eSd [encMembers r.view.chain, .agg (encMember r.self), .int .i64 (-1)] fun s =>
    bif !(sideP s.1.1 s.1.2 s.2).isSome then some .nils else gC dRMsg pTo eRMsg [.agg (encRep r), .int .i64 14, .agg (encMember ((sideP s.1.1 s.1.2 s.2).getD default))] fun y => gC dSd pSd eSd [encMembers r.view.chain, .agg (encMember r.self), .int .i64 1] fun t =>
    bif (sideP t.1.1 t.1.2 t.2).isSome then some (.trl 31 [encMsg { toM y.1 y.2.1 y.2.2 with ver := r.got }]) else some (.trl 31 [encMsg { toM y.1 y.2.1 y.2.2 with ver := r.tail.last }]) := by kernel_rfl
theorem racks_con (r : Rep) (h : r.view.chain.length ≤ LB) : Contract PG F_lockgateref18_acks [.agg (encRep r)] [] (encMsgs (acksP r)) [] := by
  have e := racks_eq r
  rw [qSd h (Or.inr rfl)] at e
  unfold acksP
  cases hs : sideP r.view.chain r.self (-1) with
  | none =>
    simp only [hs] at e
    exact (conT e).res nilsL
  | some m =>
    simp only [hs, qRMsg, qSd h (Or.inl rfl)] at e
    refine (conT (r := .trl 31 [encMsg { toM r m 14 with ver := haveP r }]) (e.trans ?_)).res (SubV.trl_of [_] rfl)
    unfold haveP
    cases (sideP r.view.chain r.self 1).isSome <;> rfl
noncomputable def kRAcks : Known := .spec F_lockgateref18_acks dRep1 pChain1 eRep1 (fun r => encMsgs (acksP r))
theorem kRAcks_ok : kRAcks.Ok PG := Known.spec_ok racks_con
end Go.Wk
end

section
/- The Install and the Forward of a member. -/
open Go Go.AM Go.Md
namespace Go.Wk
set_option maxRecDepth 100000
set_option maxHeartbeats 2000000
noncomputable def kns21 : List Known := [kAhead, kToN, kCloneMember, kCloneEntry, kCloneSeen]
theorem kns21_ok : ∀ k ∈ kns21, k.Ok PG := ak kAhead_ok (ak kToN_ok (ak kCloneMember_ok (ak kCloneEntry_ok (ak kCloneSeen_ok ank))))
noncomputable def env21 : Env := envO kns21
theorem con21 {n f : Nat} {xs : List AV} {r : AV} (e : callT env21 n f xs = some r) : Contract PG f xs [] r [] := con_of (md := fun _ => none) kns21_ok e
def z31 : List AV := [.int .i64 0, .int .i64 0, .int .i64 0, .int .i64 0, .int .i64 0, .int .i64 0, .int .i64 0, .int .i64 0, .int .i64 0, .int .i64 0, .int .i64 0, .int .i64 0, .bool false, .bool false, .str [], .str [], .cplx .f64 0 0, .cplx .f64 0 0, .int .i64 0, .str [], .str [], .str [], .bool false, .nils, .nils, .nils, .cplx .f64 0 0, .cplx .f64 0 0, .int .i64 0, .nils, .nils]
/-- a member's message, with a floor and entries -/
def toNs (r : Rep) (x : Member) (k : Int) (fl : Ver) (a : AV) : List AV := [.int .i64 k, .int .i64 r.self.node, .int .i64 x.node, .int .i64 x.boot, .int .i64 r.self.boot, .int .i64 r.shard, .int .i64 r.view.epoch, .int .i64 0, .int .i64 0, .int .i64 0, .int .i64 0, .int .i64 0, .bool false, .bool false, .str [], .str [], .cplx .f64 0 0, eV fl, .int .i64 0, .str [], .str [], .str [], .bool false, a, .nils, .nils, .cplx .f64 0 0, .cplx .f64 0 0, .int .i64 0, .nils, .nils]

/-! ### install -/
theorem inst_eq (r : Rep) (m : Member) : callT env21 6 F_chain_install [AV.agg (encRep r), AV.agg (encMember m)] =
  gC (dTo) (pTo) (eTo) ([AV.agg (encRep r), AV.agg (encMember m), AV.int IntKind.i64 11]) fun y0 =>
  gC (dL decMember) (shortL) (eMems) ([encMembers r.view.chain]) fun y1 =>
  gC (dL decEntry) (shortL) (eEnts) ([encEntrys r.tail.log]) fun y2 =>
  gC (dL decSeen) (shortL) (eSeens) ([encSeens r.seen]) fun y3 =>
  some (AV.agg [AV.int IntKind.i64 y0.snd.snd, AV.int IntKind.i64 y0.fst.self.node, AV.int IntKind.i64 y0.snd.fst.node, AV.int IntKind.i64 y0.snd.fst.boot, AV.int IntKind.i64 y0.fst.self.boot, AV.int IntKind.i64 y0.fst.shard, AV.int IntKind.i64 y0.fst.view.epoch, AV.int IntKind.i64 r.view.gen, AV.int IntKind.i64 0, AV.int IntKind.i64 0, AV.int IntKind.i64 0, AV.int IntKind.i64 0, AV.bool false, AV.bool false, AV.str [], AV.str [], AV.cplx FloatKind.f64 0 0, AV.cplx FloatKind.f64 0 0, AV.int IntKind.i64 0, AV.str [], AV.str [], AV.str [], AV.bool false, AV.nils, encMembers y1, AV.nils, AV.cplx FloatKind.f64 r.tail.floor.re r.tail.floor.im, AV.cplx FloatKind.f64 r.tail.last.re r.tail.last.im, AV.int IntKind.i64 r.view.gen, encEntrys y2, encSeens y3]) := by kernel_rfl
theorem inst_con (p : Rep × Member) (h : RepShort p.1) : Contract PG F_chain_install [.agg (encRep p.1), .agg (encMember p.2)] [] (.agg (encMsg (instM p.1 p.2))) [] := by
  obtain ⟨r, m⟩ := p
  have e := inst_eq r m
  rw [qTo, qMems h.1, qEnts h.2.1, qSeens h.2.2.1] at e
  exact (con21 e).res (.agg (subC_all (by repeat' (first | exact trivial | exact nilsL | exact SubV.refl _ | refine ⟨?_, ?_⟩))))
def pRS (p : Rep × Member) : Prop := RepShort p.1
noncomputable def kInst : Known := .spec F_chain_install dRM pRS eRM (fun p => .agg (encMsg (instM p.1 p.2)))
theorem kInst_ok : kInst.Ok PG := Known.spec_ok inst_con

/-! ### forward -/
def SFw (r : Rep) (x : Member) (i : Int) (a : AV) (rest : Heap) : St := { fr := [(2, .ptr 0 0 0), (4, .ptr 1 0 0), (5, .ptr 2 0 0), (17, encEntrys r.tail.log), (18, .int .i64 r.tail.log.length), (19, .int .i64 i), (1003, .undef)], hp := .arr true 15 [encRep r] :: .arr true 31 [z31] :: .arr true 31 [toNs r x 13 r.tail.floor a] :: rest }
theorem forw_in (N : Nat) (r : Rep) (m : Member) : callT env21 (N + 1) F_chain_forward [AV.agg (encRep r), AV.agg (encMember m)] =
  gC dTo pTo eTo [AV.agg (encRep r), AV.agg (encMember m), AV.int IntKind.i64 13] fun y0 => LP env21 N 0 F_chain_forward snK 0 [] N { fr := [(2, .ptr 0 0 0), (4, .ptr 1 0 0), (5, .ptr 2 0 0), (17, encEntrys r.tail.log), (18, .int .i64 r.tail.log.length), (19, .int .i64 0), (1003, .undef)], hp := [.arr true 15 [encRep r], .arr true 31 [z31], .arr true 31 [((toN y0.1 y0.2.1 y0.2.2).set 17 (eV r.tail.floor))]] } := by kernel_rfl
theorem forw_step0 (N : Nat) (m : Nat) (r : Rep) (x : Member) (i : Int) : LP env21 N 0 F_chain_forward snK 0 [] (m + 1) (SFw r x i AV.nils []) =
  bif decide (i < (↑r.tail.log.length : Int)) then 
    bif decide (0 ≤ i) && decide (i < (↑r.tail.log.length : Int)) then 
      gC (dV2) (V2) (eV2) ([AV.cplx FloatKind.f64 r.got.re r.got.im, AV.cplx FloatKind.f64 (r.tail.log.getD i.toNat default).ver.re (r.tail.log.getD i.toNat default).ver.im]) fun y4 =>
      bif vlt y4.fst y4.snd then 
        LP (env21) (N) (0) (F_chain_forward) (snK) 0 ([]) (m) (SFw r x (IntKind.i64.wrap (i + 1)) (AV.sl 11 3 0 1 1) [BS.seq true 11 1 fun i_1 => [encEntry (r.tail.log.getD i.toNat default)].getD i_1 (encEntry (r.tail.log.getD i.toNat default))])
      else 
        LP (env21) (N) (0) (F_chain_forward) (snK) 0 ([]) (m) (SFw r x (IntKind.i64.wrap (i + 1)) AV.nils [])
    else none
  else 
    some (AV.agg [AV.int IntKind.i64 13, AV.int IntKind.i64 r.self.node, AV.int IntKind.i64 x.node, AV.int IntKind.i64 x.boot, AV.int IntKind.i64 r.self.boot, AV.int IntKind.i64 r.shard, AV.int IntKind.i64 r.view.epoch, AV.int IntKind.i64 0, AV.int IntKind.i64 0, AV.int IntKind.i64 0, AV.int IntKind.i64 0, AV.int IntKind.i64 0, AV.bool false, AV.bool false, AV.str [], AV.str [], AV.cplx FloatKind.f64 0 0, AV.cplx FloatKind.f64 r.tail.floor.re r.tail.floor.im, AV.int IntKind.i64 0, AV.str [], AV.str [], AV.str [], AV.bool false, AV.nils, AV.nils, AV.nils, AV.cplx FloatKind.f64 0 0, AV.cplx FloatKind.f64 0 0, AV.int IntKind.i64 0, AV.nils, AV.nils]) := by kernel_rfl
theorem forw_step1 (N : Nat) (m : Nat) (r : Rep) (x : Member) (i : Int) (f : Nat → List AV) : LP env21 N 0 F_chain_forward snK 0 [] (m + 1) (SFw r x i (AV.sl 11 3 0 1 1) [BS.seq true 11 1 f]) =
  bif decide (i < (↑r.tail.log.length : Int)) then 
    bif decide (0 ≤ i) && decide (i < (↑r.tail.log.length : Int)) then 
      gC (dV2) (V2) (eV2) ([AV.cplx FloatKind.f64 r.got.re r.got.im, AV.cplx FloatKind.f64 (r.tail.log.getD i.toNat default).ver.re (r.tail.log.getD i.toNat default).ver.im]) fun y5 =>
      bif vlt y5.fst y5.snd then 
        LP (env21) (N) (0) (F_chain_forward) (snK) 0 ([]) (m) (SFw r x (IntKind.i64.wrap (i + 1)) (AV.sl 11 3 0 2 0) [BS.seq true 11 2 fun i_1 => bif i_1.blt 1 then f i_1 else bif i_1.blt 2 then [encEntry (r.tail.log.getD i.toNat default)].getD (i_1 - 1) [] else f 1])
      else 
        LP (env21) (N) (0) (F_chain_forward) (snK) 0 ([]) (m) (SFw r x (IntKind.i64.wrap (i + 1)) (AV.sl 11 3 0 1 1) [BS.seq true 11 1 f])
    else none
  else 
    some (AV.agg [AV.int IntKind.i64 13, AV.int IntKind.i64 r.self.node, AV.int IntKind.i64 x.node, AV.int IntKind.i64 x.boot, AV.int IntKind.i64 r.self.boot, AV.int IntKind.i64 r.shard, AV.int IntKind.i64 r.view.epoch, AV.int IntKind.i64 0, AV.int IntKind.i64 0, AV.int IntKind.i64 0, AV.int IntKind.i64 0, AV.int IntKind.i64 0, AV.bool false, AV.bool false, AV.str [], AV.str [], AV.cplx FloatKind.f64 0 0, AV.cplx FloatKind.f64 r.tail.floor.re r.tail.floor.im, AV.int IntKind.i64 0, AV.str [], AV.str [], AV.str [], AV.bool false, AV.tr 11 1 fun i => f i, AV.nils, AV.nils, AV.cplx FloatKind.f64 0 0, AV.cplx FloatKind.f64 0 0, AV.int IntKind.i64 0, AV.nils, AV.nils]) := by kernel_rfl
theorem forw_step2 (N : Nat) (m : Nat) (r : Rep) (x : Member) (i : Int) (n : Nat) (f : Nat → List AV) : LP env21 N 0 F_chain_forward snK 0 [] (m + 1) (SFw r x i (AV.sl 11 3 0 n 0) [BS.seq true 11 n f]) =
  bif decide (i < (↑r.tail.log.length : Int)) then 
    bif decide (0 ≤ i) && decide (i < (↑r.tail.log.length : Int)) then 
      gC (dV2) (V2) (eV2) ([AV.cplx FloatKind.f64 r.got.re r.got.im, AV.cplx FloatKind.f64 (r.tail.log.getD i.toNat default).ver.re (r.tail.log.getD i.toNat default).ver.im]) fun y6 =>
      bif vlt y6.fst y6.snd then 
        bif n.beq 0 || n.ble n then 
          bif ((n + 1) * 112).ble 140737488355328 && (n + 1).ble 140737488355328 then 
            LP (env21) (N) (0) (F_chain_forward) (snK) 0 ([]) (m) (SFw r x (IntKind.i64.wrap (i + 1)) (AV.sl 11 3 0 (n + 1) 0) [BS.seq true 11 (n + 1) fun i_1 => bif i_1.blt n then f i_1 else bif i_1.blt (n + 1) then [encEntry (r.tail.log.getD i.toNat default)].getD (i_1 - n) [] else f n])
          else none
        else none
      else 
        LP (env21) (N) (0) (F_chain_forward) (snK) 0 ([]) (m) (SFw r x (IntKind.i64.wrap (i + 1)) (AV.sl 11 3 0 n 0) [BS.seq true 11 n f])
    else none
  else 
    bif (n.beq 0 || n.ble n) && true then 
      some (AV.agg [AV.int IntKind.i64 13, AV.int IntKind.i64 r.self.node, AV.int IntKind.i64 x.node, AV.int IntKind.i64 x.boot, AV.int IntKind.i64 r.self.boot, AV.int IntKind.i64 r.shard, AV.int IntKind.i64 r.view.epoch, AV.int IntKind.i64 0, AV.int IntKind.i64 0, AV.int IntKind.i64 0, AV.int IntKind.i64 0, AV.int IntKind.i64 0, AV.bool false, AV.bool false, AV.str [], AV.str [], AV.cplx FloatKind.f64 0 0, AV.cplx FloatKind.f64 r.tail.floor.re r.tail.floor.im, AV.int IntKind.i64 0, AV.str [], AV.str [], AV.str [], AV.bool false, AV.tr 11 n fun i => f i, AV.nils, AV.nils, AV.cplx FloatKind.f64 0 0, AV.cplx FloatKind.f64 0 0, AV.int IntKind.i64 0, AV.nils, AV.nils])
    else none := by kernel_rfl
def SFg (r : Rep) (x : Member) (i : Int) (l : List Entry) : St := SFw r x i (gSl 11 3 l) (gBl 11 encEntry default l)
theorem forw_step (N m : Nat) (r : Rep) (x : Member) (i : Int) (l : List Entry) (hl : l.length ≤ LB) : LP env21 N 0 F_chain_forward snK 0 [] (m + 1) (SFg r x i l) =
    bif decide (i < (r.tail.log.length : Int)) then rg i r.tail.log.length <| gC dV2 V2 eV2 [eV r.got, eV (r.tail.log.getD i.toNat default).ver] fun y =>
      bif vlt y.1 y.2 then LP env21 N 0 F_chain_forward snK 0 [] m (SFg r x (IntKind.i64.wrap (i + 1)) (l ++ [r.tail.log.getD i.toNat default]))
      else LP env21 N 0 F_chain_forward snK 0 [] m (SFg r x (IntKind.i64.wrap (i + 1)) l)
    else some (.agg (toNs r x 13 r.tail.floor (gTr 11 encEntry default l))) := by
  unfold LB at hl
  match l, hl with
  | [], _ => exact (forw_step0 N m r x i).trans (by rw [canF_oneS (z := default)]; rfl)
  | [a], _ => exact (forw_step1 N m r x i _).trans (by rw [canF_app1 (z := default)]; rfl)
  | a :: b :: l, hl =>
    refine (forw_step2 N m r x i (l.length + 2) _).trans ?_
    have h := canF_app (e := encEntry) (z := default) (l := a :: b :: l) (by simp) (r.tail.log.getD i.toNat default)
    simp only [List.length_cons] at h hl
    rw [h, SFg, gSl_app (by simp), gBl_app (by simp)]
    simp only [roomU (b := 112) (n := l.length + 2) (by omega) (by omega), Bool.and_true, orU, cond_true]
    rfl
theorem forw_con (p : Rep × Member) (h : p.1.tail.log.length ≤ LB ∧ VNum p.1.got ∧ ∀ e ∈ p.1.tail.log, VNum e.ver) : Contract PG F_chain_forward [.agg (encRep p.1), .agg (encMember p.2)] [] (.agg (encMsg (forwM p.1 p.2))) [] := by
  obtain ⟨r, m⟩ := p
  obtain ⟨h1, h2, h3⟩ := h
  simp only at h1 h2 h3
  have e := forw_in (r.tail.log.length + 1) r m
  rw [qTo] at e
  have key := pick_loop (l := r.tail.log) (z := default) (keep := fun e => vlt r.got e.ver) (G := fun k i l => LP env21 (r.tail.log.length + 1) 0 F_chain_forward snK 0 [] k (SFg r m i l)) (fin := fun l => some (.agg (toNs r m 13 r.tail.floor (gTr 11 encEntry default l))))
    (fun k acc ha => by rw [forw_step _ _ _ _ _ _ (by omega), dec_nat, decide_eq_false (by omega), cond_false])
    (fun k i acc hi ha => by
      rw [forw_step _ _ _ _ _ _ (by omega), dec_nat, decide_eq_true hi, cond_true, rg_eq hi, Int.toNat_natCast]
      show gC dV2 V2 eV2 [.cplx .f64 _ _, .cplx .f64 _ _] _ = _
      rw [qV2 h2 (h3 _ (getD_mem hi)), wrapS (by unfold LB at h1; omega)])
    r.tail.log.length 0 (r.tail.log.length + 1) [] (by omega) (by omega) (by simp)
  rw [List.drop_zero, List.nil_append] at key
  exact (con21 (e.trans key)).res (.agg (subC_all (by repeat' (first | exact trivial | exact nilsL | exact gTr_sub _ | exact SubV.refl _ | refine ⟨?_, ?_⟩))))
def pFw (p : Rep × Member) : Prop := p.1.tail.log.length ≤ LB ∧ VNum p.1.got ∧ ∀ e ∈ p.1.tail.log, VNum e.ver
noncomputable def kForw : Known := .spec F_chain_forward dRM pFw eRM (fun p => .agg (encMsg (forwM p.1 p.2)))
theorem kForw_ok : kForw.Ok PG := Known.spec_ok forw_con
end Go.Wk
end

section
/- What a member sends again. -/
open Go Go.AM Go.Md
namespace Go.Wk
set_option maxRecDepth 100000
set_option maxHeartbeats 2000000
noncomputable def kns22 : List Known := [kInst, kForw, kAcked, kBehind, kAheadV]
theorem kns22_ok : ∀ k ∈ kns22, k.Ok PG := ak kInst_ok (ak kForw_ok (ak kAcked_ok (ak kBehind_ok (ak kAheadV_ok ank))))
noncomputable def env22 : Env := envO kns22
theorem con22 {n f : Nat} {xs : List AV} {r : AV} (e : callT env22 n f xs = some r) : Contract PG f xs [] r [] := con_of (md := fun _ => none) kns22_ok e
/-- a member in a phase -/
def inPh (r : Rep) (ph : Int) : Rep := { r with view := { r.view with phase := ph } }
def inSy (r : Rep) (ch : List Member) (sy : List Bool) : Rep := { r with view := { r.view with phase := 2, chain := ch }, synced := sy }
theorem inPh_eq {r : Rep} {ph : Int} (h : r.view.phase = ph) : r = inPh r ph := by
  cases r; rename_i v _ _ _ _ _; cases v; simp only at h; subst h; rfl
theorem inSy_eq {r : Rep} (h : r.view.phase = 2) : r = inSy r r.view.chain r.synced := by
  cases r; rename_i v _ _ _ _ _; cases v; simp only at h; subst h; rfl
noncomputable def instK (r : Rep) (fin : List (Rep × Member) → Option AV) : List Member → List Bool → List (Rep × Member) → Option AV
  | m :: ms, s :: ss, acc => bif !s then gC dRM pRS eRM [.agg (encRep r), .agg (encMember m)] fun y => instK r fin ms ss (acc ++ [y]) else instK r fin ms ss acc
  | _, _, acc => fin acc
def finI : List (Rep × Member) → Option AV
  | [] => some .nils
  | l => some (.trl 31 (l.map fun y => encMsg (instM y.1 y.2)))
def liveN (r : Rep) : Option AV := bif decide (r.frozen ≤ r.view.epoch) then some .nils else some .nils
theorem again_s1 (r : Rep) (a : Member) (s : Bool) : callT env22 9 F_chain_Again [.agg (encRep (inSy r [a] [s]))] =
    bif decide (r.frozen ≤ r.view.epoch) then bif chF [a] r.self then instK (inSy r [a] [s]) finI [a] [s] [] else liveN r else liveN r := by kernel_rfl
theorem again_s2 (r : Rep) (a b : Member) (s t : Bool) : callT env22 9 F_chain_Again [.agg (encRep (inSy r [a, b] [s, t]))] =
    bif decide (r.frozen ≤ r.view.epoch) then bif chF [a, b] r.self then instK (inSy r [a, b] [s, t]) finI [a, b] [s, t] [] else liveN r else liveN r := by kernel_rfl
theorem again_s3 (r : Rep) (a b c : Member) (s t u : Bool) : callT env22 9 F_chain_Again [.agg (encRep (inSy r [a, b, c] [s, t, u]))] =
    bif decide (r.frozen ≤ r.view.epoch) then bif chF [a, b, c] r.self then instK (inSy r [a, b, c] [s, t, u]) finI [a, b, c] [s, t, u] [] else liveN r else liveN r := by kernel_rfl
theorem again_s4 (r : Rep) (a b c d : Member) (s t u v : Bool) : callT env22 9 F_chain_Again [.agg (encRep (inSy r [a, b, c, d] [s, t, u, v]))] =
    bif decide (r.frozen ≤ r.view.epoch) then bif chF [a, b, c, d] r.self then instK (inSy r [a, b, c, d] [s, t, u, v]) finI [a, b, c, d] [s, t, u, v] [] else liveN r else liveN r := by kernel_rfl
theorem again_0 (r : Rep) : callT env22 9 F_chain_Again [.agg (encRep (inPh r 0))] = some .nils := by kernel_rfl
noncomputable def ackK (r : Rep) (l : List (List AV)) : Option AV := gC decLM preLM encLM [encMembers r.view.chain, .agg (encMember r.self)] fun z =>
  bif (sideP z.1 z.2 (-1)).isSome then gC dRM pRM eRM [.agg (encRep r), .agg (encMember ((sideP z.1 z.2 (-1)).getD default))] fun a => some (.trl 31 (l ++ [encMsg { toM a.1 a.2 14 with ver := haveP a.1 }]))
  else match l with
    | [] => some .nils
    | l => some (.trl 31 l)
noncomputable def workK (r : Rep) : Option AV := bif decide (r.frozen ≤ r.view.epoch) then gC decLM preLM encLM [encMembers r.view.chain, .agg (encMember r.self)] fun y =>
      bif (sideP y.1 y.2 1).isSome then gC dRM pFw eRM [.agg (encRep (inPh r 3)), .agg (encMember ((sideP y.1 y.2 1).getD default))] fun f => ackK (inPh r 3) [encMsg (forwM f.1 f.2)]
      else ackK (inPh r 3) []
    else some .nils
theorem again_3 (r : Rep) : callT env22 9 F_chain_Again [.agg (encRep (inPh r 3))] = bif decide (r.frozen ≤ r.view.epoch) then workK r else workK r := by kernel_rfl
theorem instK_eq {r : Rep} (h : RepShort r) {fin : List (Rep × Member) → Option AV} : ∀ (l : List Member) (s : List Bool) (acc : List (Rep × Member)), ∃ k, instK r fin l s acc = fin (acc ++ k) ∧ k.map (fun y => instM y.1 y.2) = instsP r l s
  | [], _, acc => ⟨[], by simp [instK], rfl⟩
  | _ :: _, [], acc => ⟨[], by simp [instK], rfl⟩
  | m :: ms, s :: ss, acc => by
    cases s with
    | true =>
      obtain ⟨k, h1, h2⟩ := instK_eq h (fin := fin) ms ss acc
      exact ⟨k, h1, h2⟩
    | false =>
      obtain ⟨k, h1, h2⟩ := instK_eq h (fin := fin) ms ss (acc ++ [(r, m)])
      refine ⟨(r, m) :: k, ?_, by simp [instsP, h2]⟩
      show (gC dRM pRS eRM [.agg (encRep r), .agg (encMember m)] fun y => instK r fin ms ss (acc ++ [y])) = _
      rw [qRM (P := pRS) h, h1, List.append_assoc]; rfl
theorem trl_out (l : List Msg) : ∀ v, (match l with | [] => AV.nils | l => .trl 31 (l.map encMsg)) = v → SubV v (encMsgs l) := by
  intro v hv
  subst hv
  match l with
  | [] => exact nilsL
  | a :: l => exact SubV.trl_encL (e := encMsg) (z := default) (a :: l)
/-- what may be asked of a member -/
structure RepAg (r : Rep) : Prop where
  short : RepShort r
  ph : r.view.phase = 0 ∨ r.view.phase = 2 ∨ r.view.phase = 3
  sync : r.view.phase = 2 → isFirst r.view.chain r.self = true ∧ r.synced.length = r.view.chain.length
  len : r.view.chain.length ≤ 4
  got : VNum r.got
  log : ∀ e ∈ r.tail.log, VNum e.ver
theorem RepIs.ag {E : Int} {N : Nat} {r : Rep} (h : RepIs E N r) (hN : N ≤ 1000) : RepAg r where
  short := by
    have h1 := h.chain.1
    have h2 := Nat.le_trans h.tail.len (h.tail.la.le hN).2
    have h3 := h.seen.1
    have h4 := h.synl
    unfold RepShort shortL LB
    exact ⟨by omega, by omega, by omega, by omega⟩
  ph := h.ph
  sync := h.sync
  len := h.chain.1
  got := h.got.num hN
  log := fun e he => (h.tail.ent e he).1.num hN
theorem chF_first {l : List Member} {m : Member} (hl : l ≠ []) : chF l m = isFirst l m := by
  cases l with
  | nil => exact absurd rfl hl
  | cons x r =>
    unfold chF isFirst
    rw [Bool.and_true]
    exact mem_eq x m
theorem ackK_eq {r : Rep} (h : r.view.chain.length ≤ LB) (l : List Msg) : ackK r (l.map encMsg) = some (match l ++ acksP r with | [] => AV.nils | l => .trl 31 (l.map encMsg)) := by
  unfold ackK acksP
  rw [qLM h]
  cases hs : sideP r.view.chain r.self (-1) with
  | none =>
    cases l with
    | nil => rfl
    | cons a l => simp
  | some m =>
    simp only [Option.isSome_some, cond_true, Option.getD_some]
    rw [qRM (P := pRM) h]
    cases l with
    | nil => rfl
    | cons a l => simp
theorem again_con (r : Rep) (h : RepAg r) : Contract PG F_chain_Again [.agg (encRep r)] [] (encMsgs (againP r)) [] := by
  have hLB : r.view.chain.length ≤ LB := h.short.1
  rcases h.ph with hp | hp | hp
  · have ha : againP r = [] := by
      unfold againP syncsP worksP liveP
      rw [hp]; rfl
    rw [ha]
    have := con22 (again_0 r)
    rw [← inPh_eq hp] at this
    exact this.res nilsL
  · obtain ⟨hf, hl⟩ := h.sync hp
    have hs : syncsP r = decide (r.frozen ≤ r.view.epoch) := by
      unfold syncsP liveP
      rw [hp]; cases decide (r.frozen ≤ r.view.epoch) <;> rfl
    have hw : worksP r = false := by
      unfold worksP
      rw [hp]; cases liveP r <;> rfl
    have key : callT env22 9 F_chain_Again [.agg (encRep r)] = bif decide (r.frozen ≤ r.view.epoch) then instK r finI r.view.chain r.synced [] else liveN r := by
      have he := inSy_eq hp
      have hch : chF r.view.chain r.self = true := by
        rw [chF_first (by obtain ⟨x, hx⟩ := isFirst_cons hf; rw [hx]; simp)]; exact hf
      have hlen := h.len
      generalize r.view.chain = ch at *
      generalize r.synced = sy at *
      match ch, sy, hl, hlen with
      | [a], [s], _, _ => have := again_s1 r a s; rw [← he, hch] at this; exact this
      | [a, b], [s, t], _, _ => have := again_s2 r a b s t; rw [← he, hch] at this; exact this
      | [a, b, c], [s, t, u], _, _ => have := again_s3 r a b c s t u; rw [← he, hch] at this; exact this
      | [a, b, c, d], [s, t, u, v], _, _ => have := again_s4 r a b c d s t u v; rw [← he, hch] at this; exact this
      | [], _, _, _ => simp [isFirst] at hf
    unfold againP
    rw [hs, hw]
    cases hd : decide (r.frozen ≤ r.view.epoch) with
    | false => unfold liveN at key; rw [hd] at key; exact (con22 key).res nilsL
    | true =>
      rw [hd, cond_true] at key
      obtain ⟨k, h1, h2⟩ := instK_eq h.short (fin := finI) r.view.chain r.synced []
      rw [h1, List.nil_append] at key
      simp only [cond_true]
      rw [← h2]
      refine (con22 (r := match k.map (fun y => instM y.1 y.2) with | [] => AV.nils | l => .trl 31 (l.map encMsg)) (key.trans ?_)).res (trl_out _ _ rfl)
      cases k with
      | nil => rfl
      | cons a k => simp [finI, List.map_map, Function.comp_def]
  · have hs : syncsP r = false := by
      unfold syncsP
      rw [hp]; cases liveP r <;> rfl
    have hw : worksP r = decide (r.frozen ≤ r.view.epoch) := by
      unfold worksP liveP
      rw [hp]; cases decide (r.frozen ≤ r.view.epoch) <;> rfl
    have key := again_3 r
    unfold workK at key
    rw [← inPh_eq hp, qLM hLB] at key
    unfold againP
    rw [hs, hw]
    cases hd : decide (r.frozen ≤ r.view.epoch) with
    | false => rw [hd] at key; exact (con22 key).res nilsL
    | true =>
      rw [hd] at key
      simp only [cond_true, cond_false] at key ⊢
      unfold forwsP
      cases hsd : sideP r.view.chain r.self 1 with
      | none =>
        rw [hsd] at key
        have := ackK_eq hLB []
        simp only [Option.isSome_none, cond_false] at key
        exact (con22 (key.trans this)).res (trl_out _ _ rfl)
      | some m =>
        rw [hsd] at key
        simp only [Option.isSome_some, cond_true, Option.getD_some] at key
        rw [qRM (P := pFw) ⟨h.short.2.1, h.got, h.log⟩] at key
        have := ackK_eq hLB [forwM r m]
        exact (con22 (key.trans this)).res (trl_out _ _ rfl)
noncomputable def kAgain : Known := .spec F_chain_Again dRep1 RepAg eRep1 (fun r => encMsgs (againP r))
theorem kAgain_ok : kAgain.Ok PG := Known.spec_ok again_con
end Go.Wk
end

section
/- What a member sends again, by the reference. -/
open Go Go.AM Go.Md
namespace Go.Wk
set_option maxRecDepth 100000
set_option maxHeartbeats 2000000
theorem rlive_eq (r : Rep) : callT env0 4 F_lockgateref18_Live [.agg (encRep r)] = bif !decide (r.view.phase = 0) then some (.bool (decide (r.frozen ≤ r.view.epoch))) else some (.bool false) := by kernel_rfl
theorem rlive_con (r : Rep) (_ : pRep1 r) : Contract PG F_lockgateref18_Live [.agg (encRep r)] [] (.bool (liveP r)) [] :=
  con0 ((rlive_eq r).trans (by unfold liveP; cases decide (r.view.phase = 0) <;> rfl))
noncomputable def kRLive : Known := .spec F_lockgateref18_Live dRep1 pRep1 eRep1 (fun r => .bool (liveP r))
theorem kRLive_ok : kRLive.Ok PG := Known.spec_ok rlive_con
/-- an environment with other live slots -/
noncomputable def envL (lv : List (Nat × Nat × List Nat)) (md : Nat → Option Nat) (l : List Known) : Env := { envM md (orcOf l) with live := fun f b => liveOf f b (lv ++ liveTab) }
theorem envL_ok {lv : List (Nat × Nat × List Nat)} {md : Nat → Option Nat} {l : List Known} (h : ∀ k ∈ l, k.Ok PG) : EnvOk PG (envL lv md l) := ⟨tt_ok rfl, orc_ok h⟩
theorem envL_code {lv : List (Nat × Nat × List Nat)} {md : Nat → Option Nat} {l : List Known} : CodeOk PG (envL lv md l) := codeOf_ok rfl
theorem conL {lv : List (Nat × Nat × List Nat)} {md : Nat → Option Nat} {l : List Known} (h : ∀ k ∈ l, k.Ok PG) {n f : Nat} {args : List AV} {r : AV} (e : callT (envL lv md l) n f args = some r) : Contract PG f args [] r [] :=
  callT_ok (envL_ok h) envL_code mixed e
noncomputable def kns23 : List Known := [kRLive, kRMsgN, kRSide, kRAhead]
theorem kns23_ok : ∀ k ∈ kns23, k.Ok PG := ak kRLive_ok (ak kRMsgN_ok (ak kRSide_ok (ak kRAhead_ok ank)))
noncomputable def env23 : Env := envL [(F_lockgateref18_Again, 2, [1, 3, 8, 9, 1002])] (fun _ => none) kns23
theorem con23 {n f : Nat} {xs : List AV} {r : AV} (e : callT env23 n f xs = some r) : Contract PG f xs [] r [] := conL kns23_ok e
/-! ### installs -/
def rinsN (r : Rep) (y : RMI) : List AV := [.int .i64 y.2.2, .int .i64 y.1.self.node, .int .i64 y.2.1.node, .int .i64 y.2.1.boot, .int .i64 y.1.self.boot, .int .i64 y.1.shard, .int .i64 y.1.view.epoch, .int .i64 r.view.gen, .int .i64 0, .int .i64 0, .int .i64 0, .int .i64 0, .bool false, .bool false, .str [], .str [], .cplx .f64 0 0, .cplx .f64 0 0, .int .i64 0, .str [], .str [], .str [], .bool false, .nils, encMembers r.view.chain, .nils, eV r.tail.floor, eV r.tail.last, .int .i64 r.view.gen, encEntrys r.tail.log, encSeens r.seen]
noncomputable def rinsK (r : Rep) (fin : List RMI → Option AV) : List Member → List Bool → List RMI → Option AV
  | m :: ms, s :: ss, acc => bif !s then gC dRMsg pTo eRMsg [.agg (encRep r), .int .i64 11, .agg (encMember m)] fun y => rinsK r fin ms ss (acc ++ [y]) else rinsK r fin ms ss acc
  | _, _, acc => fin acc
def rfinI (r : Rep) : List RMI → Option AV
  | [] => some .nils
  | l => some (.trl 31 (l.map (rinsN r)))
noncomputable def rlvK (r : Rep) (k : Option AV) : Option AV := gC dRep1 pRep1 eRep1 [.agg (encRep r)] fun y => bif !liveP y then some .nils else k
theorem rag_s1 (r : Rep) (a : Member) (s : Bool) : callT env23 9 F_lockgateref18_Again [.agg (encRep (inSy r [a] [s]))] = rlvK (inSy r [a] [s]) (rinsK (inSy r [a] [s]) (rfinI (inSy r [a] [s])) [a] [s] []) := by kernel_rfl
theorem rag_s2 (r : Rep) (a b : Member) (s t : Bool) : callT env23 9 F_lockgateref18_Again [.agg (encRep (inSy r [a, b] [s, t]))] = rlvK (inSy r [a, b] [s, t]) (rinsK (inSy r [a, b] [s, t]) (rfinI (inSy r [a, b] [s, t])) [a, b] [s, t] []) := by kernel_rfl
theorem rag_s3 (r : Rep) (a b c : Member) (s t u : Bool) : callT env23 9 F_lockgateref18_Again [.agg (encRep (inSy r [a, b, c] [s, t, u]))] = rlvK (inSy r [a, b, c] [s, t, u]) (rinsK (inSy r [a, b, c] [s, t, u]) (rfinI (inSy r [a, b, c] [s, t, u])) [a, b, c] [s, t, u] []) := by kernel_rfl
theorem rag_s4 (r : Rep) (a b c d : Member) (s t u v : Bool) : callT env23 9 F_lockgateref18_Again [.agg (encRep (inSy r [a, b, c, d] [s, t, u, v]))] = rlvK (inSy r [a, b, c, d] [s, t, u, v]) (rinsK (inSy r [a, b, c, d] [s, t, u, v]) (rfinI (inSy r [a, b, c, d] [s, t, u, v])) [a, b, c, d] [s, t, u, v] []) := by kernel_rfl
theorem rag_0 (r : Rep) : callT env23 9 F_lockgateref18_Again [.agg (encRep (inPh r 0))] = rlvK (inPh r 0) (some .nils) := by kernel_rfl

/-! ### forwards -/
noncomputable def rackK (r : Rep) (l : List (List AV)) : Option AV := gC dSd pSd eSd [encMembers r.view.chain, .agg (encMember r.self), .int .i64 (-1)] fun y1 =>
  bif !(sideP y1.1.1 y1.1.2 y1.2).isSome then (match l with
    | [] => some .nils
    | l => some (.trl 31 l))
  else gC dRMsg pTo eRMsg [.agg (encRep r), .int .i64 14, .agg (encMember ((sideP y1.1.1 y1.1.2 y1.2).getD default))] fun y2 => gC dSd pSd eSd [encMembers r.view.chain, .agg (encMember r.self), .int .i64 1] fun y3 =>
    bif (sideP y3.1.1 y3.1.2 y3.2).isSome then some (.trl 31 (l ++ [(toN y2.1 y2.2.1 y2.2.2).set 16 (eV r.got)])) else some (.trl 31 (l ++ [(toN y2.1 y2.2.1 y2.2.2).set 16 (eV r.tail.last)]))
def SRa (r : Rep) (x : Member) (i : Int) (a : AV) (rest : Heap) : St := { fr := [(1, .ptr 0 0 0), (3, .nils), (8, .ptr 1 0 0), (9, .int .i64 i), (1002, .undef)], hp := .arr true 15 [encRep (inPh r 3)] :: .arr true 31 [toNs (inPh r 3) x 13 r.tail.floor a] :: rest }
theorem rag_step0 (N : Nat) (m : Nat) (r : Rep) (x : Member) (i : Int) : LP env23 (N + 3) 0 F_lockgateref18_Again snK 2 [] (m + 1) (SRa r x i AV.nils []) =
  bif decide (i < (↑(inPh r 3).tail.log.length : Int)) then 
    bif decide (0 ≤ i) && decide (i < (↑(inPh r 3).tail.log.length : Int)) then 
      gC (dV2) (V2) (eV2) ([AV.cplx FloatKind.f64 r.got.re r.got.im, AV.cplx FloatKind.f64 (r.tail.log.getD i.toNat default).ver.re (r.tail.log.getD i.toNat default).ver.im]) fun y0 =>
      bif vlt y0.fst y0.snd then 
        bif decide (0 ≤ i) && decide (i < (↑(inPh r 3).tail.log.length : Int)) then 
          LP (env23) (N + 3) (0) (F_lockgateref18_Again) (snK) 2 ([]) (m) (SRa r x (IntKind.i64.wrap (i + 1)) (AV.sl 11 2 0 1 1) [BS.seq true 11 1 fun i_1 => [encEntry (r.tail.log.getD i.toNat default)].getD i_1 (encEntry (r.tail.log.getD i.toNat default))])
        else none
      else 
        LP (env23) (N + 3) (0) (F_lockgateref18_Again) (snK) 2 ([]) (m) (SRa r x (IntKind.i64.wrap (i + 1)) AV.nils [])
    else none
  else 
    gC (dSd) (pSd) (eSd) ([encMembers r.view.chain, AV.agg (encMember r.self), AV.int IntKind.i64 (-1)]) fun y1 =>
    bif !(sideP y1.fst.fst y1.fst.snd y1.snd).isSome then 
      some (AV.trl 31 [[AV.int IntKind.i64 13, AV.int IntKind.i64 r.self.node, AV.int IntKind.i64 x.node, AV.int IntKind.i64 x.boot, AV.int IntKind.i64 r.self.boot, AV.int IntKind.i64 r.shard, AV.int IntKind.i64 r.view.epoch, AV.int IntKind.i64 0, AV.int IntKind.i64 0, AV.int IntKind.i64 0, AV.int IntKind.i64 0, AV.int IntKind.i64 0, AV.bool false, AV.bool false, AV.str [], AV.str [], AV.cplx FloatKind.f64 0 0, AV.cplx FloatKind.f64 r.tail.floor.re r.tail.floor.im, AV.int IntKind.i64 0, AV.str [], AV.str [], AV.str [], AV.bool false, AV.nils, AV.nils, AV.nils, AV.cplx FloatKind.f64 0 0, AV.cplx FloatKind.f64 0 0, AV.int IntKind.i64 0, AV.nils, AV.nils]])
    else 
      gC (dRMsg) (pTo) (eRMsg) ([AV.agg [AV.int IntKind.i64 r.shard, AV.int IntKind.i64 r.self.node, AV.int IntKind.i64 r.self.boot, AV.int IntKind.i64 r.view.shard, AV.int IntKind.i64 r.view.epoch, AV.int IntKind.i64 r.view.gen, AV.int IntKind.i64 3, encMembers r.view.chain, AV.int IntKind.i64 r.frozen, AV.cplx FloatKind.f64 r.tail.floor.re r.tail.floor.im, AV.cplx FloatKind.f64 r.tail.last.re r.tail.last.im, encEntrys r.tail.log, encSeens r.seen, AV.cplx FloatKind.f64 r.got.re r.got.im, encBools r.synced], AV.int IntKind.i64 14, AV.agg (encMember ((sideP y1.fst.fst y1.fst.snd y1.snd).getD default))]) fun y2 =>
      gC (dSd) (pSd) (eSd) ([encMembers r.view.chain, AV.agg (encMember r.self), AV.int IntKind.i64 1]) fun y3 =>
      bif (sideP y3.fst.fst y3.fst.snd y3.snd).isSome then 
        some (AV.trl 31 [[AV.int IntKind.i64 13, AV.int IntKind.i64 r.self.node, AV.int IntKind.i64 x.node, AV.int IntKind.i64 x.boot, AV.int IntKind.i64 r.self.boot, AV.int IntKind.i64 r.shard, AV.int IntKind.i64 r.view.epoch, AV.int IntKind.i64 0, AV.int IntKind.i64 0, AV.int IntKind.i64 0, AV.int IntKind.i64 0, AV.int IntKind.i64 0, AV.bool false, AV.bool false, AV.str [], AV.str [], AV.cplx FloatKind.f64 0 0, AV.cplx FloatKind.f64 r.tail.floor.re r.tail.floor.im, AV.int IntKind.i64 0, AV.str [], AV.str [], AV.str [], AV.bool false, AV.nils, AV.nils, AV.nils, AV.cplx FloatKind.f64 0 0, AV.cplx FloatKind.f64 0 0, AV.int IntKind.i64 0, AV.nils, AV.nils], [AV.int IntKind.i64 y2.snd.snd, AV.int IntKind.i64 y2.fst.self.node, AV.int IntKind.i64 y2.snd.fst.node, AV.int IntKind.i64 y2.snd.fst.boot, AV.int IntKind.i64 y2.fst.self.boot, AV.int IntKind.i64 y2.fst.shard, AV.int IntKind.i64 y2.fst.view.epoch, AV.int IntKind.i64 0, AV.int IntKind.i64 0, AV.int IntKind.i64 0, AV.int IntKind.i64 0, AV.int IntKind.i64 0, AV.bool false, AV.bool false, AV.str [], AV.str [], AV.cplx FloatKind.f64 r.got.re r.got.im, AV.cplx FloatKind.f64 0 0, AV.int IntKind.i64 0, AV.str [], AV.str [], AV.str [], AV.bool false, AV.nils, AV.nils, AV.nils, AV.cplx FloatKind.f64 0 0, AV.cplx FloatKind.f64 0 0, AV.int IntKind.i64 0, AV.nils, AV.nils]])
      else 
        some (AV.trl 31 [[AV.int IntKind.i64 13, AV.int IntKind.i64 r.self.node, AV.int IntKind.i64 x.node, AV.int IntKind.i64 x.boot, AV.int IntKind.i64 r.self.boot, AV.int IntKind.i64 r.shard, AV.int IntKind.i64 r.view.epoch, AV.int IntKind.i64 0, AV.int IntKind.i64 0, AV.int IntKind.i64 0, AV.int IntKind.i64 0, AV.int IntKind.i64 0, AV.bool false, AV.bool false, AV.str [], AV.str [], AV.cplx FloatKind.f64 0 0, AV.cplx FloatKind.f64 r.tail.floor.re r.tail.floor.im, AV.int IntKind.i64 0, AV.str [], AV.str [], AV.str [], AV.bool false, AV.nils, AV.nils, AV.nils, AV.cplx FloatKind.f64 0 0, AV.cplx FloatKind.f64 0 0, AV.int IntKind.i64 0, AV.nils, AV.nils], [AV.int IntKind.i64 y2.snd.snd, AV.int IntKind.i64 y2.fst.self.node, AV.int IntKind.i64 y2.snd.fst.node, AV.int IntKind.i64 y2.snd.fst.boot, AV.int IntKind.i64 y2.fst.self.boot, AV.int IntKind.i64 y2.fst.shard, AV.int IntKind.i64 y2.fst.view.epoch, AV.int IntKind.i64 0, AV.int IntKind.i64 0, AV.int IntKind.i64 0, AV.int IntKind.i64 0, AV.int IntKind.i64 0, AV.bool false, AV.bool false, AV.str [], AV.str [], AV.cplx FloatKind.f64 r.tail.last.re r.tail.last.im, AV.cplx FloatKind.f64 0 0, AV.int IntKind.i64 0, AV.str [], AV.str [], AV.str [], AV.bool false, AV.nils, AV.nils, AV.nils, AV.cplx FloatKind.f64 0 0, AV.cplx FloatKind.f64 0 0, AV.int IntKind.i64 0, AV.nils, AV.nils]]) := by kernel_rfl
theorem rag_step1 (N : Nat) (m : Nat) (r : Rep) (x : Member) (i : Int) (f : Nat → List AV) : LP env23 (N + 3) 0 F_lockgateref18_Again snK 2 [] (m + 1) (SRa r x i (AV.sl 11 2 0 1 1) [BS.seq true 11 1 f]) =
  bif decide (i < (↑(inPh r 3).tail.log.length : Int)) then 
    bif decide (0 ≤ i) && decide (i < (↑(inPh r 3).tail.log.length : Int)) then 
      gC (dV2) (V2) (eV2) ([AV.cplx FloatKind.f64 r.got.re r.got.im, AV.cplx FloatKind.f64 (r.tail.log.getD i.toNat default).ver.re (r.tail.log.getD i.toNat default).ver.im]) fun y4 =>
      bif vlt y4.fst y4.snd then 
        bif decide (0 ≤ i) && decide (i < (↑(inPh r 3).tail.log.length : Int)) then 
          LP (env23) (N + 3) (0) (F_lockgateref18_Again) (snK) 2 ([]) (m) (SRa r x (IntKind.i64.wrap (i + 1)) (AV.sl 11 2 0 2 0) [BS.seq true 11 2 fun i_1 => bif i_1.blt 1 then f i_1 else bif i_1.blt 2 then [encEntry (r.tail.log.getD i.toNat default)].getD (i_1 - 1) [] else f 1])
        else none
      else 
        LP (env23) (N + 3) (0) (F_lockgateref18_Again) (snK) 2 ([]) (m) (SRa r x (IntKind.i64.wrap (i + 1)) (AV.sl 11 2 0 1 1) [BS.seq true 11 1 f])
    else none
  else 
    gC (dSd) (pSd) (eSd) ([encMembers r.view.chain, AV.agg (encMember r.self), AV.int IntKind.i64 (-1)]) fun y5 =>
    bif !(sideP y5.fst.fst y5.fst.snd y5.snd).isSome then 
      some (AV.trl 31 [[AV.int IntKind.i64 13, AV.int IntKind.i64 r.self.node, AV.int IntKind.i64 x.node, AV.int IntKind.i64 x.boot, AV.int IntKind.i64 r.self.boot, AV.int IntKind.i64 r.shard, AV.int IntKind.i64 r.view.epoch, AV.int IntKind.i64 0, AV.int IntKind.i64 0, AV.int IntKind.i64 0, AV.int IntKind.i64 0, AV.int IntKind.i64 0, AV.bool false, AV.bool false, AV.str [], AV.str [], AV.cplx FloatKind.f64 0 0, AV.cplx FloatKind.f64 r.tail.floor.re r.tail.floor.im, AV.int IntKind.i64 0, AV.str [], AV.str [], AV.str [], AV.bool false, AV.tr 11 1 fun i => f i, AV.nils, AV.nils, AV.cplx FloatKind.f64 0 0, AV.cplx FloatKind.f64 0 0, AV.int IntKind.i64 0, AV.nils, AV.nils]])
    else 
      gC (dRMsg) (pTo) (eRMsg) ([AV.agg [AV.int IntKind.i64 r.shard, AV.int IntKind.i64 r.self.node, AV.int IntKind.i64 r.self.boot, AV.int IntKind.i64 r.view.shard, AV.int IntKind.i64 r.view.epoch, AV.int IntKind.i64 r.view.gen, AV.int IntKind.i64 3, encMembers r.view.chain, AV.int IntKind.i64 r.frozen, AV.cplx FloatKind.f64 r.tail.floor.re r.tail.floor.im, AV.cplx FloatKind.f64 r.tail.last.re r.tail.last.im, encEntrys r.tail.log, encSeens r.seen, AV.cplx FloatKind.f64 r.got.re r.got.im, encBools r.synced], AV.int IntKind.i64 14, AV.agg (encMember ((sideP y5.fst.fst y5.fst.snd y5.snd).getD default))]) fun y6 =>
      gC (dSd) (pSd) (eSd) ([encMembers r.view.chain, AV.agg (encMember r.self), AV.int IntKind.i64 1]) fun y7 =>
      bif (sideP y7.fst.fst y7.fst.snd y7.snd).isSome then 
        some (AV.trl 31 [[AV.int IntKind.i64 13, AV.int IntKind.i64 r.self.node, AV.int IntKind.i64 x.node, AV.int IntKind.i64 x.boot, AV.int IntKind.i64 r.self.boot, AV.int IntKind.i64 r.shard, AV.int IntKind.i64 r.view.epoch, AV.int IntKind.i64 0, AV.int IntKind.i64 0, AV.int IntKind.i64 0, AV.int IntKind.i64 0, AV.int IntKind.i64 0, AV.bool false, AV.bool false, AV.str [], AV.str [], AV.cplx FloatKind.f64 0 0, AV.cplx FloatKind.f64 r.tail.floor.re r.tail.floor.im, AV.int IntKind.i64 0, AV.str [], AV.str [], AV.str [], AV.bool false, AV.tr 11 1 fun i => f i, AV.nils, AV.nils, AV.cplx FloatKind.f64 0 0, AV.cplx FloatKind.f64 0 0, AV.int IntKind.i64 0, AV.nils, AV.nils], [AV.int IntKind.i64 y6.snd.snd, AV.int IntKind.i64 y6.fst.self.node, AV.int IntKind.i64 y6.snd.fst.node, AV.int IntKind.i64 y6.snd.fst.boot, AV.int IntKind.i64 y6.fst.self.boot, AV.int IntKind.i64 y6.fst.shard, AV.int IntKind.i64 y6.fst.view.epoch, AV.int IntKind.i64 0, AV.int IntKind.i64 0, AV.int IntKind.i64 0, AV.int IntKind.i64 0, AV.int IntKind.i64 0, AV.bool false, AV.bool false, AV.str [], AV.str [], AV.cplx FloatKind.f64 r.got.re r.got.im, AV.cplx FloatKind.f64 0 0, AV.int IntKind.i64 0, AV.str [], AV.str [], AV.str [], AV.bool false, AV.nils, AV.nils, AV.nils, AV.cplx FloatKind.f64 0 0, AV.cplx FloatKind.f64 0 0, AV.int IntKind.i64 0, AV.nils, AV.nils]])
      else 
        some (AV.trl 31 [[AV.int IntKind.i64 13, AV.int IntKind.i64 r.self.node, AV.int IntKind.i64 x.node, AV.int IntKind.i64 x.boot, AV.int IntKind.i64 r.self.boot, AV.int IntKind.i64 r.shard, AV.int IntKind.i64 r.view.epoch, AV.int IntKind.i64 0, AV.int IntKind.i64 0, AV.int IntKind.i64 0, AV.int IntKind.i64 0, AV.int IntKind.i64 0, AV.bool false, AV.bool false, AV.str [], AV.str [], AV.cplx FloatKind.f64 0 0, AV.cplx FloatKind.f64 r.tail.floor.re r.tail.floor.im, AV.int IntKind.i64 0, AV.str [], AV.str [], AV.str [], AV.bool false, AV.tr 11 1 fun i => f i, AV.nils, AV.nils, AV.cplx FloatKind.f64 0 0, AV.cplx FloatKind.f64 0 0, AV.int IntKind.i64 0, AV.nils, AV.nils], [AV.int IntKind.i64 y6.snd.snd, AV.int IntKind.i64 y6.fst.self.node, AV.int IntKind.i64 y6.snd.fst.node, AV.int IntKind.i64 y6.snd.fst.boot, AV.int IntKind.i64 y6.fst.self.boot, AV.int IntKind.i64 y6.fst.shard, AV.int IntKind.i64 y6.fst.view.epoch, AV.int IntKind.i64 0, AV.int IntKind.i64 0, AV.int IntKind.i64 0, AV.int IntKind.i64 0, AV.int IntKind.i64 0, AV.bool false, AV.bool false, AV.str [], AV.str [], AV.cplx FloatKind.f64 r.tail.last.re r.tail.last.im, AV.cplx FloatKind.f64 0 0, AV.int IntKind.i64 0, AV.str [], AV.str [], AV.str [], AV.bool false, AV.nils, AV.nils, AV.nils, AV.cplx FloatKind.f64 0 0, AV.cplx FloatKind.f64 0 0, AV.int IntKind.i64 0, AV.nils, AV.nils]]) := by kernel_rfl
theorem rag_step2 (N : Nat) (m : Nat) (r : Rep) (x : Member) (i : Int) (n : Nat) (f : Nat → List AV) : LP env23 (N + 3) 0 F_lockgateref18_Again snK 2 [] (m + 1) (SRa r x i (AV.sl 11 2 0 n 0) [BS.seq true 11 n f]) =
  bif decide (i < (↑(inPh r 3).tail.log.length : Int)) then 
    bif decide (0 ≤ i) && decide (i < (↑(inPh r 3).tail.log.length : Int)) then 
      gC (dV2) (V2) (eV2) ([AV.cplx FloatKind.f64 r.got.re r.got.im, AV.cplx FloatKind.f64 (r.tail.log.getD i.toNat default).ver.re (r.tail.log.getD i.toNat default).ver.im]) fun y8 =>
      bif vlt y8.fst y8.snd then 
        bif decide (0 ≤ i) && decide (i < (↑(inPh r 3).tail.log.length : Int)) then 
          bif n.beq 0 || n.ble n then 
            bif ((n + 1) * 112).ble 140737488355328 && (n + 1).ble 140737488355328 then 
              LP (env23) (N + 3) (0) (F_lockgateref18_Again) (snK) 2 ([]) (m) (SRa r x (IntKind.i64.wrap (i + 1)) (AV.sl 11 2 0 (n + 1) 0) [BS.seq true 11 (n + 1) fun i_1 => bif i_1.blt n then f i_1 else bif i_1.blt (n + 1) then [encEntry (r.tail.log.getD i.toNat default)].getD (i_1 - n) [] else f n])
            else none
          else none
        else none
      else 
        LP (env23) (N + 3) (0) (F_lockgateref18_Again) (snK) 2 ([]) (m) (SRa r x (IntKind.i64.wrap (i + 1)) (AV.sl 11 2 0 n 0) [BS.seq true 11 n f])
    else none
  else 
    gC (dSd) (pSd) (eSd) ([encMembers r.view.chain, AV.agg (encMember r.self), AV.int IntKind.i64 (-1)]) fun y9 =>
    bif !(sideP y9.fst.fst y9.fst.snd y9.snd).isSome then 
      bif (n.beq 0 || n.ble n) && true && true && true then 
        some (AV.trl 31 [[AV.int IntKind.i64 13, AV.int IntKind.i64 r.self.node, AV.int IntKind.i64 x.node, AV.int IntKind.i64 x.boot, AV.int IntKind.i64 r.self.boot, AV.int IntKind.i64 r.shard, AV.int IntKind.i64 r.view.epoch, AV.int IntKind.i64 0, AV.int IntKind.i64 0, AV.int IntKind.i64 0, AV.int IntKind.i64 0, AV.int IntKind.i64 0, AV.bool false, AV.bool false, AV.str [], AV.str [], AV.cplx FloatKind.f64 0 0, AV.cplx FloatKind.f64 r.tail.floor.re r.tail.floor.im, AV.int IntKind.i64 0, AV.str [], AV.str [], AV.str [], AV.bool false, AV.tr 11 n fun i => f i, AV.nils, AV.nils, AV.cplx FloatKind.f64 0 0, AV.cplx FloatKind.f64 0 0, AV.int IntKind.i64 0, AV.nils, AV.nils]])
      else none
    else 
      gC (dRMsg) (pTo) (eRMsg) ([AV.agg [AV.int IntKind.i64 r.shard, AV.int IntKind.i64 r.self.node, AV.int IntKind.i64 r.self.boot, AV.int IntKind.i64 r.view.shard, AV.int IntKind.i64 r.view.epoch, AV.int IntKind.i64 r.view.gen, AV.int IntKind.i64 3, encMembers r.view.chain, AV.int IntKind.i64 r.frozen, AV.cplx FloatKind.f64 r.tail.floor.re r.tail.floor.im, AV.cplx FloatKind.f64 r.tail.last.re r.tail.last.im, encEntrys r.tail.log, encSeens r.seen, AV.cplx FloatKind.f64 r.got.re r.got.im, encBools r.synced], AV.int IntKind.i64 14, AV.agg (encMember ((sideP y9.fst.fst y9.fst.snd y9.snd).getD default))]) fun y10 =>
      gC (dSd) (pSd) (eSd) ([encMembers r.view.chain, AV.agg (encMember r.self), AV.int IntKind.i64 1]) fun y11 =>
      bif (sideP y11.fst.fst y11.fst.snd y11.snd).isSome then 
        bif (n.beq 0 || n.ble n) && true && true && true then 
          some (AV.trl 31 [[AV.int IntKind.i64 13, AV.int IntKind.i64 r.self.node, AV.int IntKind.i64 x.node, AV.int IntKind.i64 x.boot, AV.int IntKind.i64 r.self.boot, AV.int IntKind.i64 r.shard, AV.int IntKind.i64 r.view.epoch, AV.int IntKind.i64 0, AV.int IntKind.i64 0, AV.int IntKind.i64 0, AV.int IntKind.i64 0, AV.int IntKind.i64 0, AV.bool false, AV.bool false, AV.str [], AV.str [], AV.cplx FloatKind.f64 0 0, AV.cplx FloatKind.f64 r.tail.floor.re r.tail.floor.im, AV.int IntKind.i64 0, AV.str [], AV.str [], AV.str [], AV.bool false, AV.tr 11 n fun i => f i, AV.nils, AV.nils, AV.cplx FloatKind.f64 0 0, AV.cplx FloatKind.f64 0 0, AV.int IntKind.i64 0, AV.nils, AV.nils], [AV.int IntKind.i64 y10.snd.snd, AV.int IntKind.i64 y10.fst.self.node, AV.int IntKind.i64 y10.snd.fst.node, AV.int IntKind.i64 y10.snd.fst.boot, AV.int IntKind.i64 y10.fst.self.boot, AV.int IntKind.i64 y10.fst.shard, AV.int IntKind.i64 y10.fst.view.epoch, AV.int IntKind.i64 0, AV.int IntKind.i64 0, AV.int IntKind.i64 0, AV.int IntKind.i64 0, AV.int IntKind.i64 0, AV.bool false, AV.bool false, AV.str [], AV.str [], AV.cplx FloatKind.f64 r.got.re r.got.im, AV.cplx FloatKind.f64 0 0, AV.int IntKind.i64 0, AV.str [], AV.str [], AV.str [], AV.bool false, AV.nils, AV.nils, AV.nils, AV.cplx FloatKind.f64 0 0, AV.cplx FloatKind.f64 0 0, AV.int IntKind.i64 0, AV.nils, AV.nils]])
        else none
      else 
        bif (n.beq 0 || n.ble n) && true && true && true then 
          some (AV.trl 31 [[AV.int IntKind.i64 13, AV.int IntKind.i64 r.self.node, AV.int IntKind.i64 x.node, AV.int IntKind.i64 x.boot, AV.int IntKind.i64 r.self.boot, AV.int IntKind.i64 r.shard, AV.int IntKind.i64 r.view.epoch, AV.int IntKind.i64 0, AV.int IntKind.i64 0, AV.int IntKind.i64 0, AV.int IntKind.i64 0, AV.int IntKind.i64 0, AV.bool false, AV.bool false, AV.str [], AV.str [], AV.cplx FloatKind.f64 0 0, AV.cplx FloatKind.f64 r.tail.floor.re r.tail.floor.im, AV.int IntKind.i64 0, AV.str [], AV.str [], AV.str [], AV.bool false, AV.tr 11 n fun i => f i, AV.nils, AV.nils, AV.cplx FloatKind.f64 0 0, AV.cplx FloatKind.f64 0 0, AV.int IntKind.i64 0, AV.nils, AV.nils], [AV.int IntKind.i64 y10.snd.snd, AV.int IntKind.i64 y10.fst.self.node, AV.int IntKind.i64 y10.snd.fst.node, AV.int IntKind.i64 y10.snd.fst.boot, AV.int IntKind.i64 y10.fst.self.boot, AV.int IntKind.i64 y10.fst.shard, AV.int IntKind.i64 y10.fst.view.epoch, AV.int IntKind.i64 0, AV.int IntKind.i64 0, AV.int IntKind.i64 0, AV.int IntKind.i64 0, AV.int IntKind.i64 0, AV.bool false, AV.bool false, AV.str [], AV.str [], AV.cplx FloatKind.f64 r.tail.last.re r.tail.last.im, AV.cplx FloatKind.f64 0 0, AV.int IntKind.i64 0, AV.str [], AV.str [], AV.str [], AV.bool false, AV.nils, AV.nils, AV.nils, AV.cplx FloatKind.f64 0 0, AV.cplx FloatKind.f64 0 0, AV.int IntKind.i64 0, AV.nils, AV.nils]])
        else none := by kernel_rfl
theorem rag_in (N : Nat) (r : Rep) : callT env23 (N + 4) F_lockgateref18_Again [.agg (encRep (inPh r 3))] = rlvK (inPh r 3) (gC dSd pSd eSd [encMembers r.view.chain, .agg (encMember r.self), .int .i64 1] fun y3 =>
    bif (sideP y3.1.1 y3.1.2 y3.2).isSome then gC dRMsg pTo eRMsg [.agg (encRep (inPh r 3)), .int .i64 13, .agg (encMember ((sideP y3.1.1 y3.1.2 y3.2).getD default))] fun y4 =>
      LP env23 (N + 3) 0 F_lockgateref18_Again snK 2 [] (N + 3) { fr := [(1, .ptr 0 0 0), (3, .nils), (8, .ptr 1 0 0), (9, .int .i64 0), (1002, .undef)], hp := [.arr true 15 [encRep (inPh r 3)], .arr true 31 [(toN y4.1 y4.2.1 y4.2.2).set 17 (eV r.tail.floor)]] }
    else rackK (inPh r 3) []) := by kernel_rfl
def SRg (r : Rep) (x : Member) (i : Int) (l : List Entry) : St := SRa r x i (gSl 11 2 l) (gBl 11 encEntry default l)
theorem rag_step (N m : Nat) (r : Rep) (x : Member) (i : Int) (l : List Entry) (hl : l.length ≤ LB) : LP env23 (N + 3) 0 F_lockgateref18_Again snK 2 [] (m + 1) (SRg r x i l) =
    bif decide (i < (r.tail.log.length : Int)) then rg i r.tail.log.length <| gC dV2 V2 eV2 [eV r.got, eV (r.tail.log.getD i.toNat default).ver] fun y =>
      bif vlt y.1 y.2 then rg i r.tail.log.length <| LP env23 (N + 3) 0 F_lockgateref18_Again snK 2 [] m (SRg r x (IntKind.i64.wrap (i + 1)) (l ++ [r.tail.log.getD i.toNat default]))
      else LP env23 (N + 3) 0 F_lockgateref18_Again snK 2 [] m (SRg r x (IntKind.i64.wrap (i + 1)) l)
    else rackK (inPh r 3) [toNs (inPh r 3) x 13 r.tail.floor (gTr 11 encEntry default l)] := by
  unfold LB at hl
  match l, hl with
  | [], _ => exact (rag_step0 N m r x i).trans (by rw [canF_oneS (z := default)]; kernel_rfl)
  | [a], _ => exact (rag_step1 N m r x i _).trans (by rw [canF_app1 (z := default)]; kernel_rfl)
  | a :: b :: l, hl =>
    refine (rag_step2 N m r x i (l.length + 2) _).trans ?_
    have h := canF_app (e := encEntry) (z := default) (l := a :: b :: l) (by simp) (r.tail.log.getD i.toNat default)
    simp only [List.length_cons] at h hl
    rw [h, SRg, gSl_app (by simp), gBl_app (by simp)]
    simp only [roomU (b := 112) (n := l.length + 2) (by omega) (by omega), Bool.and_true, orU, cond_true]
    show _ = _
    kernel_rfl
end Go.Wk
end

section
/- What a member sends again, by the reference: as the program's. -/
open Go Go.AM Go.Md
namespace Go.Wk
set_option maxRecDepth 100000
set_option maxHeartbeats 400000
theorem rinsK_eq {r : Rep} {fin : List RMI → Option AV} : ∀ (l : List Member) (s : List Bool) (acc : List RMI), ∃ k : List Member, rinsK r fin l s acc = fin (acc ++ k.map fun m => (r, m, 11)) ∧ k.map (instM r) = instsP r l s
  | [], _, acc => ⟨[], by simp [rinsK], rfl⟩
  | _ :: _, [], acc => ⟨[], by simp [rinsK], rfl⟩
  | m :: ms, s :: ss, acc => by
    cases s with
    | true =>
      obtain ⟨k, h1, h2⟩ := rinsK_eq (r := r) (fin := fin) ms ss acc
      exact ⟨k, h1, h2⟩
    | false =>
      obtain ⟨k, h1, h2⟩ := rinsK_eq (r := r) (fin := fin) ms ss (acc ++ [(r, m, 11)])
      refine ⟨m :: k, ?_, by simp [instsP, h2]⟩
      show (gC dRMsg pTo eRMsg [.agg (encRep r), .int .i64 11, .agg (encMember m)] fun y => rinsK r fin ms ss (acc ++ [y])) = _
      rw [qRMsg, h1, List.append_assoc]; rfl
theorem SubC.trl {sz : Nat} : ∀ {a b : List (List AV)}, a.length = b.length → (∀ i, i < a.length → SubC (a.getD i []) (b.getD i [])) → SubV (.trl sz a) (.trl sz b) := by
  intro a b hl h w I u hv
  cases hv with
  | trl _ _ _ h1 hz =>
    refine .trl _ _ _ ?_ hz
    rw [← hl]
    exact SubV.trs h w I u h1
theorem trl_map {X : Type} {sz : Nat} {f g : X → List AV} (h : ∀ x, SubC (f x) (g x)) (l : List X) : SubV (.trl sz (l.map f)) (.trl sz (l.map g)) := by
  refine SubC.trl (by simp) fun i hi => ?_
  have hi : i < l.length := by simpa using hi
  have e1 : (l.map f).getD i [] = f l[i] := by simp [List.getD, List.getElem?_eq_getElem hi]
  have e2 : (l.map g).getD i [] = g l[i] := by simp [List.getD, List.getElem?_eq_getElem hi]
  rw [e1, e2]; exact h _
theorem rinsN_sub (r : Rep) (m : Member) : SubC (rinsN r (r, m, 11)) (encMsg (instM r m)) := subC_all (by repeat' (first | exact trivial | exact nilsL | exact SubV.refl _ | refine ⟨?_, ?_⟩))
theorem toN_ver (r : Rep) (m : Member) (v : Ver) : SubC ((toN r m 14).set 16 (eV v)) (encMsg { toM r m 14 with ver := v }) := subC_all (by repeat' (first | exact trivial | exact nilsL | exact SubV.refl _ | refine ⟨?_, ?_⟩))
theorem toNs_sub (r : Rep) (m : Member) (l : List Entry) (hl : l = r.tail.log.filter fun e => vlt r.got e.ver) : SubC (toNs r m 13 r.tail.floor (gTr 11 encEntry default l)) (encMsg (forwM r m)) := by
  subst hl
  exact subC_all (by repeat' (first | exact trivial | exact nilsL | exact gTr_sub _ | exact SubV.refl _ | refine ⟨?_, ?_⟩))
theorem msgs_sub {a : List (List AV)} {b : List Msg} (hab : a.length = b.length) (hsub : ∀ i, i < a.length → SubC (a.getD i []) (encMsg (b.getD i default))) : SubV (.trl 31 a) (encMsgs b) := by
  refine SubV.trans (SubC.trl (b := b.map encMsg) (by simpa using hab) fun i hi => ?_) (SubV.trl_encL (e := encMsg) (z := default) b)
  have hb : i < b.length := by omega
  have : (b.map encMsg).getD i [] = encMsg (b.getD i default) := by simp [List.getD, List.getElem?_eq_getElem hb]
  rw [this]; exact hsub i hi
theorem msgs_app {l : List (List AV)} {l' : List Msg} {c : List AV} {x : Msg} (hl : l.length = l'.length) (hs : ∀ i, i < l.length → SubC (l.getD i []) (encMsg (l'.getD i default))) (hx : SubC c (encMsg x)) : SubV (.trl 31 (l ++ [c])) (encMsgs (l' ++ [x])) := by
  refine msgs_sub (by simp [hl]) fun i hi => ?_
  by_cases h1 : i < l.length
  · have e1 : (l ++ [c]).getD i [] = l.getD i [] := by unfold List.getD; rw [List.getElem?_append_left h1]
    have e2 : (l' ++ [x]).getD i default = l'.getD i default := by unfold List.getD; rw [List.getElem?_append_left (by omega)]
    rw [e1, e2]; exact hs i h1
  · have hi' : i = l.length := by simp only [List.length_append, List.length_cons, List.length_nil] at hi; omega
    have e1 : (l ++ [c]).getD i [] = c := by rw [hi']; simp [List.getD]
    have e2 : (l' ++ [x]).getD i default = x := by rw [hi', hl]; simp [List.getD]
    rw [e1, e2]; exact hx
/-- what follows the messages so far -/
theorem rackK_eq {r : Rep} (h : r.view.chain.length ≤ LB) (l : List (List AV)) (l' : List Msg) (hl : l.length = l'.length) (hs : ∀ i, i < l.length → SubC (l.getD i []) (encMsg (l'.getD i default))) :
    ∃ v, rackK r l = some v ∧ SubV v (encMsgs (l' ++ acksP r)) := by
  unfold rackK
  rw [qSd h (.inr rfl)]
  cases hsd : sideP r.view.chain r.self (-1) with
  | none =>
    have ha : acksP r = [] := by unfold acksP; rw [hsd]
    rw [ha, List.append_nil]
    simp only [hsd, Option.isSome_none, Bool.not_false, cond_true]
    cases l with
    | nil =>
      have : l' = [] := List.length_eq_zero_iff.1 hl.symm
      subst this
      exact ⟨.nils, rfl, nilsL⟩
    | cons a l => exact ⟨.trl 31 (a :: l), rfl, msgs_sub hl hs⟩
  | some m =>
    have ha : acksP r = [{ toM r m 14 with ver := haveP r }] := by unfold acksP; rw [hsd]
    rw [ha]
    simp only [hsd, Option.isSome_some, Bool.not_true, cond_false, Option.getD_some]
    rw [qRMsg, qSd h (.inl rfl)]
    refine ⟨.trl 31 (l ++ [(toN r m 14).set 16 (eV (haveP r))]), ?_, msgs_app hl hs (toN_ver r m _)⟩
    unfold haveP
    generalize (sideP r.view.chain r.self 1).isSome = b
    cases b <;> rfl
theorem rag_con (r : Rep) (h : RepAg r) : Contract PG F_lockgateref18_Again [.agg (encRep r)] [] (encMsgs (againP r)) [] := by
  have hLB : r.view.chain.length ≤ LB := h.short.1
  rcases h.ph with hp | hp | hp
  · have ha : againP r = [] := by
      unfold againP syncsP worksP liveP
      rw [hp]; rfl
    have hl : liveP r = false := by unfold liveP; rw [hp]; rfl
    rw [ha]
    have key := rag_0 r
    rw [← inPh_eq hp] at key
    unfold rlvK at key
    rw [qRep1 (P := pRep1) trivial, hl] at key
    exact (con23 key).res nilsL
  · obtain ⟨hf, hl⟩ := h.sync hp
    have hs : syncsP r = liveP r := by
      unfold syncsP
      rw [hp]; cases liveP r <;> rfl
    have hw : worksP r = false := by
      unfold worksP
      rw [hp]; cases liveP r <;> rfl
    have key : callT env23 9 F_lockgateref18_Again [.agg (encRep r)] = rlvK r (rinsK r (rfinI r) r.view.chain r.synced []) := by
      have he := inSy_eq hp
      have hlen := h.len
      have hne : r.view.chain ≠ [] := by obtain ⟨x, hx⟩ := isFirst_cons hf; rw [hx]; simp
      clear hf
      generalize r.view.chain = ch at *
      generalize r.synced = sy at *
      match ch, sy, hl, hlen with
      | [a], [s], _, _ => have := rag_s1 r a s; rw [← he] at this; exact this
      | [a, b], [s, t], _, _ => have := rag_s2 r a b s t; rw [← he] at this; exact this
      | [a, b, c], [s, t, u], _, _ => have := rag_s3 r a b c s t u; rw [← he] at this; exact this
      | [a, b, c, d], [s, t, u, v], _, _ => have := rag_s4 r a b c d s t u v; rw [← he] at this; exact this
      | [], _, _, _ => exact absurd rfl hne
    unfold rlvK at key
    rw [qRep1 (P := pRep1) trivial] at key
    unfold againP
    rw [hs, hw]
    cases hd : liveP r with
    | false => rw [hd] at key; exact (con23 key).res nilsL
    | true =>
      rw [hd] at key
      simp only [Bool.not_true, cond_false] at key
      obtain ⟨k, h1, h2⟩ := rinsK_eq (r := r) (fin := rfinI r) r.view.chain r.synced []
      rw [h1, List.nil_append] at key
      simp only [cond_true]
      rw [← h2]
      cases k with
      | nil => exact (con23 key).res nilsL
      | cons a k =>
        have e : rfinI r ((a :: k).map fun m => (r, m, 11)) = some (.trl 31 ((a :: k).map fun m => rinsN r (r, m, 11))) := by simp [rfinI, List.map_map, Function.comp_def]
        rw [e] at key
        refine (con23 key).res (SubV.trans (trl_map (g := fun m => encMsg (instM r m)) (fun m => rinsN_sub r m) (a :: k)) ?_)
        have : (a :: k).map (fun m => encMsg (instM r m)) = ((a :: k).map (instM r)).map encMsg := by simp [List.map_map, Function.comp_def]
        rw [this]
        exact SubV.trl_encL (e := encMsg) (z := default) _
  · have hs : syncsP r = false := by
      unfold syncsP
      rw [hp]; cases liveP r <;> rfl
    have hw : worksP r = liveP r := by
      unfold worksP
      rw [hp]; cases liveP r <;> rfl
    have key := rag_in (r.tail.log.length + 1) r
    have he := inPh_eq hp
    rw [← he] at key
    unfold rlvK at key
    rw [qRep1 (P := pRep1) trivial] at key
    unfold againP
    rw [hs, hw]
    cases hd : liveP r with
    | false => rw [hd] at key; exact (con23 key).res nilsL
    | true =>
      rw [hd] at key
      simp only [Bool.not_true, cond_false] at key
      simp only [cond_true, cond_false]
      rw [qSd hLB (.inl rfl)] at key
      unfold forwsP
      cases hsd : sideP r.view.chain r.self 1 with
      | none =>
        rw [hsd] at key
        obtain ⟨v, h1, h2⟩ := rackK_eq hLB [] [] rfl (fun i hi => by simp at hi)
        simp only [Option.isSome_none, cond_false] at key
        exact (con23 (key.trans h1)).res h2
      | some m =>
        rw [hsd] at key
        simp only [Option.isSome_some, cond_true, Option.getD_some] at key
        rw [qRMsg] at key
        have hlog := h.short.2.1
        have loop := pick_loop (l := r.tail.log) (z := default) (keep := fun e => vlt r.got e.ver) (G := fun k i l => LP env23 (r.tail.log.length + 4) 0 F_lockgateref18_Again snK 2 [] k (SRg r m i l)) (fin := fun l => rackK (inPh r 3) [toNs (inPh r 3) m 13 r.tail.floor (gTr 11 encEntry default l)])
          (fun k acc ha => by unfold shortL at hlog; rw [rag_step _ _ _ _ _ _ (by omega), dec_nat, decide_eq_false (by omega), cond_false])
          (fun k i acc hi ha => by
            unfold shortL at hlog
            rw [rag_step _ _ _ _ _ _ (by omega), dec_nat, decide_eq_true hi, cond_true, rg_eq hi, Int.toNat_natCast]
            show gC dV2 V2 eV2 [.cplx .f64 _ _, .cplx .f64 _ _] _ = _
            rw [qV2 h.got (h.log _ (getD_mem hi)), rg_eq hi, wrapS (by unfold LB at hlog; omega)])
          r.tail.log.length 0 (r.tail.log.length + 4) [] (by omega) (by omega) (by simp)
        rw [List.drop_zero, List.nil_append, ← he] at loop
        obtain ⟨v, h1, h2⟩ := rackK_eq hLB [toNs r m 13 r.tail.floor (gTr 11 encEntry default (r.tail.log.filter fun e => vlt r.got e.ver))] [forwM r m] rfl (fun i hi => by
          have : i = 0 := by simp at hi; exact hi
          subst this
          exact toNs_sub r m _ rfl)
        have e0 : ({ fr := [(1, .ptr 0 0 0), (3, .nils), (8, .ptr 1 0 0), (9, .int .i64 0), (1002, .undef)], hp := [.arr true 15 [encRep r], .arr true 31 [(toN r m 13).set 17 (eV r.tail.floor)]] } : St) = SRg r m ((0 : Nat) : Int) [] := by
          unfold SRg SRa
          rw [← he]; rfl
        rw [e0] at key
        exact (con23 (key.trans (loop.trans h1))).res h2
noncomputable def kRAgain : Known := .spec F_lockgateref18_Again dRep1 RepAg eRep1 (fun r => encMsgs (againP r))
theorem kRAgain_ok : kRAgain.Ok PG := Known.spec_ok rag_con
end Go.Wk
end

section
/- Pushing an entry at a tail's end. -/
open Go Go.AM Go.Md
namespace Go.Wk
set_option maxRecDepth 100000
set_option maxHeartbeats 400000
noncomputable def kns25 : List Known := [kAhead, kRAhead, kRNum, kNum]
theorem kns25_ok : ∀ k ∈ kns25, k.Ok PG := ak kAhead_ok (ak kRAhead_ok (ak kRNum_ok (ak kNum_ok ank)))
noncomputable def env25 : Env := envO kns25
theorem tpush_n (f : Ver) (l : Ver) (e : Entry) : callT env25 9 F_tail_Push [AV.agg [eV f, eV l, AV.nils], AV.agg (encEntry e)] =
  gC (dV2) (V2) (eV2) ([AV.cplx FloatKind.f64 l.re l.im, AV.cplx FloatKind.f64 e.ver.re e.ver.im]) fun y0 =>
  bif !vlt y0.fst y0.snd then 
    some (AV.tup [AV.agg [AV.cplx FloatKind.f64 f.re f.im, AV.cplx FloatKind.f64 l.re l.im, AV.nils], AV.bool false])
  else 
    some (AV.tup [AV.agg [AV.cplx FloatKind.f64 f.re f.im, AV.cplx FloatKind.f64 e.ver.re e.ver.im, AV.trl 11 [encEntry e]], AV.bool true]) := by kernel_rfl
theorem tpush_e (f : Ver) (l : Ver) (e : Entry) : callT env25 9 F_tail_Push [AV.agg [eV f, eV l, AV.trl 11 []], AV.agg (encEntry e)] =
  gC (dV2) (V2) (eV2) ([AV.cplx FloatKind.f64 l.re l.im, AV.cplx FloatKind.f64 e.ver.re e.ver.im]) fun y1 =>
  bif !vlt y1.fst y1.snd then 
    some (AV.tup [AV.agg [AV.cplx FloatKind.f64 f.re f.im, AV.cplx FloatKind.f64 l.re l.im, AV.trl 11 []], AV.bool false])
  else 
    some (AV.tup [AV.agg [AV.cplx FloatKind.f64 f.re f.im, AV.cplx FloatKind.f64 e.ver.re e.ver.im, AV.trl 11 [encEntry e]], AV.bool true]) := by kernel_rfl
theorem tpush_c (f : Ver) (l : Ver) (e : Entry) (n : Nat) (g : Nat → List AV) : callT env25 9 F_tail_Push [AV.agg [eV f, eV l, AV.tr 11 (n + 1) g], AV.agg (encEntry e)] =
  bif ((0 + (n + 1)) * 112).ble 140737488355328 && (0 + (n + 1)).ble 140737488355328 then 
    gC (dV2) (V2) (eV2) ([AV.cplx FloatKind.f64 l.re l.im, AV.cplx FloatKind.f64 e.ver.re e.ver.im]) fun y2 =>
    bif !vlt y2.fst y2.snd then 
      bif (n + 1).ble (n + 1) && true && true then 
        some (AV.tup [AV.agg [AV.cplx FloatKind.f64 f.re f.im, AV.cplx FloatKind.f64 l.re l.im, AV.tr 11 (n + 1) fun i => g i], AV.bool false])
      else none
    else 
      bif (n + 1).ble (n + 1) then 
        bif ((n + 1 + 1) * 112).ble 140737488355328 && (n + 1 + 1).ble 140737488355328 then 
          bif (n + 1 + 1).ble (n + 1 + 1) && true && true then 
            some (AV.tup [AV.agg [AV.cplx FloatKind.f64 f.re f.im, AV.cplx FloatKind.f64 e.ver.re e.ver.im, AV.tr 11 (n + 1 + 1) fun i => bif i.blt (n + 1) then g i else bif i.blt (n + 1 + 1) then [encEntry e].getD (i - (n + 1)) [] else g (n + 1)], AV.bool true])
          else none
        else none
      else none
  else none := by kernel_rfl
theorem rpush_n (f : Ver) (l : Ver) (e : Entry) : callT env25 9 F_lockgateref15_Push [AV.agg [eV f, eV l, AV.nils], AV.agg (encEntry e)] =
  gC (dV2) (V2) (eV2) ([AV.cplx FloatKind.f64 l.re l.im, AV.cplx FloatKind.f64 e.ver.re e.ver.im]) fun y3 =>
  bif !vlt y3.fst y3.snd then 
    some (AV.tup [AV.agg [AV.cplx FloatKind.f64 f.re f.im, AV.cplx FloatKind.f64 l.re l.im, AV.nils], AV.bool false])
  else 
    some (AV.tup [AV.agg [AV.cplx FloatKind.f64 f.re f.im, AV.cplx FloatKind.f64 e.ver.re e.ver.im, AV.trl 11 [encEntry e]], AV.bool true]) := by kernel_rfl
theorem rpush_e (f : Ver) (l : Ver) (e : Entry) : callT env25 9 F_lockgateref15_Push [AV.agg [eV f, eV l, AV.trl 11 []], AV.agg (encEntry e)] =
  gC (dV2) (V2) (eV2) ([AV.cplx FloatKind.f64 l.re l.im, AV.cplx FloatKind.f64 e.ver.re e.ver.im]) fun y4 =>
  bif !vlt y4.fst y4.snd then 
    some (AV.tup [AV.agg [AV.cplx FloatKind.f64 f.re f.im, AV.cplx FloatKind.f64 l.re l.im, AV.trl 11 []], AV.bool false])
  else 
    some (AV.tup [AV.agg [AV.cplx FloatKind.f64 f.re f.im, AV.cplx FloatKind.f64 e.ver.re e.ver.im, AV.trl 11 [encEntry e]], AV.bool true]) := by kernel_rfl
theorem rpush_c (f : Ver) (l : Ver) (e : Entry) (n : Nat) (g : Nat → List AV) : callT env25 9 F_lockgateref15_Push [AV.agg [eV f, eV l, AV.tr 11 (n + 1) g], AV.agg (encEntry e)] =
  gC (dV2) (V2) (eV2) ([AV.cplx FloatKind.f64 l.re l.im, AV.cplx FloatKind.f64 e.ver.re e.ver.im]) fun y5 =>
  bif !vlt y5.fst y5.snd then 
    some (AV.tup [AV.agg [AV.cplx FloatKind.f64 f.re f.im, AV.cplx FloatKind.f64 l.re l.im, AV.tr 11 (n + 1) g], AV.bool false])
  else 
    bif ((0 + (n + 1)) * 112).ble 140737488355328 && (0 + (n + 1)).ble 140737488355328 then 
      bif (n + 1).ble (n + 1) then 
        bif ((n + 1 + 1) * 112).ble 140737488355328 && (n + 1 + 1).ble 140737488355328 then 
          bif (n + 1 + 1).ble (n + 1 + 1) && true && true then 
            some (AV.tup [AV.agg [AV.cplx FloatKind.f64 f.re f.im, AV.cplx FloatKind.f64 e.ver.re e.ver.im, AV.tr 11 (n + 1 + 1) fun i => bif i.blt (n + 1) then g i else bif i.blt (n + 1 + 1) then [encEntry e].getD (i - (n + 1)) [] else g (n + 1)], AV.bool true])
          else none
        else none
      else none
    else none := by kernel_rfl
def at1 (a : Seen) : Seen := ⟨1, a.num, a.ver, a.kind, a.code, a.res, a.hasRes⟩
theorem sput_n (s : Seen) : callT env25 20 F_seen_Put [AV.nils, AV.agg (encSeen s)] =
  some (AV.trl 7 [encSeen s]) := by kernel_rfl
theorem sput_e (s : Seen) : callT env25 20 F_seen_Put [AV.trl 7 [], AV.agg (encSeen s)] =
  some (AV.trl 7 [encSeen s]) := by kernel_rfl
theorem sput_1 (a : Seen) (s : Seen) : callT env25 20 F_seen_Put [AV.trl 7 [encSeen (at1 a)], AV.agg (encSeen (at1 s))] =
  bif decide ((at1 a).num < (at1 s).num) then 
    some (AV.trl 7 [[AV.int IntKind.i64 1, AV.int IntKind.i64 s.num, AV.cplx FloatKind.f64 s.ver.re s.ver.im, AV.int IntKind.i64 s.kind, AV.int IntKind.i64 s.code, AV.str s.res, AV.bool s.hasRes]])
  else 
    some (AV.trl 7 [[AV.int IntKind.i64 1, AV.int IntKind.i64 a.num, AV.cplx FloatKind.f64 a.ver.re a.ver.im, AV.int IntKind.i64 a.kind, AV.int IntKind.i64 a.code, AV.str a.res, AV.bool a.hasRes]]) := by kernel_rfl
theorem rput_n (s : Seen) : callT env25 20 F_lockgateref14_Put [AV.nils, AV.agg (encSeen s)] =
  some (AV.trl 7 [encSeen s]) := by kernel_rfl
theorem rput_e (s : Seen) : callT env25 20 F_lockgateref14_Put [AV.trl 7 [], AV.agg (encSeen s)] =
  some (AV.trl 7 [encSeen s]) := by kernel_rfl
theorem rput_1 (a : Seen) (s : Seen) : callT env25 20 F_lockgateref14_Put [AV.trl 7 [encSeen (at1 a)], AV.agg (encSeen (at1 s))] =
  bif decide ((at1 a).num < (at1 s).num) then 
    some (AV.trl 7 [[AV.int IntKind.i64 1, AV.int IntKind.i64 s.num, AV.cplx FloatKind.f64 s.ver.re s.ver.im, AV.int IntKind.i64 s.kind, AV.int IntKind.i64 s.code, AV.str s.res, AV.bool s.hasRes]])
  else 
    bif decide ((at1 s).num = (at1 a).num) then 
      some (AV.trl 7 [[AV.int IntKind.i64 1, AV.int IntKind.i64 a.num, AV.cplx FloatKind.f64 a.ver.re a.ver.im, AV.int IntKind.i64 a.kind, AV.int IntKind.i64 a.code, AV.str a.res, AV.bool a.hasRes]])
    else 
      some (AV.trl 7 [[AV.int IntKind.i64 1, AV.int IntKind.i64 a.num, AV.cplx FloatKind.f64 a.ver.re a.ver.im, AV.int IntKind.i64 a.kind, AV.int IntKind.i64 a.code, AV.str a.res, AV.bool a.hasRes]]) := by kernel_rfl
/-! ### tails -/
def pushT (t : Tail) (e : Entry) : Tail × Bool := bif vlt t.last e.ver then (⟨t.floor, e.ver, t.log ++ [e]⟩, true) else (t, false)
abbrev TE := Tail × Entry
def dTE (a : List AV) : TE := (decTail (argC a 0), decEntry (argC a 1))
def pTE (p : TE) : Prop := p.1.log.length ≤ 10000 ∧ VNum p.1.last ∧ VNum p.2.ver
def eTE (p : TE) : List AV := [.agg (encTail p.1), .agg (encEntry p.2)]
def oTE (p : TE) : AV := .tup [.agg (encTail (pushT p.1 p.2).1), .bool (pushT p.1 p.2).2]
theorem con25 {n f : Nat} {xs : List AV} {r : AV} (e : callT env25 n f xs = some r) : Contract PG f xs [] r [] := con_of (md := fun _ => none) kns25_ok e
theorem tail_sub {f l : Ver} {a b : AV} (h : SubV a b) : SubV (.agg [eV f, eV l, a]) (.agg [eV f, eV l, b]) := .agg (.cons (.refl _) (.cons (.refl _) (.cons h .nil)))
theorem tail_or {f l : Ver} {g : Nat → List AV} {x : AV} : OrC [.agg [eV f, eV l, .tr 11 0 g], x] [.agg [eV f, eV l, .nils], x] [.agg [eV f, eV l, .trl 11 []], x] := OrC.of [] [x] (.agg (OrC.of [eV f, eV l] [] .nil))
theorem tup2 {a b : AV} {c : Bool} (h : SubV a b) : SubV (.tup [a, .bool c]) (.tup [b, .bool c]) := .tup (.cons h (.cons (.refl _) .nil))
theorem one_sub (e : Entry) : SubV (.trl 11 [encEntry e]) (encEntrys [e]) := SubV.trl_of [e] rfl
theorem emp_sub : SubV (.trl 11 []) (encEntrys []) := SubV.trl_of [] rfl
theorem push_con {F : Nat}
    (hn : ∀ (f l : Ver) (e : Entry), callT env25 9 F [.agg [eV f, eV l, .nils], .agg (encEntry e)] = gC dV2 V2 eV2 [.cplx .f64 l.re l.im, .cplx .f64 e.ver.re e.ver.im] fun y => bif !vlt y.1 y.2 then some (.tup [.agg [eV f, eV l, .nils], .bool false]) else some (.tup [.agg [eV f, eV e.ver, .trl 11 [encEntry e]], .bool true]))
    (he : ∀ (f l : Ver) (e : Entry), callT env25 9 F [.agg [eV f, eV l, .trl 11 []], .agg (encEntry e)] = gC dV2 V2 eV2 [.cplx .f64 l.re l.im, .cplx .f64 e.ver.re e.ver.im] fun y => bif !vlt y.1 y.2 then some (.tup [.agg [eV f, eV l, .trl 11 []], .bool false]) else some (.tup [.agg [eV f, eV e.ver, .trl 11 [encEntry e]], .bool true]))
    (hc : ∀ (f l : Ver) (e : Entry) (n : Nat) (g : Nat → List AV), n ≤ 10000 → VNum l → VNum e.ver → callT env25 9 F [.agg [eV f, eV l, .tr 11 (n + 1) g], .agg (encEntry e)] =
      bif vlt l e.ver then some (.tup [.agg [eV f, eV e.ver, .tr 11 (n + 1 + 1) fun i => bif i.blt (n + 1) then g i else bif i.blt (n + 1 + 1) then [encEntry e].getD (i - (n + 1)) [] else g (n + 1)], .bool true]) else some (.tup [.agg [eV f, eV l, .tr 11 (n + 1) fun i => g i], .bool false]))
    (p : TE) (h : pTE p) : Contract PG F (eTE p) [] (oTE p) [] := by
  obtain ⟨⟨f, l, log⟩, e⟩ := p
  obtain ⟨h1, h2, h3⟩ := h
  simp only at h1 h2 h3
  cases log with
  | nil =>
    refine Contract.split tail_or ?_ ?_
    · have k := hn f l e
      rw [qV2 h2 h3] at k
      unfold oTE pushT
      simp only at k ⊢
      cases hv : vlt l e.ver with
      | false => rw [hv] at k; exact (con25 k).res (tup2 (tail_sub nilsL))
      | true => rw [hv] at k; exact (con25 k).res (tup2 (tail_sub (one_sub e)))
    · have k := he f l e
      rw [qV2 h2 h3] at k
      unfold oTE pushT
      simp only at k ⊢
      cases hv : vlt l e.ver with
      | false => rw [hv] at k; exact (con25 k).res (tup2 (tail_sub emp_sub))
      | true => rw [hv] at k; exact (con25 k).res (tup2 (tail_sub (one_sub e)))
  | cons a log =>
    have k := hc f l e log.length (fun i => encEntry ((a :: log).getD i default)) (by simp only [List.length_cons] at h1; omega) h2 h3
    unfold oTE pushT
    simp only
    cases hv : vlt l e.ver with
    | false => rw [hv] at k; exact con25 k
    | true =>
      rw [hv] at k
      refine (con25 k).res (tup2 (tail_sub ?_))
      have := appF_lit encEntry default (a :: log) [e]
      have e2 : (a :: log ++ [e]).length = log.length + 1 + 1 := by simp
      have e3 : encEntrys (a :: log ++ [e]) = .tr 11 (log.length + 1 + 1) fun i => encEntry ((a :: log ++ [e]).getD i default) := by unfold encEntrys encL; rw [e2]
      show SubV _ (encEntrys (a :: log ++ [e]))
      rw [e3, ← this]
      exact .refl _
theorem roomV {n b : Nat} (hb : b ≤ 1000) (h : n ≤ 1000000) : (Nat.ble (n * b) 140737488355328 && Nat.ble n 140737488355328) = true := by
  have h1 : n * b ≤ 140737488355328 := by
    have : n * b ≤ 1000000 * 1000 := Nat.mul_le_mul (by omega) hb
    omega
  rw [ble_true h1, ble_true (by omega : n ≤ 140737488355328)]; rfl
theorem tpush_con (p : TE) (h : pTE p) : Contract PG F_tail_Push (eTE p) [] (oTE p) [] :=
  push_con tpush_n tpush_e (fun f l e n g hn h2 h3 => by
    refine (tpush_c f l e n g).trans ?_
    rw [roomV (n := 0 + (n + 1)) (by omega) (by omega), cond_true, qV2 h2 h3]
    simp only [ble_self, Bool.and_true, cond_true, roomV (n := n + 1 + 1) (b := 112) (by omega) (by omega)]
    cases vlt l e.ver <;> rfl) p h
theorem rpush_con (p : TE) (h : pTE p) : Contract PG F_lockgateref15_Push (eTE p) [] (oTE p) [] :=
  push_con rpush_n rpush_e (fun f l e n g hn h2 h3 => by
    refine (rpush_c f l e n g).trans ?_
    rw [qV2 h2 h3]
    simp only [roomV (n := 0 + (n + 1)) (b := 112) (by omega) (by omega), ble_self, Bool.and_true, cond_true, roomV (n := n + 1 + 1) (b := 112) (by omega) (by omega)]
    cases vlt l e.ver <;> rfl) p h
noncomputable def kTPush : Known := .spec F_tail_Push dTE pTE eTE oTE
theorem kTPush_ok : kTPush.Ok PG := Known.spec_ok tpush_con
noncomputable def kRTPush : Known := .spec F_lockgateref15_Push dTE pTE eTE oTE
theorem kRTPush_ok : kRTPush.Ok PG := Known.spec_ok rpush_con
theorem qTE {R : Type} {t : Tail} {e : Entry} {k : TE → Option R} (h : pTE (t, e)) : gC dTE pTE eTE [.agg (encTail t), .agg (encEntry e)] k = k (t, e) := gC_eq (t, e) (Prod.ext (dec_encTail t) (dec_encEntry e)) h (.refl _)

/-! ### what is seen -/
abbrev SS := List Seen × Seen
def dSS (a : List AV) : SS := (decL decSeen (a.getD 0 .nils), decSeen (argC a 1))
def pSS (p : SS) : Prop := (p.1.length ≤ 1 ∧ ∀ a ∈ p.1, a.sess = 1) ∧ p.2.sess = 1
def eSS (p : SS) : List AV := [encSeens p.1, .agg (encSeen p.2)]
def oSS (p : SS) : AV := encSeens (putP p.1 p.2)
theorem seen1 {a : Seen} (h : a.sess = 1) : a = at1 a := by cases a; simp only at h; subst h; rfl
theorem put_con {F : Nat} (hn : ∀ s, callT env25 20 F [.nils, .agg (encSeen s)] = some (.trl 7 [encSeen s])) (he : ∀ s, callT env25 20 F [.trl 7 [], .agg (encSeen s)] = some (.trl 7 [encSeen s]))
    (h1 : ∀ a s : Seen, callT env25 20 F [.trl 7 [encSeen (at1 a)], .agg (encSeen (at1 s))] = bif decide (a.num < s.num) then some (.trl 7 [encSeen (at1 s)]) else some (.trl 7 [encSeen (at1 a)]))
    (p : SS) (h : pSS p) : Contract PG F (eSS p) [] (oSS p) [] := by
  obtain ⟨l, s⟩ := p
  obtain ⟨⟨g1, g2⟩, g3⟩ := h
  simp only at g1 g2 g3
  have one : ∀ s, SubV (.trl 7 [encSeen s]) (encSeens [s]) := fun s => SubV.trl_of [s] rfl
  cases l with
  | nil => exact Contract.split (OrC.of [] [.agg (encSeen s)] .nil) ((con25 (hn s)).res (one s)) ((con25 (he s)).res (one s))
  | cons a l =>
    have : l = [] := by cases l with
      | nil => rfl
      | cons b c => simp at g1
    subst this
    have k := h1 a s
    rw [← seen1 (g2 a (by simp)), ← seen1 g3] at k
    have key : Contract PG F [.trl 7 [encSeen a], .agg (encSeen s)] [] (encSeens (bif decide (a.num < s.num) then [s] else [a])) [] := by
      cases hd : decide (a.num < s.num) with
      | true => rw [hd] at k; exact (con25 k).res (one s)
      | false => rw [hd] at k; exact (con25 k).res (one a)
    exact key.args (.cons (SubV.encL_trl [a] (by simp)) (.refl _))
theorem sput_con (p : SS) (h : pSS p) : Contract PG F_seen_Put (eSS p) [] (oSS p) [] := put_con sput_n sput_e (fun a s => (sput_1 a s).trans rfl) p h
theorem rput_con (p : SS) (h : pSS p) : Contract PG F_lockgateref14_Put (eSS p) [] (oSS p) [] :=
  put_con rput_n rput_e (fun a s => (rput_1 a s).trans (by
    show (bif decide (a.num < s.num) then some (AV.trl 7 [encSeen (at1 s)]) else bif decide (s.num = a.num) then some (AV.trl 7 [encSeen (at1 a)]) else some (AV.trl 7 [encSeen (at1 a)])) = _
    cases decide (s.num = a.num) <;> rfl)) p h
noncomputable def kSPut : Known := .spec F_seen_Put dSS pSS eSS oSS
theorem kSPut_ok : kSPut.Ok PG := Known.spec_ok sput_con
noncomputable def kRSPut : Known := .spec F_lockgateref14_Put dSS pSS eSS oSS
theorem kRSPut_ok : kRSPut.Ok PG := Known.spec_ok rput_con
theorem qSS {R : Type} {l : List Seen} {s : Seen} {k : SS → Option R} (h : pSS (l, s)) : gC dSS pSS eSS [encSeens l, .agg (encSeen s)] k = k (l, s) := gC_eq (l, s) (Prod.ext (decSeens l) (dec_encSeen s)) h (.refl _)
end Go.Wk
end

section
/- A member that is pushed to; a lifted tail, by the reference. -/
open Go Go.AM Go.Md
namespace Go.Wk
set_option maxRecDepth 100000
set_option maxHeartbeats 400000
noncomputable def kns26 : List Known := [kTPush, kRTPush, kSPut, kRSPut, kOf, kROf]
theorem kns26_ok : ∀ k ∈ kns26, k.Ok PG := ak kTPush_ok (ak kRTPush_ok (ak kSPut_ok (ak kRSPut_ok (ak kOf_ok (ak kROf_ok ank)))))
noncomputable def env26 : Env := envO kns26
theorem con26 {n f : Nat} {xs : List AV} {r : AV} (e : callT env26 n f xs = some r) : Contract PG f xs [] r [] := con_of (md := fun _ => none) kns26_ok e
theorem cpush_eq (r : Rep) (e : Entry) : callT env26 9 F_chain_push [AV.agg (encRep r), AV.agg (encEntry e)] =
  gC (dTE) (pTE) (eTE) ([AV.agg (encTail r.tail), AV.agg (encEntry e)]) fun y0 =>
  bif !(pushT y0.fst y0.snd).snd then 
    some (AV.tup [AV.agg (encRep r), AV.bool false])
  else 
    gC (dEnt1) (pEnt1) (eEnt1) ([AV.agg (encEntry e)]) fun y1 =>
    gC (dSS) (pSS) (eSS) ([encSeens r.seen, AV.agg [AV.int IntKind.i64 y1.sess, AV.int IntKind.i64 y1.num, AV.cplx FloatKind.f64 y1.ver.re y1.ver.im, AV.int IntKind.i64 y1.kind, AV.int IntKind.i64 y1.code, AV.str y1.res, AV.bool y1.hasRes]]) fun y2 =>
    some (AV.tup [AV.agg [AV.int IntKind.i64 r.shard, AV.int IntKind.i64 r.self.node, AV.int IntKind.i64 r.self.boot, AV.int IntKind.i64 r.view.shard, AV.int IntKind.i64 r.view.epoch, AV.int IntKind.i64 r.view.gen, AV.int IntKind.i64 r.view.phase, encMembers r.view.chain, AV.int IntKind.i64 r.frozen, AV.cplx FloatKind.f64 (pushT y0.fst y0.snd).fst.floor.re (pushT y0.fst y0.snd).fst.floor.im, AV.cplx FloatKind.f64 (pushT y0.fst y0.snd).fst.last.re (pushT y0.fst y0.snd).fst.last.im, encEntrys (pushT y0.fst y0.snd).fst.log, encSeens (putP y2.fst y2.snd), AV.cplx FloatKind.f64 r.got.re r.got.im, encBools r.synced], AV.bool true]) := by kernel_rfl
theorem rpush_eq (r : Rep) (e : Entry) : callT env26 9 F_lockgateref18_push [AV.agg (encRep r), AV.agg (encEntry e)] =
  gC (dTE) (pTE) (eTE) ([AV.agg (encTail r.tail), AV.agg (encEntry e)]) fun y3 =>
  bif !(pushT y3.fst y3.snd).snd then 
    some (AV.tup [AV.agg (encRep r), AV.bool false])
  else 
    gC (dEnt1) (pEnt1) (eEnt1) ([AV.agg (encEntry e)]) fun y4 =>
    gC (dSS) (pSS) (eSS) ([encSeens r.seen, AV.agg [AV.int IntKind.i64 y4.sess, AV.int IntKind.i64 y4.num, AV.cplx FloatKind.f64 y4.ver.re y4.ver.im, AV.int IntKind.i64 y4.kind, AV.int IntKind.i64 y4.code, AV.str y4.res, AV.bool y4.hasRes]]) fun y5 =>
    some (AV.tup [AV.agg [AV.int IntKind.i64 r.shard, AV.int IntKind.i64 r.self.node, AV.int IntKind.i64 r.self.boot, AV.int IntKind.i64 r.view.shard, AV.int IntKind.i64 r.view.epoch, AV.int IntKind.i64 r.view.gen, AV.int IntKind.i64 r.view.phase, encMembers r.view.chain, AV.int IntKind.i64 r.frozen, AV.cplx FloatKind.f64 (pushT y3.fst y3.snd).fst.floor.re (pushT y3.fst y3.snd).fst.floor.im, AV.cplx FloatKind.f64 (pushT y3.fst y3.snd).fst.last.re (pushT y3.fst y3.snd).fst.last.im, encEntrys (pushT y3.fst y3.snd).fst.log, encSeens (putP y5.fst y5.snd), AV.cplx FloatKind.f64 r.got.re r.got.im, encBools r.synced], AV.bool true]) := by kernel_rfl
noncomputable def kns26b : List Known := [kRAhead, kRLater]
theorem kns26b_ok : ∀ k ∈ kns26b, k.Ok PG := ak kRAhead_ok (ak kRLater_ok ank)
noncomputable def env26b : Env := envL [(F_lockgateref15_Lift, 0, [1, 2, 4, 5, 6, 1003])] (fun _ => none) kns26b
def SRl (t : Tail) (v : Ver) (fl la : Ver) (i : Int) (a : AV) (rest : Heap) : St := { fr := [(1, eV v), (2, .ptr 0 0 0), (4, .ptr 1 0 0), (5, .ptr 2 0 0), (6, .int .i64 i), (1003, .undef)], hp := .arr true 3 [encTail t] :: .arr true 3 [[.cplx .f64 0 0, .cplx .f64 0 0, .nils]] :: .arr true 3 [[eV fl, eV la, a]] :: rest }
theorem rlift_s0 (N : Nat) (m : Nat) (t : Tail) (v : Ver) (fl : Ver) (la : Ver) (i : Int) : LP env26b N 0 F_lockgateref15_Lift snK 0 [] (m + 1) (SRl t v fl la i AV.nils []) =
  bif decide (i < (↑t.log.length : Int)) then 
    bif decide (0 ≤ i) && decide (i < (↑t.log.length : Int)) then 
      gC (dV2) (V2) (eV2) ([AV.cplx FloatKind.f64 v.re v.im, AV.cplx FloatKind.f64 (t.log.getD i.toNat default).ver.re (t.log.getD i.toNat default).ver.im]) fun y6 =>
      bif vlt y6.fst y6.snd then 
        bif decide (0 ≤ i) && decide (i < (↑t.log.length : Int)) then 
          LP (env26b) (N) (0) (F_lockgateref15_Lift) (snK) 0 ([]) (m) (SRl t v fl la (IntKind.i64.wrap (i + 1)) (AV.sl 11 3 0 1 1) [BS.seq true 11 1 fun i_1 => [encEntry (t.log.getD i.toNat default)].getD i_1 (encEntry (t.log.getD i.toNat default))])
        else none
      else 
        LP (env26b) (N) (0) (F_lockgateref15_Lift) (snK) 0 ([]) (m) (SRl t v fl la (IntKind.i64.wrap (i + 1)) AV.nils [])
    else none
  else 
    some (AV.agg [AV.cplx FloatKind.f64 fl.re fl.im, AV.cplx FloatKind.f64 la.re la.im, AV.nils]) := by kernel_rfl
theorem rlift_s1 (N : Nat) (m : Nat) (t : Tail) (v : Ver) (fl : Ver) (la : Ver) (i : Int) (f : Nat → List AV) : LP env26b N 0 F_lockgateref15_Lift snK 0 [] (m + 1) (SRl t v fl la i (AV.sl 11 3 0 1 1) [BS.seq true 11 1 f]) =
  bif decide (i < (↑t.log.length : Int)) then 
    bif decide (0 ≤ i) && decide (i < (↑t.log.length : Int)) then 
      gC (dV2) (V2) (eV2) ([AV.cplx FloatKind.f64 v.re v.im, AV.cplx FloatKind.f64 (t.log.getD i.toNat default).ver.re (t.log.getD i.toNat default).ver.im]) fun y7 =>
      bif vlt y7.fst y7.snd then 
        bif decide (0 ≤ i) && decide (i < (↑t.log.length : Int)) then 
          LP (env26b) (N) (0) (F_lockgateref15_Lift) (snK) 0 ([]) (m) (SRl t v fl la (IntKind.i64.wrap (i + 1)) (AV.sl 11 3 0 2 0) [BS.seq true 11 2 fun i_1 => bif i_1.blt 1 then f i_1 else bif i_1.blt 2 then [encEntry (t.log.getD i.toNat default)].getD (i_1 - 1) [] else f 1])
        else none
      else 
        LP (env26b) (N) (0) (F_lockgateref15_Lift) (snK) 0 ([]) (m) (SRl t v fl la (IntKind.i64.wrap (i + 1)) (AV.sl 11 3 0 1 1) [BS.seq true 11 1 f])
    else none
  else 
    some (AV.agg [AV.cplx FloatKind.f64 fl.re fl.im, AV.cplx FloatKind.f64 la.re la.im, AV.tr 11 1 fun i => f i]) := by kernel_rfl
theorem rlift_s2 (N : Nat) (m : Nat) (t : Tail) (v : Ver) (fl : Ver) (la : Ver) (i : Int) (n : Nat) (f : Nat → List AV) : LP env26b N 0 F_lockgateref15_Lift snK 0 [] (m + 1) (SRl t v fl la i (AV.sl 11 3 0 n 0) [BS.seq true 11 n f]) =
  bif decide (i < (↑t.log.length : Int)) then 
    bif decide (0 ≤ i) && decide (i < (↑t.log.length : Int)) then 
      gC (dV2) (V2) (eV2) ([AV.cplx FloatKind.f64 v.re v.im, AV.cplx FloatKind.f64 (t.log.getD i.toNat default).ver.re (t.log.getD i.toNat default).ver.im]) fun y8 =>
      bif vlt y8.fst y8.snd then 
        bif decide (0 ≤ i) && decide (i < (↑t.log.length : Int)) then 
          bif n.beq 0 || n.ble n then 
            bif ((n + 1) * 112).ble 140737488355328 && (n + 1).ble 140737488355328 then 
              LP (env26b) (N) (0) (F_lockgateref15_Lift) (snK) 0 ([]) (m) (SRl t v fl la (IntKind.i64.wrap (i + 1)) (AV.sl 11 3 0 (n + 1) 0) [BS.seq true 11 (n + 1) fun i_1 => bif i_1.blt n then f i_1 else bif i_1.blt (n + 1) then [encEntry (t.log.getD i.toNat default)].getD (i_1 - n) [] else f n])
            else none
          else none
        else none
      else 
        LP (env26b) (N) (0) (F_lockgateref15_Lift) (snK) 0 ([]) (m) (SRl t v fl la (IntKind.i64.wrap (i + 1)) (AV.sl 11 3 0 n 0) [BS.seq true 11 n f])
    else none
  else 
    bif (n.beq 0 || n.ble n) && true then 
      some (AV.agg [AV.cplx FloatKind.f64 fl.re fl.im, AV.cplx FloatKind.f64 la.re la.im, AV.tr 11 n fun i => f i])
    else none := by kernel_rfl
/-! ### pushing -/
/-- what may be pushed -/
structure PushOk (r : Rep) (e : Entry) : Prop where
  log : r.tail.log.length ≤ 10000
  last : VNum r.tail.last
  ver : VNum e.ver
  seen : r.seen.length ≤ 1 ∧ ∀ a ∈ r.seen, a.sess = 1
  sess : e.sess = 1
abbrev RE := Rep × Entry
def dRE (a : List AV) : RE := (decRep (argC a 0), decEntry (argC a 1))
def pRE (p : RE) : Prop := PushOk p.1 p.2
def eRE (p : RE) : List AV := [.agg (encRep p.1), .agg (encEntry p.2)]
def oRE (p : RE) : AV := .tup [.agg (encRep (pushP p.1 p.2).1), .bool (pushP p.1 p.2).2]
theorem qRE {R : Type} {r : Rep} {e : Entry} {P : RE → Prop} {k : RE → Option R} (h : P (r, e)) : gC dRE P eRE [.agg (encRep r), .agg (encEntry e)] k = k (r, e) := gC_eq (r, e) (Prod.ext (dec_encRep r) (dec_encEntry e)) h (.refl _)
theorem push_run {r : Rep} {e : Entry} (h : PushOk r e) {x : Option AV} (hx : x = gC dTE pTE eTE [.agg (encTail r.tail), .agg (encEntry e)] fun y0 => bif !(pushT y0.1 y0.2).2 then some (.tup [.agg (encRep r), .bool false]) else gC dEnt1 pEnt1 eEnt1 [.agg (encEntry e)] fun y1 =>
    gC dSS pSS eSS [encSeens r.seen, .agg (encSeen (ofP y1))] fun y2 => some (.tup [.agg (encRep { r with tail := (pushT y0.1 y0.2).1, seen := putP y2.1 y2.2 }), .bool true])) : x = some (oRE (r, e)) := by
  subst hx
  rw [qTE ⟨h.log, h.last, h.ver⟩]
  unfold oRE pushP pushT
  simp only
  cases hv : vlt r.tail.last e.ver with
  | false => rfl
  | true =>
    simp only [cond_true, Bool.not_true, cond_false]
    rw [qEnt1, qSS ⟨h.seen, h.sess⟩]
    rfl
theorem cpush_con (p : RE) (h : pRE p) : Contract PG F_chain_push (eRE p) [] (oRE p) [] := con26 (push_run h (cpush_eq p.1 p.2))
theorem rpush'_con (p : RE) (h : pRE p) : Contract PG F_lockgateref18_push (eRE p) [] (oRE p) [] := con26 (push_run h (rpush_eq p.1 p.2))
noncomputable def kPush : Known := .spec F_chain_push dRE pRE eRE oRE
theorem kPush_ok : kPush.Ok PG := Known.spec_ok cpush_con
noncomputable def kRPush : Known := .spec F_lockgateref18_push dRE pRE eRE oRE
theorem kRPush_ok : kRPush.Ok PG := Known.spec_ok rpush'_con

/-! ### lifting, by the reference -/
structure LiftOk (t : Tail) (v : Ver) : Prop where
  len : t.log.length ≤ 10000
  fl : VNum t.floor
  la : VNum t.last
  v : VNum v
  log : ∀ e ∈ t.log, VNum e.ver
  le : vle t.floor t.last
abbrev TV := Tail × Ver
def dTV (a : List AV) : TV := (decTail (argC a 0), ⟨(getC a 1).1, (getC a 1).2⟩)
def pTV (p : TV) : Prop := LiftOk p.1 p.2
def eTV (p : TV) : List AV := [.agg (encTail p.1), eV p.2]
def oTV (p : TV) : AV := .agg (encTail (liftP p.1 p.2))
theorem qTV {R : Type} {t : Tail} {v : Ver} {k : TV → Option R} (h : LiftOk t v) : gC dTV pTV eTV [.agg (encTail t), eV v] k = k (t, v) := gC_eq (t, v) (Prod.ext (dec_encTail t) rfl) h (.refl _)
theorem con26b {n f : Nat} {xs : List AV} {r : AV} (e : callT env26b n f xs = some r) : Contract PG f xs [] r [] := conL kns26b_ok e
theorem rlift_in (N : Nat) (t : Tail) (v : Ver) : callT env26b (N + 1) F_lockgateref15_Lift [.agg (encTail t), eV v] = gC dV2 V2 eV2 [.cplx .f64 t.floor.re t.floor.im, .cplx .f64 v.re v.im] fun y0 =>
  gC dV2 V2 eV2 [.cplx .f64 t.last.re t.last.im, .cplx .f64 (vmax y0.1 y0.2).re (vmax y0.1 y0.2).im] fun y1 => LP env26b N 0 F_lockgateref15_Lift snK 0 [] N (SRl t v (vmax y0.1 y0.2) (vmax y1.1 y1.2) 0 .nils []) := by kernel_rfl
def SRlg (t : Tail) (v fl la : Ver) (i : Int) (l : List Entry) : St := SRl t v fl la i (gSl 11 3 l) (gBl 11 encEntry default l)
theorem rlift_step (N m : Nat) (t : Tail) (v fl la : Ver) (i : Int) (l : List Entry) (hl : l.length ≤ LB) : LP env26b N 0 F_lockgateref15_Lift snK 0 [] (m + 1) (SRlg t v fl la i l) =
    bif decide (i < (t.log.length : Int)) then rg i t.log.length <| gC dV2 V2 eV2 [.cplx .f64 v.re v.im, .cplx .f64 (t.log.getD i.toNat default).ver.re (t.log.getD i.toNat default).ver.im] fun y =>
      bif vlt y.1 y.2 then rg i t.log.length <| LP env26b N 0 F_lockgateref15_Lift snK 0 [] m (SRlg t v fl la (IntKind.i64.wrap (i + 1)) (l ++ [t.log.getD i.toNat default]))
      else LP env26b N 0 F_lockgateref15_Lift snK 0 [] m (SRlg t v fl la (IntKind.i64.wrap (i + 1)) l)
    else some (.agg [eV fl, eV la, gTr 11 encEntry default l]) := by
  unfold LB at hl
  match l, hl with
  | [], _ => exact (rlift_s0 N m t v fl la i).trans (by rw [canF_oneS (z := default)]; kernel_rfl)
  | [a], _ => exact (rlift_s1 N m t v fl la i _).trans (by rw [canF_app1 (z := default)]; kernel_rfl)
  | a :: b :: l, hl =>
    refine (rlift_s2 N m t v fl la i (l.length + 2) _).trans ?_
    have h := canF_app (e := encEntry) (z := default) (l := a :: b :: l) (by simp) (t.log.getD i.toNat default)
    simp only [List.length_cons] at h hl
    rw [h, SRlg, gSl_app (by simp), gBl_app (by simp)]
    simp only [roomU (b := 112) (n := l.length + 2) (by omega) (by omega), Bool.and_true, orU, cond_true]
    show _ = _
    kernel_rfl
theorem VNum.max {a b : Ver} (ha : VNum a) (hb : VNum b) : VNum (vmax a b) := by
  rcases vmax_or a b with e | e <;> rw [e] <;> assumption
theorem rlift_con (p : TV) (h : pTV p) : Contract PG F_lockgateref15_Lift (eTV p) [] (oTV p) [] := by
  obtain ⟨t, v⟩ := p
  have h : LiftOk t v := h
  have hlen := h.len
  have e := rlift_in (t.log.length + 1) t v
  rw [qV2 h.fl h.v, qV2 h.la (h.fl.max h.v)] at e
  have hmx : vmax t.last (vmax t.floor v) = vmax t.last v := by
    rcases vmax_or t.floor v with e | e
    · have h1 : vle v t.floor := by have := vmax_r t.floor v; rw [e] at this; exact this
      rw [e, vmax_left h.le, vmax_left (h1.trans h.le)]
    · rw [e]
  rw [hmx] at e
  have loop := pick_loop (l := t.log) (z := default) (keep := fun e => vlt v e.ver) (G := fun k i l => LP env26b (t.log.length + 1) 0 F_lockgateref15_Lift snK 0 [] k (SRlg t v (vmax t.floor v) (vmax t.last v) i l)) (fin := fun l => some (.agg [eV (vmax t.floor v), eV (vmax t.last v), gTr 11 encEntry default l]))
    (fun k acc ha => by rw [rlift_step _ _ _ _ _ _ _ _ (by unfold LB; omega), dec_nat, decide_eq_false (by omega), cond_false])
    (fun k i acc hi ha => by
      rw [rlift_step _ _ _ _ _ _ _ _ (by unfold LB; omega), dec_nat, decide_eq_true hi, cond_true, rg_eq hi, Int.toNat_natCast]
      rw [qV2 h.v (h.log _ (getD_mem hi)), rg_eq hi, wrapS (by omega)])
    t.log.length 0 (t.log.length + 1) [] (by omega) (by omega) (by simp)
  rw [List.drop_zero, List.nil_append] at loop
  exact (con26b (e.trans loop)).res (tail_sub (gTr_sub _))
noncomputable def kRLift : Known := .spec F_lockgateref15_Lift dTV pTV eTV oTV
theorem kRLift_ok : kRLift.Ok PG := Known.spec_ok rlift_con
end Go.Wk
end

section
/- A lifted tail, by the program: elements deleted in place. -/
open Go Go.AM Go.Md
namespace Go.Wk
set_option maxRecDepth 100000
set_option maxHeartbeats 400000
def mdL (f : Nat) : Option Nat := bif Nat.beq f F_slices_DeleteFunc_api_Entry then some 5 else bif Nat.beq f F_slices_IndexFunc_api_Entry then some 5 else bif Nat.beq f F_tail_Lift_c1 then some 0 else none
/-! ### what is deleted -/
abbrev EV := Entry × Ver
def dEV (a : List AV) : EV := (decEntry (argC a 0), match a.getD 1 .nils with
  | .tp cs _ => ⟨(getC cs 0).1, (getC cs 0).2⟩
  | _ => ⟨0, 0⟩)
def pEV (p : EV) : Prop := VNum p.1.ver ∧ VNum p.2
def eEV (p : EV) : List AV := [.agg (encEntry p.1), .tp [eV p.2] 0]
def oEV (p : EV) : AV := .bool (!vlt p.2 p.1.ver)
noncomputable def env27a : Env := envL [] mdL [kAhead]
theorem con27a {n f : Nat} {xs : List AV} {r : AV} (e : callT env27a n f xs = some r) : Contract PG f xs [] r [] := conL (ak kAhead_ok ank) e
theorem c1_eq (e : Entry) (v : Ver) : callT env27a 5 F_tail_Lift_c1 [AV.agg (encEntry e), AV.tp [eV v] 0] =
  gC (dV2) (V2) (eV2) ([AV.cplx FloatKind.f64 v.re v.im, AV.cplx FloatKind.f64 e.ver.re e.ver.im]) fun y0 =>
  some (AV.bool !vlt y0.fst y0.snd) := by kernel_rfl
theorem c1_con (p : EV) (h : pEV p) : Contract PG F_tail_Lift_c1 (eEV p) [] (oEV p) [] := con27a ((c1_eq p.1 p.2).trans (by rw [qV2 h.2 h.1]; rfl))
noncomputable def kC1 : Known := .spec F_tail_Lift_c1 dEV pEV eEV oEV
theorem kC1_ok : kC1.Ok PG := Known.spec_ok c1_con
theorem qEV {R : Type} {e : Entry} {v : Ver} {k : EV → Option R} (h : VNum e.ver) (h' : VNum v) : gC dEV pEV eEV [.agg (encEntry e), .tp [.cplx .f64 v.re v.im] 0] k = k (e, v) := gC_eq (e, v) (Prod.ext (dec_encEntry e) rfl) ⟨h, h'⟩ (.refl _)

/-! ### the first that is deleted -/
abbrev LV := List Entry × Ver
def hLV (p : LV) : Heap := [.seq true 11 p.1.length fun i => encEntry (p.1.getD i default), .arr true 1 [[eV p.2]]]
def eLV (p : LV) : List AV × Heap := ([.sl 11 0 0 p.1.length 0, .fn (.func F_tail_Lift_c1) [] [.ptr 1 0 0]], hLV p)
noncomputable def env27b : Env := envL [] mdL [kC1]
def SIx (p : LV) (i : Int) : St := { fr := [(0, .sl 11 0 0 p.1.length 0), (1, .fn (.func F_tail_Lift_c1) [] [.ptr 1 0 0]), (7, .int .i64 p.1.length), (8, .int .i64 i)], hp := hLV p }
theorem ix_in (N : Nat) (p : LV) : callH env27b (N + 1) F_slices_IndexFunc_api_Entry (eLV p).1 (eLV p).2 = LP env27b N 2 F_slices_IndexFunc_api_Entry (hnK 2) 0 [] N (SIx p 0) := by kernel_rfl
theorem ix_step (N : Nat) (m : Nat) (p : LV) (i : Int) : LP env27b N 2 F_slices_IndexFunc_api_Entry (hnK 2) 0 [] (m + 1) (SIx p i) =
  bif decide (i < (↑p.fst.length : Int)) then 
    bif decide (0 ≤ i) && decide (i < (↑p.fst.length : Int)) then 
      bif (0 + i.toNat).blt p.fst.length then 
        gC (dEV) (pEV) (eEV) ([AV.agg (encEntry (p.fst.getD (0 + i.toNat) default)), AV.tp [AV.cplx FloatKind.f64 p.snd.re p.snd.im] 0]) fun y1 =>
        bif !vlt y1.snd y1.fst.ver then 
          some ((AV.int IntKind.i64 i, [BS.seq true 11 p.fst.length fun i => encEntry (p.fst.getD i default), BS.arr true 1 [[AV.cplx FloatKind.f64 p.snd.re p.snd.im]]]))
        else 
          LP (env27b) (N) (2) (F_slices_IndexFunc_api_Entry) (hnK 2) 0 ([]) (m) (SIx p (IntKind.i64.wrap (i + 1)))
      else none
    else none
  else 
    some ((AV.int IntKind.i64 (-1), [BS.seq true 11 p.fst.length fun i => encEntry (p.fst.getD i default), BS.arr true 1 [[AV.cplx FloatKind.f64 p.snd.re p.snd.im]]])) := by kernel_rfl
def delFrom (v : Ver) : List Entry → Nat → Int
  | [], _ => -1
  | e :: r, i => if vlt v e.ver = true then delFrom v r (i + 1) else i
def decLV (_ : List AV) (h : Heap) : LV := (match hget h 0 with
  | .seq _ _ n f => (List.range n).map fun i => decEntry (f i)
  | _ => [], match hget h 1 with
  | .arr _ _ [[.cplx _ a b]] => ⟨a, b⟩
  | _ => ⟨0, 0⟩)
def pLV (p : LV) : Prop := p.1.length ≤ 10000 ∧ VNum p.2 ∧ ∀ e ∈ p.1, VNum e.ver
def oIx (p : LV) : AV × Heap := (.int .i64 (delFrom p.2 p.1 0), hLV p)
noncomputable def kIx : Known := .specH F_slices_IndexFunc_api_Entry decLV pLV eLV oIx
noncomputable def env27c : Env := envL [] mdL [kC1, kIx]
def SDl (p : LV) (i j : Int) (F : Nat → Entry) : St := { fr := [(0, .sl 11 0 0 p.1.length 0), (1, .fn (.func F_tail_Lift_c1) [] [.ptr 1 0 0]), (5, .int .i64 i), (6, .int .i64 j)], hp := [.seq true 11 p.1.length fun x => encEntry (F x), .arr true 1 [[eV p.2]]] }
theorem del_in (N : Nat) (p : LV) : callH env27c (N + 1) F_slices_DeleteFunc_api_Entry (eLV p).1 (eLV p).2 = gCH decLV pLV eLV (eLV p).1 (eLV p).2 fun y2 =>
  bif decide (delFrom y2.2 y2.1 0 = -1) then some (.sl 11 0 0 p.1.length 0, hLV y2)
  else LP env27c N 2 F_slices_DeleteFunc_api_Entry (hnK 2) 0 [] N { fr := [(0, .sl 11 0 0 p.1.length 0), (1, .fn (.func F_tail_Lift_c1) [] [.ptr 1 0 0]), (5, .int .i64 (delFrom y2.2 y2.1 0)), (6, .int .i64 (IntKind.i64.wrap (delFrom y2.2 y2.1 0 + 1)))], hp := hLV y2 } := by kernel_rfl
theorem del_step (N : Nat) (m : Nat) (p : LV) (i : Int) (j : Int) (F : Nat → Entry) : LP env27c N 2 F_slices_DeleteFunc_api_Entry (hnK 2) 0 [] (m + 1) (SDl p i j F) =
  bif decide (j < (↑p.fst.length : Int)) then 
    bif decide (0 ≤ j) && decide (j < (↑p.fst.length : Int)) then 
      bif (0 + j.toNat).blt p.fst.length then 
        gC (dEV) (pEV) (eEV) ([AV.agg (encEntry (F (0 + j.toNat))), AV.tp [AV.cplx FloatKind.f64 p.snd.re p.snd.im] 0]) fun y2 =>
        bif !!vlt y2.snd y2.fst.ver then 
          bif decide (0 ≤ i) && decide (i < (↑p.fst.length : Int)) then 
            bif (0 + i.toNat).blt p.fst.length && true then 
              LP (env27c) (N) (2) (F_slices_DeleteFunc_api_Entry) (hnK 2) 0 ([]) (m) ({ fr := [(0, AV.sl 11 0 0 p.fst.length 0), (1, AV.fn (Fn.func 84) [] [AV.ptr 1 0 0]), (5, AV.int IntKind.i64 (IntKind.i64.wrap (i + 1))), (6, AV.int IntKind.i64 (IntKind.i64.wrap (j + 1)))], hp := [BS.seq true 11 p.fst.length fun i' => bif i'.beq (0 + i.toNat) then encEntry (F (0 + j.toNat)) else encEntry (F i'), BS.arr true 1 [[AV.cplx FloatKind.f64 p.snd.re p.snd.im]]] })
            else none
          else none
        else 
          LP (env27c) (N) (2) (F_slices_DeleteFunc_api_Entry) (hnK 2) 0 ([]) (m) (SDl p i (IntKind.i64.wrap (j + 1)) F)
      else none
    else none
  else 
    bif decide (0 ≤ i) && decide (i ≤ (↑p.fst.length : Int)) then 
      bif (p.fst.length - i.toNat).beq 0 then 
        bif decide (0 ≤ i) && decide (i ≤ (↑(capOf p.fst.length 0) : Int)) then 
          some ((AV.sl 11 0 0 i.toNat 0, [BS.seq true 11 p.fst.length fun x => encEntry (F x), BS.arr true 1 [[AV.cplx FloatKind.f64 p.snd.re p.snd.im]]]))
        else none
      else 
        bif (0 + i.toNat + (p.fst.length - i.toNat)).ble p.fst.length then 
          bif decide (0 ≤ i) && decide (i ≤ (↑(capOf p.fst.length 0) : Int)) then 
            some ((AV.sl 11 0 0 i.toNat 0, [BS.seq true 11 p.fst.length fun i_1 => bif i_1.blt (0 + i.toNat) then encEntry (F i_1) else bif i_1.blt (0 + i.toNat + (p.fst.length - i.toNat)) then [AV.cplx FloatKind.f64 0 0, AV.int IntKind.i64 0, AV.str [], AV.str [], AV.bool false, AV.bool false, AV.int IntKind.i64 0, AV.int IntKind.i64 0, AV.int IntKind.i64 0, AV.str [], AV.bool false] else encEntry (F i_1), BS.arr true 1 [[AV.cplx FloatKind.f64 p.snd.re p.snd.im]]]))
          else none
        else none
    else none := by kernel_rfl
/-! ### the loops -/
theorem con27b {p : LV} {N : Nat} {r : AV} {h : Heap} (e : callH env27b N F_slices_IndexFunc_api_Entry (eLV p).1 (eLV p).2 = some (r, h)) : Contract PG F_slices_IndexFunc_api_Entry (eLV p).1 (eLV p).2 r h ∧ (eLV p).2.length ≤ h.length :=
  callH_ok (envL_ok (ak kC1_ok ank)) envL_code mixed e
theorem ix_con (p : LV) (h : pLV p) : Contract PG F_slices_IndexFunc_api_Entry (eLV p).1 (eLV p).2 (oIx p).1 (oIx p).2 ∧ (eLV p).2.length ≤ (oIx p).2.length := by
  obtain ⟨h1, h2, h3⟩ := h
  have run : ∀ d i m, i + d = p.1.length → d < m → LP env27b (p.1.length + 1) 2 F_slices_IndexFunc_api_Entry (hnK 2) 0 [] m (SIx p (i : Nat)) = some (.int .i64 (delFrom p.2 (p.1.drop i) i), hLV p) := by
    intro d
    induction d with
    | zero =>
      intro i m hi hm
      obtain ⟨m, rfl⟩ : ∃ k, m = k + 1 := ⟨m - 1, by omega⟩
      rw [ix_step, dec_nat, decide_eq_false (by omega), cond_false, List.drop_eq_nil_of_le (by omega)]
      rfl
    | succ d ih =>
      intro i m hi hm
      obtain ⟨m, rfl⟩ : ∃ k, m = k + 1 := ⟨m - 1, by omega⟩
      have hil : i < p.1.length := by omega
      rw [ix_step, dec_nat, decide_eq_true hil, dec_nonneg, drop_cons (z := default) hil]
      simp only [cond_true, Bool.and_true, Int.toNat_natCast, Nat.zero_add, blt_true hil]
      rw [qEV (h3 _ (getD_mem hil)) h2, wrapS (by omega)]
      unfold delFrom
      cases hv : vlt p.2 (p.1.getD i default).ver with
      | true =>
        simp only [Bool.not_true, cond_false, if_true]
        exact ih (i + 1) m (by omega) (by omega)
      | false =>
        simp only [Bool.not_false, cond_true]
        rfl
  exact con27b ((ix_in (p.1.length + 1) p).trans (run p.1.length 0 (p.1.length + 1) (by omega) (by omega)))
theorem kIx_ok : kIx.Ok PG := Known.specH_ok ix_con
theorem decLV_eq (p : LV) : decLV (eLV p).1 (eLV p).2 = p := by
  show ((List.range p.1.length).map (fun i => decEntry (encEntry (p.1.getD i default))), (⟨p.2.re, p.2.im⟩ : Ver)) = p
  refine Prod.ext ?_ rfl
  refine List.ext_getElem (by simp) fun i g1 g2 => ?_
  simp [dec_encEntry, List.getD, List.getElem?_eq_getElem g2]
theorem qLV {R : Type} {p : LV} {P : LV → Prop} {k : LV → Option R} (h : P p) : gCH decLV P eLV (eLV p).1 (eLV p).2 k = k p := gCH_eq p (decLV_eq p) h rfl
/-- the shifting loop -/
def dlG (v : Ver) : Nat → Nat → Nat → (Nat → Entry) → Nat × (Nat → Entry)
  | 0, _, i, F => (i, F)
  | d + 1, j, i, F => bif vlt v (F j).ver then dlG v d (j + 1) (i + 1) (fun x => bif Nat.beq x i then F j else F x) else dlG v d (j + 1) i F
def outG (n : Nat) (r : Nat × (Nat → Entry)) : Nat → Entry := fun x => bif Nat.blt x r.1 then r.2 x else bif Nat.blt x (r.1 + (n - r.1)) then default else r.2 x
theorem del_run {p : LV} (h : pLV p) {N : Nat} : ∀ d i j m F, j + d = p.1.length → d < m → i < j → (∀ x, j ≤ x → x < p.1.length → F x = p.1.getD x default) →
    LP env27c N 2 F_slices_DeleteFunc_api_Entry (hnK 2) 0 [] m (SDl p (i : Nat) (j : Nat) F) = some (.sl 11 0 0 (dlG p.2 d j i F).1 0, [.seq true 11 p.1.length fun x => encEntry (outG p.1.length (dlG p.2 d j i F) x), .arr true 1 [[eV p.2]]]) := by
  obtain ⟨h1, h2, h3⟩ := h
  intro d
  induction d with
  | zero =>
    intro i j m F hj hm hij hF
    obtain ⟨m, rfl⟩ : ∃ k, m = k + 1 := ⟨m - 1, by omega⟩
    have hc : capOf p.1.length 0 = p.1.length := rfl
    rw [del_step, dec_nat, decide_eq_false (by omega), cond_false, hc]
    have hle : decide ((i : Int) ≤ (p.1.length : Int)) = true := decide_eq_true (by omega)
    simp only [dec_nonneg, hle, Bool.and_true, cond_true, Int.toNat_natCast, beq_false (by omega : p.1.length - i ≠ 0), cond_false, Nat.zero_add, ble_true (by omega : i + (p.1.length - i) ≤ p.1.length)]
    congr 5
    funext x
    unfold outG dlG
    cases Nat.blt x i <;> cases Nat.blt x (i + (p.1.length - i)) <;> rfl
  | succ d ih =>
    intro i j m F hj hm hij hF
    obtain ⟨m, rfl⟩ : ∃ k, m = k + 1 := ⟨m - 1, by omega⟩
    have hjl : j < p.1.length := by omega
    have hil : i < p.1.length := by omega
    rw [del_step, dec_nat, dec_nat, decide_eq_true hjl, decide_eq_true hil, dec_nonneg, dec_nonneg]
    simp only [cond_true, Bool.and_true, Int.toNat_natCast, Nat.zero_add, blt_true hjl, blt_true hil]
    have hFj := hF j (Nat.le_refl _) hjl
    rw [qEV (by rw [hFj]; exact h3 _ (getD_mem hjl)) h2, wrapS (by omega), wrapS (by omega)]
    unfold dlG
    cases hv : vlt p.2 (F j).ver with
    | true =>
      simp only [Bool.not_true, Bool.not_false, cond_true]
      have e : (fun i' => bif Nat.beq i' i then encEntry (F j) else encEntry (F i')) = fun x => encEntry (bif Nat.beq x i then F j else F x) := by
        funext x; cases Nat.beq x i <;> rfl
      rw [e]
      exact ih (i + 1) (j + 1) m _ (by omega) (by omega) (by omega) fun x hx hxl => by
        rw [beq_false (by omega : x ≠ i), cond_false]; exact hF x (by omega) hxl
    | false =>
      simp only [Bool.not_true, Bool.not_false, cond_false]
      exact ih i (j + 1) m F (by omega) (by omega) (by omega) fun x hx hxl => hF x (by omega) hxl
def rD (p : LV) : Nat × (Nat → Entry) := dlG p.2 (p.1.length - ((delFrom p.2 p.1 0).toNat + 1)) ((delFrom p.2 p.1 0).toNat + 1) (delFrom p.2 p.1 0).toNat fun x => p.1.getD x default
def kD (p : LV) : Nat := if delFrom p.2 p.1 0 = -1 then p.1.length else (rD p).1
def gD (p : LV) : Nat → Entry := if delFrom p.2 p.1 0 = -1 then fun x => p.1.getD x default else outG p.1.length (rD p)
def oDl (p : LV) : AV × Heap := (.sl 11 0 0 (kD p) 0, [.seq true 11 p.1.length fun x => encEntry (gD p x), .arr true 1 [[eV p.2]]])
theorem delFrom_cases (v : Ver) : ∀ (l : List Entry) (i : Nat), (delFrom v l i = -1 ∧ l.filter (fun e => vlt v e.ver) = l) ∨ ∃ k : Nat, k < l.length ∧ delFrom v l i = ((i + k : Nat) : Int) ∧ (l.take (k + 1)).filter (fun e => vlt v e.ver) = l.take k
  | [], i => .inl ⟨rfl, rfl⟩
  | e :: l, i => by
    unfold delFrom
    cases hv : vlt v e.ver with
    | true =>
      rw [if_pos rfl]
      rcases delFrom_cases v l (i + 1) with ⟨h1, h2⟩ | ⟨k, h1, h2, h3⟩
      · exact .inl ⟨h1, by rw [List.filter_cons, if_pos hv, h2]⟩
      · refine .inr ⟨k + 1, by simp; omega, by rw [h2]; congr 1; omega, ?_⟩
        rw [List.take_succ_cons, List.filter_cons, if_pos hv, h3, List.take_succ_cons]
    | false =>
      rw [if_neg (by simp)]
      refine .inr ⟨0, by simp, by simp, ?_⟩
      simp [hv]
theorem con27c {p : LV} {N : Nat} {r : AV} {h : Heap} (e : callH env27c N F_slices_DeleteFunc_api_Entry (eLV p).1 (eLV p).2 = some (r, h)) : Contract PG F_slices_DeleteFunc_api_Entry (eLV p).1 (eLV p).2 r h ∧ (eLV p).2.length ≤ h.length :=
  callH_ok (envL_ok (ak kC1_ok (ak kIx_ok ank))) envL_code mixed e
theorem dl_con (p : LV) (h : pLV p) : Contract PG F_slices_DeleteFunc_api_Entry (eLV p).1 (eLV p).2 (oDl p).1 (oDl p).2 ∧ (eLV p).2.length ≤ (oDl p).2.length := by
  have key := del_in (p.1.length + 1) p
  rw [qLV h] at key
  rcases delFrom_cases p.2 p.1 0 with ⟨e1, e2⟩ | ⟨k, e1, e2, e3⟩
  · rw [e1] at key
    have : oDl p = (.sl 11 0 0 p.1.length 0, hLV p) := by unfold oDl kD gD; rw [if_pos e1, if_pos e1]; rfl
    rw [this]
    exact con27c key
  · rw [Nat.zero_add] at e2
    have hne : ¬ (delFrom p.2 p.1 0 = -1) := by rw [e2]; omega
    have h1 := h.1
    rw [decide_eq_false hne, cond_false, e2, wrapS (by omega)] at key
    have run := del_run h (N := p.1.length + 1) (p.1.length - (k + 1)) k (k + 1) (p.1.length + 1) (fun x => p.1.getD x default) (by omega) (by omega) (by omega) (fun x _ _ => rfl)
    have : oDl p = (.sl 11 0 0 (dlG p.2 (p.1.length - (k + 1)) (k + 1) k fun x => p.1.getD x default).1 0, [.seq true 11 p.1.length fun x => encEntry (outG p.1.length (dlG p.2 (p.1.length - (k + 1)) (k + 1) k fun x => p.1.getD x default) x), .arr true 1 [[eV p.2]]]) := by
      unfold oDl kD gD
      rw [if_neg hne, if_neg hne]
      unfold rD
      rw [e2, Int.toNat_natCast]
    rw [this]
    exact con27c (key.trans run)
noncomputable def kDel : Known := .specH F_slices_DeleteFunc_api_Entry decLV pLV eLV oDl
theorem kDel_ok : kDel.Ok PG := Known.specH_ok dl_con
/-! ### what stays -/
theorem dlG_ok {v : Ver} {l : List Entry} : ∀ (d j i : Nat) (F : Nat → Entry), j + d = l.length → i = ((l.take j).filter fun e => vlt v e.ver).length → (∀ x, x < i → F x = ((l.take j).filter fun e => vlt v e.ver).getD x default) →
    (∀ x, j ≤ x → x < l.length → F x = l.getD x default) → i ≤ j → (dlG v d j i F).1 = (l.filter fun e => vlt v e.ver).length ∧ ∀ x, x < (dlG v d j i F).1 → (dlG v d j i F).2 x = (l.filter fun e => vlt v e.ver).getD x default
  | 0, j, i, F, hj, hi, h1, _, _ => by
    have : l.take j = l := List.take_of_length_le (by omega)
    rw [this] at hi h1
    exact ⟨hi, h1⟩
  | d + 1, j, i, F, hj, hi, h1, h2, hij => by
    have hjl : j < l.length := by omega
    have hFj := h2 j (Nat.le_refl _) hjl
    have htk : l.take (j + 1) = l.take j ++ [l.getD j default] := by
      rw [List.take_add_one, List.getElem?_eq_getElem hjl]
      simp [List.getD, List.getElem?_eq_getElem hjl]
    unfold dlG
    cases hv : vlt v (F j).ver with
    | true =>
      simp only [cond_true]
      have hf : (l.take (j + 1)).filter (fun e => vlt v e.ver) = (l.take j).filter (fun e => vlt v e.ver) ++ [l.getD j default] := by
        rw [htk, List.filter_append]
        congr 1
        rw [hFj] at hv
        rw [List.filter_cons, if_pos hv, List.filter_nil]
      refine dlG_ok d (j + 1) (i + 1) _ (by omega) (by rw [hf, List.length_append, ← hi]; rfl) (fun x hx => ?_) (fun x hx hxl => ?_) (by omega)
      · rw [hf]
        by_cases e : x = i
        · subst e
          rw [beq_true rfl, cond_true, hFj]
          rw [hi]; simp [List.getD]
        · rw [beq_false e, cond_false, h1 x (by omega)]
          unfold List.getD
          rw [List.getElem?_append_left (by omega)]
      · rw [beq_false (by omega : x ≠ i), cond_false]; exact h2 x (by omega) hxl
    | false =>
      simp only [cond_false]
      have hf : (l.take (j + 1)).filter (fun e => vlt v e.ver) = (l.take j).filter (fun e => vlt v e.ver) := by
        rw [htk, List.filter_append]
        rw [hFj] at hv
        rw [List.filter_cons, if_neg (by rw [hv]; simp), List.filter_nil, List.append_nil]
      exact dlG_ok d (j + 1) i F (by omega) (by rw [hf]; exact hi) (by rw [hf]; exact h1) (fun x hx hxl => h2 x (by omega) hxl) (by omega)
theorem kD_ok (p : LV) : kD p = (p.1.filter fun e => vlt p.2 e.ver).length ∧ ∀ x, x < kD p → gD p x = (p.1.filter fun e => vlt p.2 e.ver).getD x default := by
  unfold kD gD
  rcases delFrom_cases p.2 p.1 0 with ⟨e1, e2⟩ | ⟨k, e1, e2, e3⟩
  · rw [if_pos e1, if_pos e1, e2]
    exact ⟨rfl, fun x _ => rfl⟩
  · rw [Nat.zero_add] at e2
    have hne : ¬ (delFrom p.2 p.1 0 = -1) := by rw [e2]; omega
    rw [if_neg hne, if_neg hne]
    unfold rD
    rw [e2, Int.toNat_natCast]
    obtain ⟨h1, h2⟩ := dlG_ok (v := p.2) (l := p.1) (p.1.length - (k + 1)) (k + 1) k (fun x => p.1.getD x default) (by omega) (by rw [e3, List.length_take]; omega) (fun x hx => by
      rw [e3]
      unfold List.getD
      rw [List.getElem?_take, if_pos hx]) (fun x _ _ => rfl) (by omega)
    refine ⟨h1, fun x hx => ?_⟩
    unfold outG
    rw [blt_true hx, cond_true]
    exact h2 x hx
end Go.Wk
end

section
/- A lifted tail and a lifted member, by the program. -/
open Go Go.AM Go.Md
namespace Go.Wk
set_option maxRecDepth 100000
set_option maxHeartbeats 400000
theorem cloneEB (n : Nat) (f : Nat → List AV) : callH env0 2 F_slices_Clone_api_Entry [AV.tr 11 (n + 1) f] [] =
  bif ((0 + (n + 1)) * 112).ble 140737488355328 && (0 + (n + 1)).ble 140737488355328 then 
    some ((AV.sl 11 0 0 (n + 1) 0, [BS.seq true 11 (n + 1) f]))
  else none := by kernel_rfl
def pNe (l : List Entry) : Prop := l.length ≤ 10000 ∧ l ≠ []
theorem cloneEB_con (l : List Entry) (h : pNe l) : Contract PG F_slices_Clone_api_Entry [encEntrys l] [] (outBlk 11 encEntry default l).1 (outBlk 11 encEntry default l).2 := by
  obtain ⟨h1, h2⟩ := h
  cases l with
  | nil => exact absurd rfl h2
  | cons a r =>
    have k := cloneEB r.length fun i => encEntry ((a :: r).getD i default)
    simp only [List.length_cons] at h1
    simp only [roomV (n := 0 + (r.length + 1)) (b := 112) (by omega) (by omega), ble_self, Bool.and_true, cond_true] at k
    exact (callH_ok (envM_ok (md := fun _ => none) (l := []) fun k hk => by cases hk) envM_code mixed k).1
noncomputable def kCloneEB : Known := .specB F_slices_Clone_api_Entry (dL decEntry) pNe eEnts (fun l => outBlk 11 encEntry default l)
theorem kCloneEB_ok : kCloneEB.Ok PG := Known.specB_ok cloneEB_con
noncomputable def env28 : Env := envL [] mdL [kLater, kCloneEB, kDel]
theorem con28 {n f : Nat} {xs : List AV} {r : AV} (e : callT env28 n f xs = some r) : Contract PG f xs [] r [] := conL (ak kLater_ok (ak kCloneEB_ok (ak kDel_ok ank))) e
noncomputable def env28n : Env := envO [kLater]
theorem con28n {n f : Nat} {xs : List AV} {r : AV} (e : callT env28n n f xs = some r) : Contract PG f xs [] r [] := con_of (md := fun _ => none) (ak kLater_ok ank) e
theorem lift_n (f : Ver) (l : Ver) (v : Ver) : callT env28n 9 F_tail_Lift [AV.agg [eV f, eV l, AV.nils], eV v] =
  gC (dV2) (V2) (eV2) ([AV.cplx FloatKind.f64 f.re f.im, AV.cplx FloatKind.f64 v.re v.im]) fun y0 =>
  gC (dV2) (V2) (eV2) ([AV.cplx FloatKind.f64 l.re l.im, AV.cplx FloatKind.f64 v.re v.im]) fun y1 =>
  some (AV.agg [AV.cplx FloatKind.f64 (vmax y0.fst y0.snd).re (vmax y0.fst y0.snd).im, AV.cplx FloatKind.f64 (vmax y1.fst y1.snd).re (vmax y1.fst y1.snd).im, AV.nils]) := by kernel_rfl
theorem lift_e (f : Ver) (l : Ver) (v : Ver) : callT env28n 9 F_tail_Lift [AV.agg [eV f, eV l, AV.trl 11 []], eV v] =
  gC (dV2) (V2) (eV2) ([AV.cplx FloatKind.f64 f.re f.im, AV.cplx FloatKind.f64 v.re v.im]) fun y2 =>
  gC (dV2) (V2) (eV2) ([AV.cplx FloatKind.f64 l.re l.im, AV.cplx FloatKind.f64 v.re v.im]) fun y3 =>
  some (AV.agg [AV.cplx FloatKind.f64 (vmax y2.fst y2.snd).re (vmax y2.fst y2.snd).im, AV.cplx FloatKind.f64 (vmax y3.fst y3.snd).re (vmax y3.fst y3.snd).im, AV.trl 11 []]) := by kernel_rfl
theorem lift_c (f : Ver) (l : Ver) (v : Ver) (lg : List Entry) : callT env28 9 F_tail_Lift [AV.agg [eV f, eV l, encEntrys lg], eV v] =
  gC (dL decEntry) (pNe) (eEnts) ([encEntrys lg]) fun y4 =>
  gCH (decLV) (pLV) (eLV) ([AV.sl 11 0 0 y4.length 0, AV.fn (Fn.func 84) [] [AV.ptr 1 0 0]]) ([BS.seq true 11 y4.length fun i => encEntry (y4.getD i default), BS.arr true 1 [[AV.cplx FloatKind.f64 v.re v.im]]]) fun y5 =>
  gC (dV2) (V2) (eV2) ([AV.cplx FloatKind.f64 f.re f.im, AV.cplx FloatKind.f64 y5.snd.re y5.snd.im]) fun y6 =>
  gC (dV2) (V2) (eV2) ([AV.cplx FloatKind.f64 l.re l.im, AV.cplx FloatKind.f64 y5.snd.re y5.snd.im]) fun y7 =>
  bif ((kD y5).beq 0 || (kD y5).ble y5.fst.length) && true then 
    some (AV.agg [AV.cplx FloatKind.f64 (vmax y6.fst y6.snd).re (vmax y6.fst y6.snd).im, AV.cplx FloatKind.f64 (vmax y7.fst y7.snd).re (vmax y7.fst y7.snd).im, AV.tr 11 (kD y5) fun i => encEntry (gD y5 i)])
  else none := by kernel_rfl
theorem lift_con (p : TV) (h : pTV p) : Contract PG F_tail_Lift (eTV p) [] (oTV p) [] := by
  obtain ⟨⟨f, l, lg⟩, v⟩ := p
  have h : LiftOk ⟨f, l, lg⟩ v := h
  have hf := h.fl
  have hla := h.la
  have hv := h.v
  simp only at hf hla
  cases lg with
  | nil =>
    refine Contract.split (OrC.of [] [eV v] (.agg (OrC.of [eV f, eV l] [] .nil))) ?_ ?_
    · have k := lift_n f l v
      rw [qV2 hf hv, qV2 hla hv] at k
      exact (con28n k).res (tail_sub nilsL)
    · have k := lift_e f l v
      rw [qV2 hf hv, qV2 hla hv] at k
      exact (con28n k).res (tail_sub emp_sub)
  | cons a r =>
    have k := lift_c f l v (a :: r)
    have hp : pLV (a :: r, v) := ⟨h.len, hv, h.log⟩
    have e0 : gC (R := AV) (dL decEntry) pNe eEnts [encEntrys (a :: r)] = fun k => k (a :: r) := by funext k; exact gC_eq _ (decEntrys _) ⟨h.len, by simp⟩ (.refl _)
    rw [e0] at k
    have k : callT env28 9 F_tail_Lift [.agg [eV f, eV l, encEntrys (a :: r)], eV v] = gCH decLV pLV eLV (eLV (a :: r, v)).1 (eLV (a :: r, v)).2 fun y5 => gC dV2 V2 eV2 [.cplx .f64 f.re f.im, .cplx .f64 y5.2.re y5.2.im] fun y6 => gC dV2 V2 eV2 [.cplx .f64 l.re l.im, .cplx .f64 y5.2.re y5.2.im] fun y7 =>
      bif ((kD y5).beq 0 || (kD y5).ble y5.1.length) && true then some (.agg [eV (vmax y6.1 y6.2), eV (vmax y7.1 y7.2), .tr 11 (kD y5) fun i => encEntry (gD y5 i)]) else none := k
    rw [qLV hp, qV2 hf hv, qV2 hla hv] at k
    obtain ⟨g1, g2⟩ := kD_ok (a :: r, v)
    have hle : (kD (a :: r, v)).ble (a :: r).length = true := ble_true (by rw [g1]; exact List.length_filter_le _ _)
    simp only [hle, Bool.or_true, Bool.and_true, cond_true] at k
    refine (con28 k).res (tail_sub ?_)
    show SubV _ (encEntrys ((a :: r).filter fun e => vlt v e.ver))
    unfold encEntrys encL
    rw [← g1]
    exact SubV.trs fun i hi => by rw [g2 i hi]; exact .refl _
noncomputable def kLift : Known := .spec F_tail_Lift dTV pTV eTV oTV
theorem kLift_ok : kLift.Ok PG := Known.spec_ok lift_con

/-! ### members -/
noncomputable def kns28c : List Known := [kOwn, kLift, kHead, kRHead, kPush, kRPush]
theorem kns28c_ok : ∀ k ∈ kns28c, k.Ok PG := ak kOwn_ok (ak kLift_ok (ak kHead_ok (ak kRHead_ok (ak kPush_ok (ak kRPush_ok ank)))))
noncomputable def env28c : Env := envO kns28c
theorem con28c {n f : Nat} {xs : List AV} {r : AV} (e : callT env28c n f xs = some r) : Contract PG f xs [] r [] := con_of (md := fun _ => none) kns28c_ok e
theorem clift_eq (r : Rep) (v : Ver) : callT env28c 9 F_chain_Lift [AV.agg (encRep r), eV v] =
  gC (dRep1) (RepShort) (eRep1) ([AV.agg (encRep r)]) fun y8 =>
  gC (dTV) (pTV) (eTV) ([AV.agg (encTail y8.tail), AV.cplx FloatKind.f64 v.re v.im]) fun y9 =>
  some (AV.agg [AV.int IntKind.i64 y8.shard, AV.int IntKind.i64 y8.self.node, AV.int IntKind.i64 y8.self.boot, AV.int IntKind.i64 y8.view.shard, AV.int IntKind.i64 y8.view.epoch, AV.int IntKind.i64 y8.view.gen, AV.int IntKind.i64 y8.view.phase, encMembers y8.view.chain, AV.int IntKind.i64 y8.frozen, AV.cplx FloatKind.f64 (vmax y9.fst.floor y9.snd).re (vmax y9.fst.floor y9.snd).im, AV.cplx FloatKind.f64 (vmax y9.fst.last y9.snd).re (vmax y9.fst.last y9.snd).im, encEntrys (List.filter (fun e => vlt y9.snd e.ver) y9.fst.log), encSeens y8.seen, AV.cplx FloatKind.f64 y8.got.re y8.got.im, encBools y8.synced]) := by kernel_rfl
theorem cpush2_eq (r : Rep) (e : Entry) : callT env28c 9 F_chain_Push [AV.agg (encRep r), AV.agg (encEntry e)] =
  gC (dRep1) (RepShort) (eRep1) ([AV.agg (encRep r)]) fun y10 =>
  gC (dRep1) (pRep1) (eRep1) ([AV.agg (encRep y10)]) fun y11 =>
  bif !headP y11 then 
    some (AV.tup [AV.agg (encRep y10), AV.bool false])
  else 
    gC (dRE) (pRE) (eRE) ([AV.agg (encRep y10), AV.agg (encEntry e)]) fun y12 =>
    some (AV.tup [AV.agg (encRep (pushP y12.fst y12.snd).fst), AV.bool (pushP y12.fst y12.snd).snd]) := by kernel_rfl
theorem rpush2_eq (r : Rep) (e : Entry) : callT env28c 9 F_lockgateref18_Push [AV.agg (encRep r), AV.agg (encEntry e)] =
  gC (dRep1) (pChain1) (eRep1) ([AV.agg (encRep r)]) fun y13 =>
  bif !headP y13 then 
    some (AV.tup [AV.agg (encRep r), AV.bool false])
  else 
    gC (dRE) (pRE) (eRE) ([AV.agg (encRep r), AV.agg (encEntry e)]) fun y14 =>
    some (AV.tup [AV.agg (encRep (pushP y14.fst y14.snd).fst), AV.bool (pushP y14.fst y14.snd).snd]) := by kernel_rfl
def dRV (a : List AV) : Rep × Ver := (decRep (argC a 0), ⟨(getC a 1).1, (getC a 1).2⟩)
def pRV (p : Rep × Ver) : Prop := RepShort p.1 ∧ LiftOk p.1.tail p.2
def eRV (p : Rep × Ver) : List AV := [.agg (encRep p.1), eV p.2]
theorem qRV {R : Type} {r : Rep} {v : Ver} {k : Rep × Ver → Option R} (h : RepShort r) (h' : LiftOk r.tail v) : gC dRV pRV eRV [.agg (encRep r), eV v] k = k (r, v) := gC_eq (r, v) (Prod.ext (dec_encRep r) rfl) ⟨h, h'⟩ (.refl _)
theorem clift_con (p : Rep × Ver) (h : pRV p) : Contract PG F_chain_Lift (eRV p) [] (.agg (encRep (liftR p.1 p.2))) [] := by
  obtain ⟨r, v⟩ := p
  have k := clift_eq r v
  rw [qRep1 (P := RepShort) h.1] at k
  have k : callT env28c 9 F_chain_Lift [.agg (encRep r), eV v] = gC dTV pTV eTV [.agg (encTail r.tail), eV v] fun y => some (.agg (encRep { r with tail := liftP y.1 y.2 })) := k
  rw [qTV h.2] at k
  exact con28c k
noncomputable def kCLift : Known := .spec F_chain_Lift dRV pRV eRV (fun p => .agg (encRep (liftR p.1 p.2)))
theorem kCLift_ok : kCLift.Ok PG := Known.spec_ok clift_con
def headPush (p : RE) : Rep × Bool := bif headP p.1 then pushP p.1 p.2 else (p.1, false)
def oRE2 (p : RE) : AV := .tup [.agg (encRep (headPush p).1), .bool (headPush p).2]
def pRE2 (p : RE) : Prop := RepShort p.1 ∧ PushOk p.1 p.2
theorem cpush2_con (p : RE) (h : pRE2 p) : Contract PG F_chain_Push (eRE p) [] (oRE2 p) [] := by
  obtain ⟨r, e⟩ := p
  have k := cpush2_eq r e
  rw [qRep1 (P := RepShort) h.1, qRep1 (P := pRep1) trivial] at k
  unfold oRE2 headPush
  simp only
  cases hh : headP r with
  | false => rw [hh] at k; exact con28c k
  | true =>
    rw [hh] at k
    simp only [Bool.not_true, cond_false] at k
    rw [qRE (P := pRE) h.2] at k
    exact con28c k
theorem rpush2_con (p : RE) (h : pRE2 p) : Contract PG F_lockgateref18_Push (eRE p) [] (oRE2 p) [] := by
  obtain ⟨r, e⟩ := p
  have k := rpush2_eq r e
  rw [qRep1 (P := pChain1) h.1.1] at k
  unfold oRE2 headPush
  simp only
  cases hh : headP r with
  | false => rw [hh] at k; exact con28c k
  | true =>
    rw [hh] at k
    simp only [Bool.not_true, cond_false] at k
    rw [qRE (P := pRE) h.2] at k
    exact con28c k
noncomputable def kPush2 : Known := .spec F_chain_Push dRE pRE2 eRE oRE2
theorem kPush2_ok : kPush2.Ok PG := Known.spec_ok cpush2_con
noncomputable def kRPush2 : Known := .spec F_lockgateref18_Push dRE pRE2 eRE oRE2
theorem kRPush2_ok : kRPush2.Ok PG := Known.spec_ok rpush2_con
end Go.Wk
end

section
/- Entries that are taken up. -/
open Go Go.AM Go.Md
namespace Go.Wk
set_option maxRecDepth 100000
set_option maxHeartbeats 400000
noncomputable def kns29 : List Known := [kNum, kPush]
theorem kns29_ok : ∀ k ∈ kns29, k.Ok PG := ak kNum_ok (ak kPush_ok ank)
noncomputable def env29 : Env := envL [] (fun f => bif Nat.beq f F_chain_push then some 0 else none) kns29
theorem con29 {n f : Nat} {xs : List AV} {r : AV} (e : callT env29 n f xs = some r) : Contract PG f xs [] r [] := conL kns29_ok e
def z15 : List AV := [.int .i64 0, .int .i64 0, .int .i64 0, .int .i64 0, .int .i64 0, .int .i64 0, .int .i64 0, .nils, .int .i64 0, .cplx .f64 0 0, .cplx .f64 0 0, .nils, .nils, .cplx .f64 0 0, .nils]
def STk (l : List Entry) (r : Rep) (i : Int) : St := { fr := [(1, encEntrys l), (2, .ptr 0 0 0), (4, .ptr 1 0 0), (5, .int .i64 i)], hp := [.arr true 15 [encRep r], .arr true 15 [z15]] }
noncomputable def takK (l : List Entry) (r : Rep) (i : Int) (K : Rep → Int → Option AV) : Option AV :=
  bif decide (i = (l.length : Int)) then some (.agg (encRep r)) else rg i l.length <|
    gC dV1 VNum eV1 [eV (l.getD i.toNat default).ver] fun y0 => gC dV1 VNum eV1 [eV r.tail.last] fun y1 =>
    bif decide ((nu y0 : Int) = IntKind.i64.wrap ((nu y1 : Int) + 1)) then rg i l.length <| gC dRE pRE eRE [.agg (encRep r), .agg (encEntry (l.getD i.toNat default))] fun y2 => K (pushP y2.1 y2.2).1 (IntKind.i64.wrap (i + 1))
    else K r (IntKind.i64.wrap (i + 1))
theorem take_in' (N : Nat) (r : Rep) (l : List Entry) : callT env29 (N + 1) F_chain_takeUp [.agg (encRep r), encEntrys l] = takK l r 0 fun r i => JP env29 N 0 F_chain_takeUp snK 0 N (STk l r i) := by kernel_rfl
theorem take_step (N m : Nat) (r : Rep) (l : List Entry) (i : Int) : JP env29 N 0 F_chain_takeUp snK 0 (m + 1) (STk l r i) = takK l r i fun r i => JP env29 N 0 F_chain_takeUp snK 0 m (STk l r i) := by kernel_rfl
structure TakeOk (r : Rep) (l : List Entry) : Prop where
  log : r.tail.log.length + l.length ≤ 10000
  last : VNum r.tail.last
  seen : r.seen.length ≤ 1 ∧ ∀ a ∈ r.seen, a.sess = 1
  ent : ∀ e ∈ l, VNum e.ver ∧ e.sess = 1
theorem TakeOk.push {r : Rep} {e : Entry} {l : List Entry} (h : TakeOk r (e :: l)) : PushOk r e := ⟨by have := h.log; simp only [List.length_cons] at this; omega, h.last, (h.ent e (by simp)).1, h.seen, (h.ent e (by simp)).2⟩
theorem putP_one {l : List Seen} {s : Seen} (h : l.length ≤ 1 ∧ ∀ a ∈ l, a.sess = 1) (hs : s.sess = 1) : (putP l s).length ≤ 1 ∧ ∀ a ∈ putP l s, a.sess = 1 := by
  cases l with
  | nil => exact ⟨by simp [putP], fun a ha => by simp [putP] at ha; rw [ha]; exact hs⟩
  | cons b l =>
    have : l = [] := by cases l with
      | nil => rfl
      | cons c d => simp at h
    subst this
    show (bif decide (b.num < s.num) then [s] else [b]).length ≤ 1 ∧ ∀ a ∈ (bif decide (b.num < s.num) then [s] else [b]), a.sess = 1
    cases decide (b.num < s.num) with
    | true => exact ⟨by simp, fun a ha => by simp at ha; rw [ha]; exact hs⟩
    | false => exact h
theorem TakeOk.next {r : Rep} {e : Entry} {l : List Entry} (h : TakeOk r (e :: l)) : TakeOk r l ∧ TakeOk (pushP r e).1 l := by
  have h1 := h.log
  simp only [List.length_cons] at h1
  refine ⟨⟨by omega, h.last, h.seen, fun x hx => h.ent x (by simp [hx])⟩, ?_⟩
  unfold pushP
  cases vlt r.tail.last e.ver with
  | false => exact ⟨by simp only [cond_false]; omega, h.last, h.seen, fun x hx => h.ent x (by simp [hx])⟩
  | true => exact ⟨by simp only [cond_true, pushR, List.length_append, List.length_cons, List.length_nil]; omega, (h.ent e (by simp)).1, putP_one h.seen (h.ent e (by simp)).2, fun x hx => h.ent x (by simp [hx])⟩
theorem takK_step {l : List Entry} {K : Rep → Int → Option AV} {r : Rep} {i : Nat} (h : TakeOk r (l.drop i)) (hl : l.length ≤ 10000) (hi : i ≤ l.length) (hK : ∀ r', i < l.length → TakeOk r' (l.drop (i + 1)) → K r' ((i + 1 : Nat) : Int) = some (.agg (encRep (takeP r' (l.drop (i + 1)))))) :
    takK l r (i : Int) K = some (.agg (encRep (takeP r (l.drop i)))) := by
  unfold takK
  by_cases e : i = l.length
  · rw [decide_eq_true (by rw [e]), cond_true, List.drop_eq_nil_of_le (by omega)]; rfl
  · have hil : i < l.length := by omega
    rw [decide_eq_false (by omega), cond_false, rg_eq hil, Int.toNat_natCast]
    rw [drop_cons (z := default) hil] at h ⊢
    obtain ⟨n1, n2⟩ := h.next
    have hpush : PushOk r (l.getD i default) := h.push
    have hver : VNum (l.getD i default).ver := (h.ent _ (List.mem_cons_self)).1
    rw [show (fun y0 => gC dV1 VNum eV1 [eV r.tail.last] fun y1 => bif decide ((nu y0 : Int) = IntKind.i64.wrap ((nu y1 : Int) + 1)) then rg (i : Int) l.length <| gC dRE pRE eRE [.agg (encRep r), .agg (encEntry (l.getD i default))] fun y2 => K (pushP y2.1 y2.2).1 (IntKind.i64.wrap ((i : Int) + 1)) else K r (IntKind.i64.wrap ((i : Int) + 1))) =
      fun y0 => bif decide ((nu y0 : Int) = IntKind.i64.wrap ((nu r.tail.last : Int) + 1)) then K (pushP r (l.getD i default)).1 (IntKind.i64.wrap ((i : Int) + 1)) else K r (IntKind.i64.wrap ((i : Int) + 1)) from by
        funext y0
        have q1 := qV1 (R := AV) h.last (k := fun y1 => bif decide ((nu y0 : Int) = IntKind.i64.wrap ((nu y1 : Int) + 1)) then rg (i : Int) l.length <| gC dRE pRE eRE [.agg (encRep r), .agg (encEntry (l.getD i default))] fun y2 => K (pushP y2.1 y2.2).1 (IntKind.i64.wrap ((i : Int) + 1)) else K r (IntKind.i64.wrap ((i : Int) + 1)))
        refine q1.trans ?_
        rw [rg_eq hil, qRE (r := r) (e := l.getD i default) (P := pRE) hpush]]
    have q0 := qV1 (R := AV) hver (k := fun y0 => bif decide ((nu y0 : Int) = IntKind.i64.wrap ((nu r.tail.last : Int) + 1)) then K (pushP r (l.getD i default)).1 (IntKind.i64.wrap ((i : Int) + 1)) else K r (IntKind.i64.wrap ((i : Int) + 1)))
    refine q0.trans ?_
    have hnl := h.last.lt.2
    have hw : IntKind.i64.wrap ((nu r.tail.last : Int) + 1) = ((nu r.tail.last + 1 : Nat) : Int) := wrap64 (by omega)
    rw [hw, wrapS (by omega), dec_int]
    unfold takeP
    cases decide (nu (l.getD i default).ver = nu r.tail.last + 1) with
    | true => exact hK _ hil n2
    | false => exact hK _ hil n1
theorem take_con (p : Rep × List Entry) (h : TakeOk p.1 p.2) : Contract PG F_chain_takeUp [.agg (encRep p.1), encEntrys p.2] [] (.agg (encRep (takeP p.1 p.2))) [] := by
  obtain ⟨r, l⟩ := p
  have h : TakeOk r l := h
  have hl : l.length ≤ 10000 := by have := h.log; omega
  have run : ∀ d i m r, i + d = l.length → d < m → TakeOk r (l.drop i) → JP env29 (l.length + 1) 0 F_chain_takeUp snK 0 m (STk l r (i : Nat)) = some (.agg (encRep (takeP r (l.drop i)))) := by
    intro d
    induction d with
    | zero =>
      intro i m r hi hm h
      obtain ⟨m, rfl⟩ : ∃ k, m = k + 1 := ⟨m - 1, by omega⟩
      rw [take_step]
      exact takK_step h hl (by omega) fun r' hlt _ => by omega
    | succ d ih =>
      intro i m r hi hm h
      obtain ⟨m, rfl⟩ : ∃ k, m = k + 1 := ⟨m - 1, by omega⟩
      rw [take_step]
      exact takK_step h hl (by omega) fun r' _ h' => ih (i + 1) m r' (by omega) (by omega) h'
  refine con29 ((take_in' (l.length + 1) r l).trans ?_)
  have := takK_step (l := l) (K := fun r i => JP env29 (l.length + 1) 0 F_chain_takeUp snK 0 (l.length + 1) (STk l r i)) (r := r) (i := 0) (by rw [List.drop_zero]; exact h) hl (by omega) fun r' hlt h' => run (l.length - 1) 1 (l.length + 1) r' (by omega) (by omega) h'
  rw [List.drop_zero] at this
  exact this
def dRL (a : List AV) : Rep × List Entry := (decRep (argC a 0), decL decEntry (a.getD 1 .nils))
def pRL (p : Rep × List Entry) : Prop := TakeOk p.1 p.2
def eRL (p : Rep × List Entry) : List AV := [.agg (encRep p.1), encEntrys p.2]
theorem qRL {R : Type} {r : Rep} {l : List Entry} {k : Rep × List Entry → Option R} (h : TakeOk r l) : gC dRL pRL eRL [.agg (encRep r), encEntrys l] k = k (r, l) := gC_eq (r, l) (Prod.ext (dec_encRep r) (decEntrys l)) h (.refl _)
noncomputable def kTake : Known := .spec F_chain_takeUp dRL pRL eRL (fun p => .agg (encRep (takeP p.1 p.2)))
theorem kTake_ok : kTake.Ok PG := Known.spec_ok take_con
end Go.Wk
end

section
/- A member's Handle: freezing, activating, acknowledging. -/
open Go Go.AM Go.Md
namespace Go.Wk
set_option maxRecDepth 100000
set_option maxHeartbeats 400000
def inKd (m : Msg) (k : Int) : Msg := ⟨k, m.src, m.dst, m.boot, m.sboot, m.shard, m.epoch, m.gen, m.sess, m.num, m.a, m.code, m.has, m.fresh, m.key, m.val, m.ver, m.floor, m.op, m.entries, m.chain, m.views, m.image⟩
noncomputable def kns30 : List Known := [kOwn, kAgain, kAcked, kTake, kLift, kAhead, kLater, kIndex, kAheadV, kBehind, kTo, kMake, kCloneMember, kCloneEntry, kCloneSeen]
theorem kns30_ok : ∀ k ∈ kns30, k.Ok PG := ak kOwn_ok (ak kAgain_ok (ak kAcked_ok (ak kTake_ok (ak kLift_ok (ak kAhead_ok (ak kLater_ok (ak kIndex_ok (ak kAheadV_ok (ak kBehind_ok (ak kTo_ok (ak kMake_ok (ak kCloneMember_ok (ak kCloneEntry_ok (ak kCloneSeen_ok ank))))))))))))))
noncomputable def env30 : Env := envO kns30
theorem con30 {n f : Nat} {xs : List AV} {r : AV} (e : callT env30 n f xs = some r) : Contract PG f xs [] r [] := con_of (md := fun _ => none) kns30_ok e
theorem h8 (r : Rep) (m : Msg) : callT env30 9 F_chain_Handle [AV.agg (encRep r), AV.agg (encMsg (inKd m 8))] =
  gC (dRep1) (RepShort) (eRep1) ([AV.agg (encRep r)]) fun y0 =>
  bif !decide ((inKd m 8).dst = y0.self.node) then 
    some (AV.tup [AV.agg (encRep y0), AV.nils])
  else 
    bif !decide ((inKd m 8).boot = y0.self.boot) then 
      some (AV.tup [AV.agg (encRep y0), AV.nils])
    else 
      bif !decide ((inKd m 8).shard = y0.shard) then 
        some (AV.tup [AV.agg (encRep y0), AV.nils])
      else 
        bif decide ((inKd m 8).epoch ≤ y0.view.epoch) then 
          some (AV.tup [AV.agg (encRep y0), AV.nils])
        else 
          bif decide ((inKd m 8).epoch < y0.frozen) then 
            some (AV.tup [AV.agg (encRep y0), AV.nils])
          else 
            some (AV.tup [AV.agg [AV.int IntKind.i64 y0.shard, AV.int IntKind.i64 y0.self.node, AV.int IntKind.i64 y0.self.boot, AV.int IntKind.i64 y0.view.shard, AV.int IntKind.i64 y0.view.epoch, AV.int IntKind.i64 y0.view.gen, AV.int IntKind.i64 y0.view.phase, encMembers y0.view.chain, AV.int IntKind.i64 m.epoch, AV.cplx FloatKind.f64 y0.tail.floor.re y0.tail.floor.im, AV.cplx FloatKind.f64 y0.tail.last.re y0.tail.last.im, encEntrys y0.tail.log, encSeens y0.seen, AV.cplx FloatKind.f64 y0.got.re y0.got.im, encBools y0.synced], AV.trl 31 [[AV.int IntKind.i64 9, AV.int IntKind.i64 y0.self.node, AV.int IntKind.i64 m.src, AV.int IntKind.i64 0, AV.int IntKind.i64 y0.self.boot, AV.int IntKind.i64 y0.shard, AV.int IntKind.i64 m.epoch, AV.int IntKind.i64 0, AV.int IntKind.i64 0, AV.int IntKind.i64 0, AV.int IntKind.i64 y0.view.epoch, AV.int IntKind.i64 0, AV.bool !decide (y0.view.phase = 0), AV.bool false, AV.str [], AV.str [], AV.cplx FloatKind.f64 y0.tail.last.re y0.tail.last.im, AV.cplx FloatKind.f64 0 0, AV.int IntKind.i64 0, AV.str [], AV.str [], AV.str [], AV.bool false, AV.nils, AV.nils, AV.nils, AV.cplx FloatKind.f64 0 0, AV.cplx FloatKind.f64 0 0, AV.int IntKind.i64 0, AV.nils, AV.nils]]]) := by kernel_rfl
theorem h13 (r : Rep) (m : Msg) : callT env30 9 F_chain_Handle [AV.agg (encRep r), AV.agg (encMsg (inKd m 13))] =
  gC (dRep1) (RepShort) (eRep1) ([AV.agg (encRep r)]) fun y1 =>
  bif !decide ((inKd m 13).dst = y1.self.node) then 
    some (AV.tup [AV.agg (encRep y1), AV.nils])
  else 
    bif !decide ((inKd m 13).boot = y1.self.boot) then 
      some (AV.tup [AV.agg (encRep y1), AV.nils])
    else 
      bif !decide ((inKd m 13).shard = y1.shard) then 
        some (AV.tup [AV.agg (encRep y1), AV.nils])
      else 
        gC (decLM) (preLM) (encLM) ([encMembers y1.view.chain, AV.agg (encMember y1.self)]) fun y2 =>
        bif !(sideP y2.fst y2.snd (-1)).isSome then 
          some (AV.tup [AV.agg (encRep y1), AV.nils])
        else 
          bif !decide (y1.view.phase = 0) then 
            bif decide (y1.frozen ≤ y1.view.epoch) then 
              bif !decide (y1.view.phase = 3) then 
                some (AV.tup [AV.agg (encRep y1), AV.nils])
              else 
                bif !decide ((inKd m 13).epoch = y1.view.epoch) then 
                  some (AV.tup [AV.agg (encRep y1), AV.nils])
                else 
                  bif decide ((inKd m 13).src = ((sideP y2.fst y2.snd (-1)).getD default).node) then 
                    bif !decide ((inKd m 13).sboot = ((sideP y2.fst y2.snd (-1)).getD default).boot) then 
                      some (AV.tup [AV.agg (encRep y1), AV.nils])
                    else 
                      gC (dRL) (pRL) (eRL) ([AV.agg (encRep y1), encEntrys m.entries]) fun y3 =>
                      gC (dV2) (V2) (eV2) ([AV.cplx FloatKind.f64 (takeP y3.fst y3.snd).tail.last.re (takeP y3.fst y3.snd).tail.last.im, AV.cplx FloatKind.f64 m.floor.re m.floor.im]) fun y4 =>
                      bif !vlt y4.fst y4.snd then 
                        gC (dTV) (pTV) (eTV) ([AV.agg (encTail (takeP y3.fst y3.snd).tail), AV.cplx FloatKind.f64 m.floor.re m.floor.im]) fun y5 =>
                        gC (dRep1) (RepAg) (eRep1) ([AV.agg [AV.int IntKind.i64 (takeP y3.fst y3.snd).shard, AV.int IntKind.i64 (takeP y3.fst y3.snd).self.node, AV.int IntKind.i64 (takeP y3.fst y3.snd).self.boot, AV.int IntKind.i64 (takeP y3.fst y3.snd).view.shard, AV.int IntKind.i64 (takeP y3.fst y3.snd).view.epoch, AV.int IntKind.i64 (takeP y3.fst y3.snd).view.gen, AV.int IntKind.i64 (takeP y3.fst y3.snd).view.phase, encMembers (takeP y3.fst y3.snd).view.chain, AV.int IntKind.i64 (takeP y3.fst y3.snd).frozen, AV.cplx FloatKind.f64 (vmax y5.fst.floor y5.snd).re (vmax y5.fst.floor y5.snd).im, AV.cplx FloatKind.f64 (vmax y5.fst.last y5.snd).re (vmax y5.fst.last y5.snd).im, encEntrys (List.filter (fun e => vlt y5.snd e.ver) y5.fst.log), encSeens (takeP y3.fst y3.snd).seen, AV.cplx FloatKind.f64 (takeP y3.fst y3.snd).got.re (takeP y3.fst y3.snd).got.im, encBools (takeP y3.fst y3.snd).synced]]) fun y6 =>
                        some (AV.tup [AV.agg [AV.int IntKind.i64 (takeP y3.fst y3.snd).shard, AV.int IntKind.i64 (takeP y3.fst y3.snd).self.node, AV.int IntKind.i64 (takeP y3.fst y3.snd).self.boot, AV.int IntKind.i64 (takeP y3.fst y3.snd).view.shard, AV.int IntKind.i64 (takeP y3.fst y3.snd).view.epoch, AV.int IntKind.i64 (takeP y3.fst y3.snd).view.gen, AV.int IntKind.i64 (takeP y3.fst y3.snd).view.phase, encMembers (takeP y3.fst y3.snd).view.chain, AV.int IntKind.i64 (takeP y3.fst y3.snd).frozen, AV.cplx FloatKind.f64 (vmax y5.fst.floor y5.snd).re (vmax y5.fst.floor y5.snd).im, AV.cplx FloatKind.f64 (vmax y5.fst.last y5.snd).re (vmax y5.fst.last y5.snd).im, encEntrys (List.filter (fun e => vlt y5.snd e.ver) y5.fst.log), encSeens (takeP y3.fst y3.snd).seen, AV.cplx FloatKind.f64 (takeP y3.fst y3.snd).got.re (takeP y3.fst y3.snd).got.im, encBools (takeP y3.fst y3.snd).synced], encMsgs (againP y6)])
                      else 
                        gC (dRep1) (RepAg) (eRep1) ([AV.agg (encRep (takeP y3.fst y3.snd))]) fun y7 =>
                        some (AV.tup [AV.agg (encRep (takeP y3.fst y3.snd)), encMsgs (againP y7)])
                  else 
                    some (AV.tup [AV.agg (encRep y1), AV.nils])
            else 
              some (AV.tup [AV.agg (encRep y1), AV.nils])
          else 
            some (AV.tup [AV.agg (encRep y1), AV.nils]) := by kernel_rfl
theorem h14 (r : Rep) (m : Msg) : callT env30 9 F_chain_Handle [AV.agg (encRep r), AV.agg (encMsg (inKd m 14))] =
  gC (dRep1) (RepShort) (eRep1) ([AV.agg (encRep r)]) fun y8 =>
  bif !decide ((inKd m 14).dst = y8.self.node) then 
    some (AV.tup [AV.agg (encRep y8), AV.nils])
  else 
    bif !decide ((inKd m 14).boot = y8.self.boot) then 
      some (AV.tup [AV.agg (encRep y8), AV.nils])
    else 
      bif !decide ((inKd m 14).shard = y8.shard) then 
        some (AV.tup [AV.agg (encRep y8), AV.nils])
      else 
        gC (decLM) (preLM) (encLM) ([encMembers y8.view.chain, AV.agg (encMember y8.self)]) fun y9 =>
        bif !(sideP y9.fst y9.snd 1).isSome then 
          some (AV.tup [AV.agg (encRep y8), AV.nils])
        else 
          bif !decide (y8.view.phase = 0) then 
            bif decide (y8.frozen ≤ y8.view.epoch) then 
              bif !decide (y8.view.phase = 3) then 
                some (AV.tup [AV.agg (encRep y8), AV.nils])
              else 
                bif !decide ((inKd m 14).epoch = y8.view.epoch) then 
                  some (AV.tup [AV.agg (encRep y8), AV.nils])
                else 
                  bif decide ((inKd m 14).src = ((sideP y9.fst y9.snd 1).getD default).node) then 
                    bif !decide ((inKd m 14).sboot = ((sideP y9.fst y9.snd 1).getD default).boot) then 
                      some (AV.tup [AV.agg (encRep y8), AV.nils])
                    else 
                      gC (dV2) (V2) (eV2) ([AV.cplx FloatKind.f64 y8.tail.last.re y8.tail.last.im, AV.cplx FloatKind.f64 m.ver.re m.ver.im]) fun y10 =>
                      bif !vlt y10.fst y10.snd then 
                        gC (dV2) (V2) (eV2) ([AV.cplx FloatKind.f64 y8.got.re y8.got.im, AV.cplx FloatKind.f64 m.ver.re m.ver.im]) fun y11 =>
                        gC (decLM) (preLM) (encLM) ([encMembers y8.view.chain, AV.agg (encMember y8.self)]) fun y12 =>
                        bif (sideP y12.fst y12.snd (-1)).isSome then 
                          gC (dRM) (pRM) (eRM) ([AV.agg [AV.int IntKind.i64 y8.shard, AV.int IntKind.i64 y8.self.node, AV.int IntKind.i64 y8.self.boot, AV.int IntKind.i64 y8.view.shard, AV.int IntKind.i64 y8.view.epoch, AV.int IntKind.i64 y8.view.gen, AV.int IntKind.i64 y8.view.phase, encMembers y8.view.chain, AV.int IntKind.i64 y8.frozen, AV.cplx FloatKind.f64 y8.tail.floor.re y8.tail.floor.im, AV.cplx FloatKind.f64 y8.tail.last.re y8.tail.last.im, encEntrys y8.tail.log, encSeens y8.seen, AV.cplx FloatKind.f64 (vmax y11.fst y11.snd).re (vmax y11.fst y11.snd).im, encBools y8.synced], AV.agg (encMember ((sideP y12.fst y12.snd (-1)).getD default))]) fun y13 =>
                          some (AV.tup [AV.agg [AV.int IntKind.i64 y8.shard, AV.int IntKind.i64 y8.self.node, AV.int IntKind.i64 y8.self.boot, AV.int IntKind.i64 y8.view.shard, AV.int IntKind.i64 y8.view.epoch, AV.int IntKind.i64 y8.view.gen, AV.int IntKind.i64 y8.view.phase, encMembers y8.view.chain, AV.int IntKind.i64 y8.frozen, AV.cplx FloatKind.f64 y8.tail.floor.re y8.tail.floor.im, AV.cplx FloatKind.f64 y8.tail.last.re y8.tail.last.im, encEntrys y8.tail.log, encSeens y8.seen, AV.cplx FloatKind.f64 (vmax y11.fst y11.snd).re (vmax y11.fst y11.snd).im, encBools y8.synced], AV.trl 31 [[AV.int IntKind.i64 14, AV.int IntKind.i64 y13.fst.self.node, AV.int IntKind.i64 y13.snd.node, AV.int IntKind.i64 y13.snd.boot, AV.int IntKind.i64 y13.fst.self.boot, AV.int IntKind.i64 y13.fst.shard, AV.int IntKind.i64 y13.fst.view.epoch, AV.int IntKind.i64 0, AV.int IntKind.i64 0, AV.int IntKind.i64 0, AV.int IntKind.i64 0, AV.int IntKind.i64 0, AV.bool false, AV.bool false, AV.str [], AV.str [], AV.cplx FloatKind.f64 (haveP y13.fst).re (haveP y13.fst).im, AV.cplx FloatKind.f64 0 0, AV.int IntKind.i64 0, AV.str [], AV.str [], AV.str [], AV.bool false, encEntrys [], encMembers [], encViews [], AV.cplx FloatKind.f64 0 0, AV.cplx FloatKind.f64 0 0, AV.int IntKind.i64 0, encEntrys [], encSeens []]]])
                        else 
                          some (AV.tup [AV.agg [AV.int IntKind.i64 y8.shard, AV.int IntKind.i64 y8.self.node, AV.int IntKind.i64 y8.self.boot, AV.int IntKind.i64 y8.view.shard, AV.int IntKind.i64 y8.view.epoch, AV.int IntKind.i64 y8.view.gen, AV.int IntKind.i64 y8.view.phase, encMembers y8.view.chain, AV.int IntKind.i64 y8.frozen, AV.cplx FloatKind.f64 y8.tail.floor.re y8.tail.floor.im, AV.cplx FloatKind.f64 y8.tail.last.re y8.tail.last.im, encEntrys y8.tail.log, encSeens y8.seen, AV.cplx FloatKind.f64 (vmax y11.fst y11.snd).re (vmax y11.fst y11.snd).im, encBools y8.synced], AV.nils])
                      else 
                        gC (decLM) (preLM) (encLM) ([encMembers y8.view.chain, AV.agg (encMember y8.self)]) fun y14 =>
                        bif (sideP y14.fst y14.snd (-1)).isSome then 
                          gC (dRM) (pRM) (eRM) ([AV.agg (encRep y8), AV.agg (encMember ((sideP y14.fst y14.snd (-1)).getD default))]) fun y15 =>
                          some (AV.tup [AV.agg (encRep y8), AV.trl 31 [[AV.int IntKind.i64 14, AV.int IntKind.i64 y15.fst.self.node, AV.int IntKind.i64 y15.snd.node, AV.int IntKind.i64 y15.snd.boot, AV.int IntKind.i64 y15.fst.self.boot, AV.int IntKind.i64 y15.fst.shard, AV.int IntKind.i64 y15.fst.view.epoch, AV.int IntKind.i64 0, AV.int IntKind.i64 0, AV.int IntKind.i64 0, AV.int IntKind.i64 0, AV.int IntKind.i64 0, AV.bool false, AV.bool false, AV.str [], AV.str [], AV.cplx FloatKind.f64 (haveP y15.fst).re (haveP y15.fst).im, AV.cplx FloatKind.f64 0 0, AV.int IntKind.i64 0, AV.str [], AV.str [], AV.str [], AV.bool false, encEntrys [], encMembers [], encViews [], AV.cplx FloatKind.f64 0 0, AV.cplx FloatKind.f64 0 0, AV.int IntKind.i64 0, encEntrys [], encSeens []]]])
                        else 
                          some (AV.tup [AV.agg (encRep y8), AV.nils])
                  else 
                    some (AV.tup [AV.agg (encRep y8), AV.nils])
            else 
              some (AV.tup [AV.agg (encRep y8), AV.nils])
          else 
            some (AV.tup [AV.agg (encRep y8), AV.nils]) := by kernel_rfl
/-! ### what may be handed in -/
structure HandOk (r : Rep) (m : Msg) : Prop where
  ex : ∃ (E : Int) (N : Nat), N ≤ 1000 ∧ E ≤ N ∧ RepIs E N r ∧ MsgIs E N m
def oHd (o : Rep × List Msg) : AV := .tup [.agg (encRep o.1), encMsgs o.2]
def nilA (r : Rep) : Option AV := some (.tup [.agg (encRep r), .nils])
theorem gate {R : Type} {a b c : Bool} {X K : Option R} : (bif !a then X else bif !b then X else bif !c then X else K) = bif a && (b && c) then K else X := by cases a <;> cases b <;> cases c <;> rfl
theorem gate2 {R : Type} {a b : Bool} {X K : Option R} : (bif a then X else bif b then X else K) = bif !a && !b then K else X := by cases a <;> cases b <;> rfl
theorem gateN {R : Type} {s p q t u v w : Bool} {X K : Option R} : (bif !s then X else bif !p then bif q then bif !t then X else bif !u then X else bif v then bif !w then X else K else X else X else X) = bif s && (((!p && q) && t) && (u && (v && w))) then K else X := by
  cases s <;> cases p <;> cases q <;> cases t <;> cases u <;> cases v <;> cases w <;> rfl
theorem out_nil {r : Rep} : SubV (.tup [.agg (encRep r), .nils]) (oHd (r, [])) := .tup (.cons (.refl _) (.cons nilsL .nil))
theorem TailIs.lift {N : Nat} {t : Tail} {v : Ver} (h : TailIs N t) (hv : VB N v) (hN : N ≤ 1000) : LiftOk t v :=
  ⟨by have := h.len; have := (h.la.le hN).2; omega, h.fl.num hN, h.la.num hN, hv.num hN, fun e he => (h.ent e he).1.num hN, h.le⟩
theorem SeenIs.one {N : Nat} {l : List Seen} (h : SeenIs N l) : l.length ≤ 1 ∧ ∀ a ∈ l, a.sess = 1 := ⟨h.1, fun a ha => by obtain ⟨v, _, e⟩ := h.2 a ha; rw [e]; rfl⟩
theorem EntIs.one {N : Nat} {e : Entry} (h : EntIs N e) : e.sess = 1 := by rw [h.2]; rfl
theorem RepIs.take {E : Int} {N : Nat} {r : Rep} {l : List Entry} (h : RepIs E N r) (hl : l.length ≤ N) (he : ∀ e ∈ l, EntIs N e) (hN : N ≤ 1000) : TakeOk r l :=
  ⟨by have := h.tail.len; have := (h.tail.la.le hN).2; omega, h.tail.la.num hN, h.seen.one, fun e hx => ⟨(he e hx).1.num hN, (he e hx).one⟩⟩
/-- who stands there is who sent it -/
theorem side_who {l : List Member} {x : Member} {d : Int} {m : Msg} : ((sideP l x d).isSome && (decide (m.src = ((sideP l x d).getD default).node) && decide (m.sboot = ((sideP l x d).getD default).boot))) = decide (sideP l x d = some (who m)) := by
  cases sideP l x d with
  | none => rfl
  | some a =>
    have e := mem_eq (who m) a
    have e2 : (decide (m.src = a.node) && decide (m.sboot = a.boot)) = decide (who m = a) := e
    show (true && (decide (m.src = a.node) && decide (m.sboot = a.boot))) = _
    rw [e2, Bool.true_and]
    by_cases h : who m = a
    · rw [decide_eq_true h, decide_eq_true (by rw [h])]
    · rw [decide_eq_false h, decide_eq_false fun h' => h (Option.some.inj h').symm]
theorem bool7 {s p q t u v w : Bool} : (s && (((!p && q) && t) && (u && (v && w)))) = (((!p && q) && t) && (u && (s && (v && w)))) := by
  cases s <;> cases p <;> cases q <;> cases t <;> cases u <;> cases v <;> cases w <;> rfl
theorem nextG_eq (r : Rep) (m : Msg) (d : Int) : ((sideP r.view.chain r.self d).isSome && (((!decide (r.view.phase = 0) && decide (r.frozen ≤ r.view.epoch)) && decide (r.view.phase = 3)) && (decide (m.epoch = r.view.epoch) && (decide (m.src = ((sideP r.view.chain r.self d).getD default).node) && decide (m.sboot = ((sideP r.view.chain r.self d).getD default).boot))))) = nextG r m d := by
  rw [bool7, side_who]; rfl
theorem inKd_eq {m : Msg} {k : Int} (h : m.kind = k) : inKd m k = m := by cases m; simp only at h; subst h; rfl

/-! ### freezing -/
theorem h8_con {r : Rep} {m : Msg} (h : HandOk r m) (hk : m.kind = 8) : Contract PG F_chain_Handle [.agg (encRep r), .agg (encMsg m)] [] (oHd (handP r m)) [] := by
  obtain ⟨E, N, hN, hEN, hr, hm⟩ := h.ex
  have k := h8 r m
  rw [inKd_eq hk, qRep1 (P := RepShort) (hr.ag hN).short, gate, gate2] at k
  unfold handP handK
  rw [hk]
  show Contract PG _ _ [] (oHd (bif toMe r m then freezeP r m else (r, []))) []
  have e1 : (decide (m.dst = r.self.node) && (decide (m.boot = r.self.boot) && decide (m.shard = r.shard))) = toMe r m := rfl
  have e2 : (!decide (m.epoch ≤ r.view.epoch) && !decide (m.epoch < r.frozen)) = aboveP r m := by
    unfold aboveP
    by_cases h1 : m.epoch ≤ r.view.epoch <;> by_cases h2 : m.epoch < r.frozen <;> simp [h1, h2] <;> omega
  rw [e1, e2] at k
  cases ht : toMe r m with
  | false => rw [ht] at k; exact (con30 k).res out_nil
  | true =>
    rw [ht] at k
    unfold freezeP
    cases ha : aboveP r m with
    | false => rw [ha] at k; exact (con30 k).res out_nil
    | true =>
      rw [ha] at k
      refine (con30 k).res (.tup (.cons (.refl _) (.cons ?_ .nil)))
      exact SubV.trans (trl_map (X := Unit) (f := fun _ => _) (g := fun _ => encMsg (frozeM r m)) (fun _ => subC_all (by repeat' (first | exact trivial | exact nilsL | exact SubV.refl _ | refine ⟨?_, ?_⟩))) [()]) (SubV.trl_of [frozeM r m] rfl)

/-! ### forwards -/
theorem h13_con {r : Rep} {m : Msg} (h : HandOk r m) (hk : m.kind = 13) : Contract PG F_chain_Handle [.agg (encRep r), .agg (encMsg m)] [] (oHd (handP r m)) [] := by
  obtain ⟨E, N, hN, hEN, hr, hm⟩ := h.ex
  have k := h13 r m
  rw [inKd_eq hk, qRep1 (P := RepShort) (hr.ag hN).short, gate, qLM (hr.ag hN).short.1, gateN] at k
  unfold handP handK
  rw [hk]
  show Contract PG _ _ [] (oHd (bif toMe r m then fwdP r m else (r, []))) []
  have e1 : (decide (m.dst = r.self.node) && (decide (m.boot = r.self.boot) && decide (m.shard = r.shard))) = toMe r m := rfl
  rw [e1, nextG_eq] at k
  cases ht : toMe r m with
  | false => rw [ht] at k; exact (con30 k).res out_nil
  | true =>
    rw [ht] at k
    simp only [cond_true] at k ⊢
    unfold fwdP
    cases ha : nextG r m (-1) with
    | false => rw [ha] at k; exact (con30 k).res out_nil
    | true =>
      rw [ha] at k
      simp only [cond_true] at k ⊢
      have htk := takeP_is hr hm.ent
      have hfw := fwdR_is hr hm
      rw [qRL (hr.take hm.elen hm.ent hN), qV2 (htk.tail.la.num hN) (hm.floor.num hN)] at k
      unfold fwdR at hfw ⊢
      cases hv : vlt (takeP r m.entries).tail.last m.floor with
      | true =>
        rw [hv] at k hfw
        simp only [Bool.not_true, cond_false, cond_true] at k hfw ⊢
        rw [qRep1 (P := RepAg) (hfw.ag hN)] at k
        exact con30 k
      | false =>
        rw [hv] at k hfw
        simp only [Bool.not_false, cond_false, cond_true] at k hfw ⊢
        have qt : ∀ K : TV → Option AV, gC dTV pTV eTV [.agg (encTail (takeP r m.entries).tail), .cplx .f64 m.floor.re m.floor.im] K = K ((takeP r m.entries).tail, m.floor) := fun K => qTV (htk.tail.lift hm.floor hN)
        rw [qt] at k
        have k : callT env30 9 F_chain_Handle [.agg (encRep r), .agg (encMsg m)] = gC dRep1 RepAg eRep1 [.agg (encRep (liftR (takeP r m.entries) m.floor))] fun y => some (.tup [.agg (encRep (liftR (takeP r m.entries) m.floor)), encMsgs (againP y)]) := k
        rw [qRep1 (P := RepAg) (hfw.ag hN)] at k
        exact con30 k

/-! ### acknowledging -/
theorem acks_out {r : Rep} (hc : r.view.chain.length ≤ LB) {X : Option AV} {cs : AV} (hcs : cs = .agg (encRep r)) {f : Rep × Member → AV} (hf : ∀ y, f y = .tup [cs, .trl 31 [encMsg { toM y.1 y.2 14 with ver := haveP y.1 }]])
    (hX : X = gC decLM preLM encLM [encMembers r.view.chain, .agg (encMember r.self)] fun y12 => bif (sideP y12.1 y12.2 (-1)).isSome then gC dRM pRM eRM [cs, .agg (encMember ((sideP y12.1 y12.2 (-1)).getD default))] fun y => some (f y) else some (.tup [cs, .nils])) :
    ∃ v, X = some v ∧ SubV v (oHd (r, acksP r)) := by
  subst hcs
  rw [qLM hc] at hX
  unfold oHd acksP
  cases hs : sideP r.view.chain r.self (-1) with
  | none => rw [hs] at hX; exact ⟨_, hX, .tup (.cons (.refl _) (.cons nilsL .nil))⟩
  | some a =>
    rw [hs] at hX
    simp only [Option.isSome_some, cond_true, Option.getD_some] at hX
    rw [qRM (P := pRM) hc, hf] at hX
    exact ⟨_, hX, .tup (.cons (.refl _) (.cons (SubV.trl_of [_] rfl) .nil))⟩
theorem h14_con {r : Rep} {m : Msg} (h : HandOk r m) (hk : m.kind = 14) : Contract PG F_chain_Handle [.agg (encRep r), .agg (encMsg m)] [] (oHd (handP r m)) [] := by
  obtain ⟨E, N, hN, hEN, hr, hm⟩ := h.ex
  have k := h14 r m
  rw [inKd_eq hk, qRep1 (P := RepShort) (hr.ag hN).short, gate, qLM (hr.ag hN).short.1, gateN] at k
  unfold handP handK
  rw [hk]
  show Contract PG _ _ [] (oHd (bif toMe r m then ackP r m else (r, []))) []
  have e1 : (decide (m.dst = r.self.node) && (decide (m.boot = r.self.boot) && decide (m.shard = r.shard))) = toMe r m := rfl
  rw [e1, nextG_eq] at k
  cases ht : toMe r m with
  | false => rw [ht] at k; exact (con30 k).res out_nil
  | true =>
    rw [ht] at k
    simp only [cond_true] at k ⊢
    unfold ackP
    cases ha : nextG r m 1 with
    | false => rw [ha] at k; exact (con30 k).res out_nil
    | true =>
      rw [ha] at k
      simp only [cond_true] at k ⊢
      rw [qV2 (hr.tail.la.num hN) (hm.ver.num hN)] at k
      unfold ackR
      cases hv : vlt r.tail.last m.ver with
      | true =>
        rw [hv] at k
        simp only [Bool.not_true, cond_false, cond_true] at k ⊢
        obtain ⟨v, h1, h2⟩ := acks_out (hr.ag hN).short.1 (cs := .agg (encRep r)) rfl (f := fun y => .tup [.agg (encRep r), .trl 31 [encMsg { toM y.1 y.2 14 with ver := haveP y.1 }]]) (fun _ => rfl) k
        exact (con30 h1).res h2
      | false =>
        rw [hv] at k
        simp only [Bool.not_false, cond_false, cond_true] at k ⊢
        rw [qV2 (hr.got.num hN) (hm.ver.num hN)] at k
        obtain ⟨v, h1, h2⟩ := acks_out (r := { r with got := vmax r.got m.ver }) (hr.ag hN).short.1 (cs := .agg (encRep { r with got := vmax r.got m.ver })) rfl (f := fun y => .tup [.agg (encRep { r with got := vmax r.got m.ver }), .trl 31 [encMsg { toM y.1 y.2 14 with ver := haveP y.1 }]]) (fun _ => rfl) k
        exact (con30 h1).res h2
end Go.Wk
end

section
/- A member's Handle: installing, activating. -/
open Go Go.AM Go.Md
namespace Go.Wk
set_option maxRecDepth 100000
set_option maxHeartbeats 400000
/-- a member's cells in an epoch of a message's -/
def repN (r : Rep) (m : Msg) (l : List Member) (ph : Int) (fl la : Ver) (lg se : AV) (go : Ver) (sy : AV) : List AV :=
  [.int .i64 r.shard, .int .i64 r.self.node, .int .i64 r.self.boot, .int .i64 m.shard, .int .i64 m.epoch, .int .i64 m.gen, .int .i64 ph, encMembers l, .int .i64 r.frozen, eV fl, eV la, lg, se, eV go, sy]
noncomputable def gt {R : Type} (y : Rep) (m : Msg) (X K : Option R) : Option R := bif !decide (m.dst = y.self.node) then X else bif !decide (m.boot = y.self.boot) then X else bif !decide (m.shard = y.shard) then X else K
theorem gt_eq {R : Type} {y : Rep} {m : Msg} {X K : Option R} : gt y m X K = bif toMe y m then K else X := gate

/-! ### installing -/
noncomputable def oldK (y : Rep) (m : Msg) : Option AV := bif !decide (y.view.phase = 0) then bif !decide (y.frozen ≤ y.view.epoch) then nilA y else bif !decide (m.epoch = y.view.epoch) then nilA y else
  gC dTo pTo eTo [.agg (encRep y), .agg (encMember (who m)), .int .i64 12] fun z => some (.tup [.agg (encRep y), .trl 31 [encMsg (toM z.1 z.2.1 z.2.2)]]) else nilA y
noncomputable def newK (y : Rep) (m : Msg) : Option AV := gC (dL decMember) shortL eMems [encMembers m.chain] fun a => gC (dL decEntry) shortL eEnts [encEntrys m.image.log] fun b => gC (dL decSeen) shortL eSeens [encSeens m.image.seen] fun c =>
  bif !decide (y.frozen ≤ m.epoch) then some (.tup [.agg (repN y m a 3 m.image.floor m.image.last (encEntrys b) (encSeens c) m.image.last .nils), .nils]) else bif !decide (m.epoch = m.epoch) then some (.tup [.agg (repN y m a 3 m.image.floor m.image.last (encEntrys b) (encSeens c) m.image.last .nils), .nils]) else
  gC dTo pTo eTo [.agg (repN y m a 3 m.image.floor m.image.last (encEntrys b) (encSeens c) m.image.last .nils), .agg (encMember (who m)), .int .i64 12] fun z => some (.tup [.agg (repN y m a 3 m.image.floor m.image.last (encEntrys b) (encSeens c) m.image.last .nils), .trl 31 [encMsg (toM z.1 z.2.1 z.2.2)]])
theorem h11 (r : Rep) (m : Msg) : callT env30 9 F_chain_Handle [.agg (encRep r), .agg (encMsg (inKd m 11))] = gC dRep1 RepShort eRep1 [.agg (encRep r)] fun y => gt y m (nilA y) <|
    gC decLM preLM encLM [encMembers m.chain, .agg (encMember y.self)] fun z => bif decide (idx z.1 z.2 < 1) then nilA y else
    bif decide (y.view.epoch < m.epoch) then bif decide (y.frozen ≤ m.epoch) then newK y m else oldK y m else oldK y m := by kernel_rfl
theorem RepG_who {m : Msg} : MemIs (who m) ∨ True := .inr trivial
theorem old_out (r : Rep) (m : Msg) : ∃ v, oldK r m = some v ∧ SubV v (oHd (r, bif liveP r && decide (m.epoch = r.view.epoch) then [toM r (who m) 12] else [])) := by
  unfold oldK liveP
  rw [qTo]
  cases decide (r.view.phase = 0) with
  | true => exact ⟨_, rfl, out_nil⟩
  | false =>
    cases decide (r.frozen ≤ r.view.epoch) with
    | false => exact ⟨_, rfl, out_nil⟩
    | true =>
      cases decide (m.epoch = r.view.epoch) with
      | false => exact ⟨_, rfl, out_nil⟩
      | true => exact ⟨_, rfl, .tup (.cons (.refl _) (.cons (SubV.trl_of [_] rfl) .nil))⟩
theorem h11_con {r : Rep} {m : Msg} (h : HandOk r m) (hk : m.kind = 11) : Contract PG F_chain_Handle [.agg (encRep r), .agg (encMsg m)] [] (oHd (handP r m)) [] := by
  obtain ⟨E, N, hN, hEN, hr, hm⟩ := h.ex
  have k := h11 r m
  have hLB : ∀ n, n ≤ 1000 → n ≤ LB := fun n h => by unfold LB; omega
  have hch : m.chain.length ≤ LB := hLB _ (by have := hm.chain.1; omega)
  rw [inKd_eq hk, qRep1 (P := RepShort) (hr.ag hN).short, gt_eq, qLM hch] at k
  unfold handP handK
  rw [hk]
  show Contract PG _ _ [] (oHd (bif toMe r m then insP r m else (r, []))) []
  cases ht : toMe r m with
  | false => rw [ht] at k; exact (con30 k).res out_nil
  | true =>
    rw [ht] at k
    simp only [cond_true] at k ⊢
    unfold insP
    by_cases hi : 0 < idx m.chain r.self
    · rw [decide_eq_false (by omega : ¬ idx m.chain r.self < 1), cond_false] at k
      rw [decide_eq_true hi, cond_true]
      obtain ⟨v, o1, o2⟩ := old_out r m
      have e : (bif decide (r.view.epoch < m.epoch) then bif decide (r.frozen ≤ m.epoch) then newK r m else oldK r m else oldK r m) = bif aboveP r m then newK r m else oldK r m := by
        unfold aboveP; cases decide (r.view.epoch < m.epoch) <;> cases decide (r.frozen ≤ m.epoch) <;> rfl
      rw [e] at k
      unfold insR
      cases ha : aboveP r m with
      | false => rw [ha] at k; exact (con30 (k.trans o1)).res o2
      | true =>
        rw [ha] at k
        simp only [cond_true] at k ⊢
        obtain ⟨a1, a2⟩ := above_iff.1 ha
        unfold newK at k
        have hlg : shortL m.image.log := hLB _ (Nat.le_trans hm.img.len (Nat.le_trans (hm.img.la.le hN).2 hN))
        have hsn : shortL m.image.seen := hLB _ (by have := hm.iseen.1; omega)
        rw [qMems hch, qEnts hlg, qSeens hsn, decide_eq_true a2, decide_eq_true rfl] at k
        simp only [Bool.not_true, cond_false] at k
        have hsub : SubC (repN r m m.chain 3 m.image.floor m.image.last (encEntrys m.image.log) (encSeens m.image.seen) m.image.last .nils) (encRep { r with view := ⟨m.shard, m.epoch, m.gen, 3, m.chain⟩, tail := ⟨m.image.floor, m.image.last, m.image.log⟩, seen := m.image.seen, got := m.image.last, synced := [] }) :=
          subC_all (by repeat' (first | exact trivial | exact nilsL | exact SubV.refl _ | refine ⟨?_, ?_⟩))
        have hdec : decRep (repN r m m.chain 3 m.image.floor m.image.last (encEntrys m.image.log) (encSeens m.image.seen) m.image.last .nils) = { r with view := ⟨m.shard, m.epoch, m.gen, 3, m.chain⟩, tail := ⟨m.image.floor, m.image.last, m.image.log⟩, seen := m.image.seen, got := m.image.last, synced := [] } := by
          show (⟨r.shard, ⟨r.self.node, r.self.boot⟩, ⟨m.shard, m.epoch, m.gen, 3, decL decMember (encMembers m.chain)⟩, r.frozen, ⟨m.image.floor, m.image.last, decL decEntry (encEntrys m.image.log)⟩, decL decSeen (encSeens m.image.seen), m.image.last, []⟩ : Rep) = _
          rw [decMembers, decEntrys, decSeens]
        have q := gC_eq (R := AV) (dec := dTo) (pre := pTo) (enc := eTo) (A := [.agg (repN r m m.chain 3 m.image.floor m.image.last (encEntrys m.image.log) (encSeens m.image.seen) m.image.last .nils), .agg (encMember (who m)), .int .i64 12])
          (k := fun z => some (.tup [.agg (repN r m m.chain 3 m.image.floor m.image.last (encEntrys m.image.log) (encSeens m.image.seen) m.image.last .nils), .trl 31 [encMsg (toM z.1 z.2.1 z.2.2)]]))
          (_, who m, 12) (Prod.ext hdec rfl) trivial (.cons (.agg hsub) (.refl _))
        rw [q] at k
        have hlive : ∀ e, m.epoch = e → (liveP { r with view := ⟨m.shard, m.epoch, m.gen, 3, m.chain⟩, tail := ⟨m.image.floor, m.image.last, m.image.log⟩, seen := m.image.seen, got := m.image.last, synced := [] } && decide (m.epoch = e)) = true := by
          intro e he
          rw [decide_eq_true he, Bool.and_true]
          show (true && decide (r.frozen ≤ m.epoch)) = true
          rw [decide_eq_true a2]; rfl
        have key : ∀ (b : Bool) (R' : Rep), b = true → SubC (repN r m m.chain 3 m.image.floor m.image.last (encEntrys m.image.log) (encSeens m.image.seen) m.image.last .nils) (encRep R') →
            SubV (.tup [.agg (repN r m m.chain 3 m.image.floor m.image.last (encEntrys m.image.log) (encSeens m.image.seen) m.image.last .nils), .trl 31 [encMsg (toM R' (who m) 12)]]) (oHd (R', bif b then [toM R' (who m) 12] else [])) := by
          intro b R' hb hs
          subst hb
          exact .tup (.cons (.agg hs) (.cons (SubV.trl_of [_] rfl) .nil))
        exact (con30 k).res (key _ _ (by have := hlive _ rfl; simpa using this) hsub)
    · rw [decide_eq_true (by omega : idx m.chain r.self < 1), cond_true] at k
      rw [decide_eq_false hi, cond_false]
      exact (con30 k).res out_nil
end Go.Wk
end
