/- Part 10 of the texts that the proof needs: the abstract machine, plain laws, contracts of the program's functions. No statement is claimed here. -/
import Derived.Test.YtbfickfpgiapmaaGreatPart9
set_option linter.unusedVariables false
set_option linter.unusedSimpArgs false
section
/- WorldConfs at Confs that are not right, or great. -/
open Go Go.AM Go.Md
namespace Go.Wk
set_option maxRecDepth 100000
set_option maxHeartbeats 0
theorem gK_t {R : Type} {c : CF} {k : CF → Option R} {r : Option R} (h : pT c) (h2 : k c = r) : gK c k = r := by
  have : cd (gP dCF pT eCF (eCF c)) = true := cd_iff.2 ⟨h, .refl _⟩
  show Bool.rec (motive := fun _ => Option R) none (appX k (dCF (eCF c))) (cd (gP dCF pT eCF (eCF c))) = r
  rw [this]
  exact h2
theorem gB_t {R : Type} {b : Bool} {t e r : Option R} (h1 : t = r) (h2 : e = r) : gB b t e = r := by
  cases b with
  | true => exact h1
  | false => exact h2
theorem gB_f {R : Type} {b : Bool} {t e r : Option R} (h : b = false) (h2 : e = r) : gB b t e = r := by
  subst h; exact h2
def pF (c : CF) : Prop := rightB c = false
noncomputable def kF1 : Known := .spec F_world_Right dCF pF eCF (fun _ => .bool false)
noncomputable def kF2 : Known := .spec F_lockgateref25_Right dCF pF eCF (fun _ => .bool false)
noncomputable def knF : List Known := [kAwk, kF1, kF2]
noncomputable abbrev gF {R : Type} (c : CF) (k : CF → Option R) : Option R := gA (gP dCF pF eCF (eCF c)) (dCF (eCF c)) k
theorem gF_t {R : Type} {c : CF} {k : CF → Option R} {r : Option R} (h : pF c) (h2 : k c = r) : gF c k = r := by
  have : cd (gP dCF pF eCF (eCF c)) = true := cd_iff.2 ⟨h, .refl _⟩
  show Bool.rec (motive := fun _ => Option R) none (appX k (dCF (eCF c))) (cd (gP dCF pF eCF (eCF c))) = r
  rw [this]
  exact h2
theorem lawF (c : CF) : callT (envL knF) 9 F_lockgatelaw25_WorldConfs [.agg (encCF c)] = gF c fun _ => gF c fun _ => gF c fun _ => gF c fun _ => gF c fun _ => some (.bool true) := by kernel_rfl
def bigN (v : Int) : Prop := ∀ c : CF, callT (envL knL) 9 F_lockgatelaw25_WorldConfs [.agg (encCF { c with n := v })] = gK { c with n := v } fun _ => gK { c with n := v } fun _ => gK { c with n := v } fun _ => some (.bool true)
def bigK (v : Int) : Prop := ∀ c : CF, callT (envL knL) 9 F_lockgatelaw25_WorldConfs [.agg (encCF { c with k := v })] = gK { c with k := v } fun _ => gK { c with k := v } fun _ => gK { c with k := v } fun _ => gB (decide (6 < c.n)) (some (.bool true)) (some (.bool true))
def bigS (v : Int) : Prop := ∀ c : CF, callT (envL knL) 9 F_lockgatelaw25_WorldConfs [.agg (encCF { c with s := v })] = gK { c with s := v } fun _ => gK { c with s := v } fun _ => gK { c with s := v } fun _ => gB (decide (6 < c.n)) (some (.bool true)) (gB (decide (6 < c.k)) (some (.bool true)) (some (.bool true)))
theorem bigN7 : bigN 7 := fun c => by kernel_rfl
theorem bigK7 : bigK 7 := fun c => by kernel_rfl
theorem bigS7 : bigS 7 := fun c => by kernel_rfl
theorem bigN8 : bigN 8 := fun c => by kernel_rfl
theorem bigK8 : bigK 8 := fun c => by kernel_rfl
theorem bigS8 : bigS 8 := fun c => by kernel_rfl
theorem bigN9 : bigN 9 := fun c => by kernel_rfl
theorem bigK9 : bigK 9 := fun c => by kernel_rfl
theorem bigS9 : bigS 9 := fun c => by kernel_rfl
theorem bigN10 : bigN 10 := fun c => by kernel_rfl
theorem bigK10 : bigK 10 := fun c => by kernel_rfl
theorem bigS10 : bigS 10 := fun c => by kernel_rfl
theorem bigN11 : bigN 11 := fun c => by kernel_rfl
theorem bigK11 : bigK 11 := fun c => by kernel_rfl
theorem bigS11 : bigS 11 := fun c => by kernel_rfl
theorem bigN12 : bigN 12 := fun c => by kernel_rfl
theorem bigK12 : bigK 12 := fun c => by kernel_rfl
theorem bigS12 : bigS 12 := fun c => by kernel_rfl
theorem bigN13 : bigN 13 := fun c => by kernel_rfl
theorem bigK13 : bigK 13 := fun c => by kernel_rfl
theorem bigS13 : bigS 13 := fun c => by kernel_rfl
theorem bigN14 : bigN 14 := fun c => by kernel_rfl
theorem bigK14 : bigK 14 := fun c => by kernel_rfl
theorem bigS14 : bigS 14 := fun c => by kernel_rfl
theorem bigN15 : bigN 15 := fun c => by kernel_rfl
theorem bigK15 : bigK 15 := fun c => by kernel_rfl
theorem bigS15 : bigS 15 := fun c => by kernel_rfl
theorem bigN16 : bigN 16 := fun c => by kernel_rfl
theorem bigK16 : bigK 16 := fun c => by kernel_rfl
theorem bigS16 : bigS 16 := fun c => by kernel_rfl
end Go.Wk
end

section
/- WorldConfs is true at every Conf. -/
open Go Go.AM Go.Md
namespace Go.Wk
set_option maxRecDepth 100000
set_option maxHeartbeats 400000
/-- awake is true -/
def AwOk : Prop := Contract PG F_lockgatelaw25_awake [] [] (.bool true) []
theorem kAwk_ok (h : AwOk) : kAwk.Ok PG := Known.tab_ok fun r hr => by
  rcases List.mem_cons.1 hr with rfl | hr
  · exact h
  · cases hr
theorem kT1_ok : kT1.Ok PG := Known.spec_ok fun c h => by
  have := right1_con c trivial
  rw [show rightB c = true from h] at this
  exact this
theorem kT2_ok : kT2.Ok PG := Known.spec_ok fun c h => by
  have := right2_con c trivial
  rw [show rightB c = true from h] at this
  exact this
theorem kF1_ok : kF1.Ok PG := Known.spec_ok fun c h => by
  have := right1_con c trivial
  rw [show rightB c = false from h] at this
  exact this
theorem kF2_ok : kF2.Ok PG := Known.spec_ok fun c h => by
  have := right2_con c trivial
  rw [show rightB c = false from h] at this
  exact this
theorem knL_ok (h : AwOk) : ∀ k ∈ knL, k.Ok PG := ak (kAwk_ok h) (ak kT1_ok (ak kT2_ok (ak kNode_ok (ak kTwin_ok (ak kBt_ok (ak kCo_ok ank))))))
theorem knF_ok (h : AwOk) : ∀ k ∈ knF, k.Ok PG := ak (kAwk_ok h) (ak kF1_ok (ak kF2_ok ank))
/-- the law's contract at a Conf -/
def LawC1 (c : CF) : Prop := Contract PG F_lockgatelaw25_WorldConfs [.agg (encCF c)] [] (.bool true) []
theorem lawL {c : CF} {N : Nat} (ha : AwOk) (e : callT (envL knL) N F_lockgatelaw25_WorldConfs [.agg (encCF c)] = some (.bool true)) : LawC1 c := con_of (knL_ok ha) e
theorem law_wrong (c : CF) (ha : AwOk) (h : pF c) : LawC1 c := con_of (knF_ok ha) ((lawF c).trans (gF_t h (gF_t h (gF_t h (gF_t h (gF_t h rfl))))))
theorem law_N {v : Int} {c : CF} (ha : AwOk) (hb : bigN v) (h : pT { c with n := v }) : LawC1 { c with n := v } := lawL ha ((hb c).trans (gK_t h (gK_t h (gK_t h rfl))))
theorem law_K {v : Int} {c : CF} (ha : AwOk) (hb : bigK v) (h : pT { c with k := v }) : LawC1 { c with k := v } := lawL ha ((hb c).trans (gK_t h (gK_t h (gK_t h (gB_t rfl rfl)))))
theorem law_S {v : Int} {c : CF} (ha : AwOk) (hb : bigS v) (h : pT { c with s := v }) : LawC1 { c with s := v } := lawL ha ((hb c).trans (gK_t h (gK_t h (gK_t h (gB_t rfl (gB_t rfl rfl))))))
theorem lc11 {c : CF} (ha : AwOk) (h : pT { c with n := 1, s := 1 }) (hk : c.k ≤ 6) : LawC1 { c with n := 1, s := 1 } :=
  lawL ha ((law11 c).trans (gK_t h (gK_t h (gK_t h (gB_t rfl (gK_t h (gB_t (gB_t (gB_t (gB_t (gB_t (gB_t (gB_f (decide_eq_false (by omega)) (gK_t h rfl)) (gK_t h rfl)) (gK_t h rfl)) (gK_t h rfl)) (gK_t h rfl)) (gK_t h rfl)) (gK_t h rfl))))))))
theorem lc21 {c : CF} (ha : AwOk) (h : pT { c with n := 2, s := 1 }) (hk : c.k ≤ 6) : LawC1 { c with n := 2, s := 1 } :=
  lawL ha ((law21 c).trans (gK_t h (gK_t h (gK_t h (gB_t rfl (gK_t h (gB_t (gB_t (gB_t (gB_t (gB_t (gB_t (gB_f (decide_eq_false (by omega)) (gK_t h rfl)) (gK_t h rfl)) (gK_t h rfl)) (gK_t h rfl)) (gK_t h rfl)) (gK_t h rfl)) (gK_t h rfl))))))))
theorem lc31 {c : CF} (ha : AwOk) (h : pT { c with n := 3, s := 1 }) (hk : c.k ≤ 6) : LawC1 { c with n := 3, s := 1 } :=
  lawL ha ((law31 c).trans (gK_t h (gK_t h (gK_t h (gB_t rfl (gK_t h (gB_t (gB_t (gB_t (gB_t (gB_t (gB_t (gB_f (decide_eq_false (by omega)) (gK_t h rfl)) (gK_t h rfl)) (gK_t h rfl)) (gK_t h rfl)) (gK_t h rfl)) (gK_t h rfl)) (gK_t h rfl))))))))
theorem lc41 {c : CF} (ha : AwOk) (h : pT { c with n := 4, s := 1 }) (hk : c.k ≤ 6) : LawC1 { c with n := 4, s := 1 } :=
  lawL ha ((law41 c).trans (gK_t h (gK_t h (gK_t h (gB_t rfl (gK_t h (gB_t (gB_t (gB_t (gB_t (gB_t (gB_t (gB_f (decide_eq_false (by omega)) (gK_t h rfl)) (gK_t h rfl)) (gK_t h rfl)) (gK_t h rfl)) (gK_t h rfl)) (gK_t h rfl)) (gK_t h rfl))))))))
theorem lc51 {c : CF} (ha : AwOk) (h : pT { c with n := 5, s := 1 }) (hk : c.k ≤ 6) : LawC1 { c with n := 5, s := 1 } :=
  lawL ha ((law51 c).trans (gK_t h (gK_t h (gK_t h (gB_t rfl (gK_t h (gB_t (gB_t (gB_t (gB_t (gB_t (gB_t (gB_t (gB_f (decide_eq_false (by omega)) (gK_t h rfl)) (gK_t h rfl)) (gK_t h rfl)) (gK_t h rfl)) (gK_t h rfl)) (gK_t h rfl)) (gK_t h rfl)) (gK_t h rfl))))))))
theorem lc61 {c : CF} (ha : AwOk) (h : pT { c with n := 6, s := 1 }) (hk : c.k ≤ 6) : LawC1 { c with n := 6, s := 1 } :=
  lawL ha ((law61 c).trans (gK_t h (gK_t h (gK_t h (gB_t rfl (gK_t h (gB_t (gB_t (gB_t (gB_t (gB_t (gB_t (gB_t (gB_t (gB_f (decide_eq_false (by omega)) (gK_t h rfl)) (gK_t h rfl)) (gK_t h rfl)) (gK_t h rfl)) (gK_t h rfl)) (gK_t h rfl)) (gK_t h rfl)) (gK_t h rfl)) (gK_t h rfl))))))))
theorem lc12 {c : CF} (ha : AwOk) (h : pT { c with n := 1, s := 2 }) (hk : c.k ≤ 6) : LawC1 { c with n := 1, s := 2 } :=
  lawL ha ((law12 c).trans (gK_t h (gK_t h (gK_t h (gB_t rfl (gK_t h (gB_t (gB_t (gB_t (gB_t (gB_t (gB_t (gB_f (decide_eq_false (by omega)) (gK_t h rfl)) (gK_t h rfl)) (gK_t h rfl)) (gK_t h rfl)) (gK_t h rfl)) (gK_t h rfl)) (gK_t h rfl))))))))
theorem lc22 {c : CF} (ha : AwOk) (h : pT { c with n := 2, s := 2 }) (hk : c.k ≤ 6) : LawC1 { c with n := 2, s := 2 } :=
  lawL ha ((law22 c).trans (gK_t h (gK_t h (gK_t h (gB_t rfl (gK_t h (gB_t (gB_t (gB_t (gB_t (gB_t (gB_t (gB_f (decide_eq_false (by omega)) (gK_t h rfl)) (gK_t h rfl)) (gK_t h rfl)) (gK_t h rfl)) (gK_t h rfl)) (gK_t h rfl)) (gK_t h rfl))))))))
theorem lc32 {c : CF} (ha : AwOk) (h : pT { c with n := 3, s := 2 }) (hk : c.k ≤ 6) : LawC1 { c with n := 3, s := 2 } :=
  lawL ha ((law32 c).trans (gK_t h (gK_t h (gK_t h (gB_t rfl (gK_t h (gB_t (gB_t (gB_t (gB_t (gB_t (gB_t (gB_f (decide_eq_false (by omega)) (gK_t h rfl)) (gK_t h rfl)) (gK_t h rfl)) (gK_t h rfl)) (gK_t h rfl)) (gK_t h rfl)) (gK_t h rfl))))))))
theorem lc42 {c : CF} (ha : AwOk) (h : pT { c with n := 4, s := 2 }) (hk : c.k ≤ 6) : LawC1 { c with n := 4, s := 2 } :=
  lawL ha ((law42 c).trans (gK_t h (gK_t h (gK_t h (gB_t rfl (gK_t h (gB_t (gB_t (gB_t (gB_t (gB_t (gB_t (gB_f (decide_eq_false (by omega)) (gK_t h rfl)) (gK_t h rfl)) (gK_t h rfl)) (gK_t h rfl)) (gK_t h rfl)) (gK_t h rfl)) (gK_t h rfl))))))))
theorem lc52 {c : CF} (ha : AwOk) (h : pT { c with n := 5, s := 2 }) (hk : c.k ≤ 6) : LawC1 { c with n := 5, s := 2 } :=
  lawL ha ((law52 c).trans (gK_t h (gK_t h (gK_t h (gB_t rfl (gK_t h (gB_t (gB_t (gB_t (gB_t (gB_t (gB_t (gB_t (gB_f (decide_eq_false (by omega)) (gK_t h rfl)) (gK_t h rfl)) (gK_t h rfl)) (gK_t h rfl)) (gK_t h rfl)) (gK_t h rfl)) (gK_t h rfl)) (gK_t h rfl))))))))
theorem lc62 {c : CF} (ha : AwOk) (h : pT { c with n := 6, s := 2 }) (hk : c.k ≤ 6) : LawC1 { c with n := 6, s := 2 } :=
  lawL ha ((law62 c).trans (gK_t h (gK_t h (gK_t h (gB_t rfl (gK_t h (gB_t (gB_t (gB_t (gB_t (gB_t (gB_t (gB_t (gB_t (gB_f (decide_eq_false (by omega)) (gK_t h rfl)) (gK_t h rfl)) (gK_t h rfl)) (gK_t h rfl)) (gK_t h rfl)) (gK_t h rfl)) (gK_t h rfl)) (gK_t h rfl)) (gK_t h rfl))))))))
theorem lc13 {c : CF} (ha : AwOk) (h : pT { c with n := 1, s := 3 }) (hk : c.k ≤ 6) : LawC1 { c with n := 1, s := 3 } :=
  lawL ha ((law13 c).trans (gK_t h (gK_t h (gK_t h (gB_t rfl (gK_t h (gB_t (gB_t (gB_t (gB_t (gB_t (gB_t (gB_f (decide_eq_false (by omega)) (gK_t h rfl)) (gK_t h rfl)) (gK_t h rfl)) (gK_t h rfl)) (gK_t h rfl)) (gK_t h rfl)) (gK_t h rfl))))))))
theorem lc23 {c : CF} (ha : AwOk) (h : pT { c with n := 2, s := 3 }) (hk : c.k ≤ 6) : LawC1 { c with n := 2, s := 3 } :=
  lawL ha ((law23 c).trans (gK_t h (gK_t h (gK_t h (gB_t rfl (gK_t h (gB_t (gB_t (gB_t (gB_t (gB_t (gB_t (gB_f (decide_eq_false (by omega)) (gK_t h rfl)) (gK_t h rfl)) (gK_t h rfl)) (gK_t h rfl)) (gK_t h rfl)) (gK_t h rfl)) (gK_t h rfl))))))))
theorem lc33 {c : CF} (ha : AwOk) (h : pT { c with n := 3, s := 3 }) (hk : c.k ≤ 6) : LawC1 { c with n := 3, s := 3 } :=
  lawL ha ((law33 c).trans (gK_t h (gK_t h (gK_t h (gB_t rfl (gK_t h (gB_t (gB_t (gB_t (gB_t (gB_t (gB_t (gB_f (decide_eq_false (by omega)) (gK_t h rfl)) (gK_t h rfl)) (gK_t h rfl)) (gK_t h rfl)) (gK_t h rfl)) (gK_t h rfl)) (gK_t h rfl))))))))
theorem lc43 {c : CF} (ha : AwOk) (h : pT { c with n := 4, s := 3 }) (hk : c.k ≤ 6) : LawC1 { c with n := 4, s := 3 } :=
  lawL ha ((law43 c).trans (gK_t h (gK_t h (gK_t h (gB_t rfl (gK_t h (gB_t (gB_t (gB_t (gB_t (gB_t (gB_t (gB_f (decide_eq_false (by omega)) (gK_t h rfl)) (gK_t h rfl)) (gK_t h rfl)) (gK_t h rfl)) (gK_t h rfl)) (gK_t h rfl)) (gK_t h rfl))))))))
theorem lc53 {c : CF} (ha : AwOk) (h : pT { c with n := 5, s := 3 }) (hk : c.k ≤ 6) : LawC1 { c with n := 5, s := 3 } :=
  lawL ha ((law53 c).trans (gK_t h (gK_t h (gK_t h (gB_t rfl (gK_t h (gB_t (gB_t (gB_t (gB_t (gB_t (gB_t (gB_t (gB_f (decide_eq_false (by omega)) (gK_t h rfl)) (gK_t h rfl)) (gK_t h rfl)) (gK_t h rfl)) (gK_t h rfl)) (gK_t h rfl)) (gK_t h rfl)) (gK_t h rfl))))))))
theorem lc63 {c : CF} (ha : AwOk) (h : pT { c with n := 6, s := 3 }) (hk : c.k ≤ 6) : LawC1 { c with n := 6, s := 3 } :=
  lawL ha ((law63 c).trans (gK_t h (gK_t h (gK_t h (gB_t rfl (gK_t h (gB_t (gB_t (gB_t (gB_t (gB_t (gB_t (gB_t (gB_t (gB_f (decide_eq_false (by omega)) (gK_t h rfl)) (gK_t h rfl)) (gK_t h rfl)) (gK_t h rfl)) (gK_t h rfl)) (gK_t h rfl)) (gK_t h rfl)) (gK_t h rfl)) (gK_t h rfl))))))))
theorem lc14 {c : CF} (ha : AwOk) (h : pT { c with n := 1, s := 4 }) (hk : c.k ≤ 6) : LawC1 { c with n := 1, s := 4 } :=
  lawL ha ((law14 c).trans (gK_t h (gK_t h (gK_t h (gB_t rfl (gK_t h (gB_t (gB_t (gB_t (gB_t (gB_t (gB_t (gB_f (decide_eq_false (by omega)) (gK_t h rfl)) (gK_t h rfl)) (gK_t h rfl)) (gK_t h rfl)) (gK_t h rfl)) (gK_t h rfl)) (gK_t h rfl))))))))
theorem lc24 {c : CF} (ha : AwOk) (h : pT { c with n := 2, s := 4 }) (hk : c.k ≤ 6) : LawC1 { c with n := 2, s := 4 } :=
  lawL ha ((law24 c).trans (gK_t h (gK_t h (gK_t h (gB_t rfl (gK_t h (gB_t (gB_t (gB_t (gB_t (gB_t (gB_t (gB_f (decide_eq_false (by omega)) (gK_t h rfl)) (gK_t h rfl)) (gK_t h rfl)) (gK_t h rfl)) (gK_t h rfl)) (gK_t h rfl)) (gK_t h rfl))))))))
theorem lc34 {c : CF} (ha : AwOk) (h : pT { c with n := 3, s := 4 }) (hk : c.k ≤ 6) : LawC1 { c with n := 3, s := 4 } :=
  lawL ha ((law34 c).trans (gK_t h (gK_t h (gK_t h (gB_t rfl (gK_t h (gB_t (gB_t (gB_t (gB_t (gB_t (gB_t (gB_f (decide_eq_false (by omega)) (gK_t h rfl)) (gK_t h rfl)) (gK_t h rfl)) (gK_t h rfl)) (gK_t h rfl)) (gK_t h rfl)) (gK_t h rfl))))))))
theorem lc44 {c : CF} (ha : AwOk) (h : pT { c with n := 4, s := 4 }) (hk : c.k ≤ 6) : LawC1 { c with n := 4, s := 4 } :=
  lawL ha ((law44 c).trans (gK_t h (gK_t h (gK_t h (gB_t rfl (gK_t h (gB_t (gB_t (gB_t (gB_t (gB_t (gB_t (gB_f (decide_eq_false (by omega)) (gK_t h rfl)) (gK_t h rfl)) (gK_t h rfl)) (gK_t h rfl)) (gK_t h rfl)) (gK_t h rfl)) (gK_t h rfl))))))))
theorem lc54 {c : CF} (ha : AwOk) (h : pT { c with n := 5, s := 4 }) (hk : c.k ≤ 6) : LawC1 { c with n := 5, s := 4 } :=
  lawL ha ((law54 c).trans (gK_t h (gK_t h (gK_t h (gB_t rfl (gK_t h (gB_t (gB_t (gB_t (gB_t (gB_t (gB_t (gB_t (gB_f (decide_eq_false (by omega)) (gK_t h rfl)) (gK_t h rfl)) (gK_t h rfl)) (gK_t h rfl)) (gK_t h rfl)) (gK_t h rfl)) (gK_t h rfl)) (gK_t h rfl))))))))
theorem lc64 {c : CF} (ha : AwOk) (h : pT { c with n := 6, s := 4 }) (hk : c.k ≤ 6) : LawC1 { c with n := 6, s := 4 } :=
  lawL ha ((law64 c).trans (gK_t h (gK_t h (gK_t h (gB_t rfl (gK_t h (gB_t (gB_t (gB_t (gB_t (gB_t (gB_t (gB_t (gB_t (gB_f (decide_eq_false (by omega)) (gK_t h rfl)) (gK_t h rfl)) (gK_t h rfl)) (gK_t h rfl)) (gK_t h rfl)) (gK_t h rfl)) (gK_t h rfl)) (gK_t h rfl)) (gK_t h rfl))))))))
theorem lc15 {c : CF} (ha : AwOk) (h : pT { c with n := 1, s := 5 }) (hk : c.k ≤ 6) : LawC1 { c with n := 1, s := 5 } :=
  lawL ha ((law15 c).trans (gK_t h (gK_t h (gK_t h (gB_t rfl (gK_t h (gB_t (gB_t (gB_t (gB_t (gB_t (gB_t (gB_t (gB_f (decide_eq_false (by omega)) (gK_t h rfl)) (gK_t h rfl)) (gK_t h rfl)) (gK_t h rfl)) (gK_t h rfl)) (gK_t h rfl)) (gK_t h rfl)) (gK_t h rfl))))))))
theorem lc25 {c : CF} (ha : AwOk) (h : pT { c with n := 2, s := 5 }) (hk : c.k ≤ 6) : LawC1 { c with n := 2, s := 5 } :=
  lawL ha ((law25 c).trans (gK_t h (gK_t h (gK_t h (gB_t rfl (gK_t h (gB_t (gB_t (gB_t (gB_t (gB_t (gB_t (gB_t (gB_f (decide_eq_false (by omega)) (gK_t h rfl)) (gK_t h rfl)) (gK_t h rfl)) (gK_t h rfl)) (gK_t h rfl)) (gK_t h rfl)) (gK_t h rfl)) (gK_t h rfl))))))))
theorem lc35 {c : CF} (ha : AwOk) (h : pT { c with n := 3, s := 5 }) (hk : c.k ≤ 6) : LawC1 { c with n := 3, s := 5 } :=
  lawL ha ((law35 c).trans (gK_t h (gK_t h (gK_t h (gB_t rfl (gK_t h (gB_t (gB_t (gB_t (gB_t (gB_t (gB_t (gB_t (gB_f (decide_eq_false (by omega)) (gK_t h rfl)) (gK_t h rfl)) (gK_t h rfl)) (gK_t h rfl)) (gK_t h rfl)) (gK_t h rfl)) (gK_t h rfl)) (gK_t h rfl))))))))
theorem lc45 {c : CF} (ha : AwOk) (h : pT { c with n := 4, s := 5 }) (hk : c.k ≤ 6) : LawC1 { c with n := 4, s := 5 } :=
  lawL ha ((law45 c).trans (gK_t h (gK_t h (gK_t h (gB_t rfl (gK_t h (gB_t (gB_t (gB_t (gB_t (gB_t (gB_t (gB_t (gB_f (decide_eq_false (by omega)) (gK_t h rfl)) (gK_t h rfl)) (gK_t h rfl)) (gK_t h rfl)) (gK_t h rfl)) (gK_t h rfl)) (gK_t h rfl)) (gK_t h rfl))))))))
theorem lc55 {c : CF} (ha : AwOk) (h : pT { c with n := 5, s := 5 }) (hk : c.k ≤ 6) : LawC1 { c with n := 5, s := 5 } :=
  lawL ha ((law55 c).trans (gK_t h (gK_t h (gK_t h (gB_t rfl (gK_t h (gB_t (gB_t (gB_t (gB_t (gB_t (gB_t (gB_t (gB_f (decide_eq_false (by omega)) (gK_t h rfl)) (gK_t h rfl)) (gK_t h rfl)) (gK_t h rfl)) (gK_t h rfl)) (gK_t h rfl)) (gK_t h rfl)) (gK_t h rfl))))))))
theorem lc65 {c : CF} (ha : AwOk) (h : pT { c with n := 6, s := 5 }) (hk : c.k ≤ 6) : LawC1 { c with n := 6, s := 5 } :=
  lawL ha ((law65 c).trans (gK_t h (gK_t h (gK_t h (gB_t rfl (gK_t h (gB_t (gB_t (gB_t (gB_t (gB_t (gB_t (gB_t (gB_t (gB_f (decide_eq_false (by omega)) (gK_t h rfl)) (gK_t h rfl)) (gK_t h rfl)) (gK_t h rfl)) (gK_t h rfl)) (gK_t h rfl)) (gK_t h rfl)) (gK_t h rfl)) (gK_t h rfl))))))))
theorem lc16 {c : CF} (ha : AwOk) (h : pT { c with n := 1, s := 6 }) (hk : c.k ≤ 6) : LawC1 { c with n := 1, s := 6 } :=
  lawL ha ((law16 c).trans (gK_t h (gK_t h (gK_t h (gB_t rfl (gK_t h (gB_t (gB_t (gB_t (gB_t (gB_t (gB_t (gB_t (gB_t (gB_f (decide_eq_false (by omega)) (gK_t h rfl)) (gK_t h rfl)) (gK_t h rfl)) (gK_t h rfl)) (gK_t h rfl)) (gK_t h rfl)) (gK_t h rfl)) (gK_t h rfl)) (gK_t h rfl))))))))
theorem lc26 {c : CF} (ha : AwOk) (h : pT { c with n := 2, s := 6 }) (hk : c.k ≤ 6) : LawC1 { c with n := 2, s := 6 } :=
  lawL ha ((law26 c).trans (gK_t h (gK_t h (gK_t h (gB_t rfl (gK_t h (gB_t (gB_t (gB_t (gB_t (gB_t (gB_t (gB_t (gB_t (gB_f (decide_eq_false (by omega)) (gK_t h rfl)) (gK_t h rfl)) (gK_t h rfl)) (gK_t h rfl)) (gK_t h rfl)) (gK_t h rfl)) (gK_t h rfl)) (gK_t h rfl)) (gK_t h rfl))))))))
theorem lc36 {c : CF} (ha : AwOk) (h : pT { c with n := 3, s := 6 }) (hk : c.k ≤ 6) : LawC1 { c with n := 3, s := 6 } :=
  lawL ha ((law36 c).trans (gK_t h (gK_t h (gK_t h (gB_t rfl (gK_t h (gB_t (gB_t (gB_t (gB_t (gB_t (gB_t (gB_t (gB_t (gB_f (decide_eq_false (by omega)) (gK_t h rfl)) (gK_t h rfl)) (gK_t h rfl)) (gK_t h rfl)) (gK_t h rfl)) (gK_t h rfl)) (gK_t h rfl)) (gK_t h rfl)) (gK_t h rfl))))))))
theorem lc46 {c : CF} (ha : AwOk) (h : pT { c with n := 4, s := 6 }) (hk : c.k ≤ 6) : LawC1 { c with n := 4, s := 6 } :=
  lawL ha ((law46 c).trans (gK_t h (gK_t h (gK_t h (gB_t rfl (gK_t h (gB_t (gB_t (gB_t (gB_t (gB_t (gB_t (gB_t (gB_t (gB_f (decide_eq_false (by omega)) (gK_t h rfl)) (gK_t h rfl)) (gK_t h rfl)) (gK_t h rfl)) (gK_t h rfl)) (gK_t h rfl)) (gK_t h rfl)) (gK_t h rfl)) (gK_t h rfl))))))))
theorem lc56 {c : CF} (ha : AwOk) (h : pT { c with n := 5, s := 6 }) (hk : c.k ≤ 6) : LawC1 { c with n := 5, s := 6 } :=
  lawL ha ((law56 c).trans (gK_t h (gK_t h (gK_t h (gB_t rfl (gK_t h (gB_t (gB_t (gB_t (gB_t (gB_t (gB_t (gB_t (gB_t (gB_f (decide_eq_false (by omega)) (gK_t h rfl)) (gK_t h rfl)) (gK_t h rfl)) (gK_t h rfl)) (gK_t h rfl)) (gK_t h rfl)) (gK_t h rfl)) (gK_t h rfl)) (gK_t h rfl))))))))
theorem lc66 {c : CF} (ha : AwOk) (h : pT { c with n := 6, s := 6 }) (hk : c.k ≤ 6) : LawC1 { c with n := 6, s := 6 } :=
  lawL ha ((law66 c).trans (gK_t h (gK_t h (gK_t h (gB_t rfl (gK_t h (gB_t (gB_t (gB_t (gB_t (gB_t (gB_t (gB_t (gB_t (gB_f (decide_eq_false (by omega)) (gK_t h rfl)) (gK_t h rfl)) (gK_t h rfl)) (gK_t h rfl)) (gK_t h rfl)) (gK_t h rfl)) (gK_t h rfl)) (gK_t h rfl)) (gK_t h rfl))))))))
theorem law_right (ha : AwOk) : ∀ c : CF, pT c → LawC1 c := by
  intro c h
  have hb : (1 ≤ c.n ∧ c.n ≤ 16) ∧ (1 ≤ c.s ∧ c.s ≤ 16) ∧ (1 ≤ c.k ∧ c.k ≤ 16) := by
    have h' : rightB c = true := h
    unfold rightB inB at h'
    simp only [Bool.and_eq_true, decide_eq_true_eq] at h'
    exact ⟨h'.1, h'.2.2.1, h'.2.2.2.1⟩
  obtain ⟨n, ch, s, k, ky, vl, hi, lo, ro, ml, ba, se, su, pa, mx⟩ := c
  simp only [] at hb
  obtain ⟨⟨n1, n2⟩, ⟨s1, s2⟩, ⟨k1, k2⟩⟩ := hb
  by_cases hn : 6 < n
  · rcases (by omega : n = 7 ∨ n = 8 ∨ n = 9 ∨ n = 10 ∨ n = 11 ∨ n = 12 ∨ n = 13 ∨ n = 14 ∨ n = 15 ∨ n = 16) with e | e | e | e | e | e | e | e | e | e <;> subst e
    · exact law_N (c := ⟨0, ch, s, k, ky, vl, hi, lo, ro, ml, ba, se, su, pa, mx⟩) ha bigN7 h
    · exact law_N (c := ⟨0, ch, s, k, ky, vl, hi, lo, ro, ml, ba, se, su, pa, mx⟩) ha bigN8 h
    · exact law_N (c := ⟨0, ch, s, k, ky, vl, hi, lo, ro, ml, ba, se, su, pa, mx⟩) ha bigN9 h
    · exact law_N (c := ⟨0, ch, s, k, ky, vl, hi, lo, ro, ml, ba, se, su, pa, mx⟩) ha bigN10 h
    · exact law_N (c := ⟨0, ch, s, k, ky, vl, hi, lo, ro, ml, ba, se, su, pa, mx⟩) ha bigN11 h
    · exact law_N (c := ⟨0, ch, s, k, ky, vl, hi, lo, ro, ml, ba, se, su, pa, mx⟩) ha bigN12 h
    · exact law_N (c := ⟨0, ch, s, k, ky, vl, hi, lo, ro, ml, ba, se, su, pa, mx⟩) ha bigN13 h
    · exact law_N (c := ⟨0, ch, s, k, ky, vl, hi, lo, ro, ml, ba, se, su, pa, mx⟩) ha bigN14 h
    · exact law_N (c := ⟨0, ch, s, k, ky, vl, hi, lo, ro, ml, ba, se, su, pa, mx⟩) ha bigN15 h
    · exact law_N (c := ⟨0, ch, s, k, ky, vl, hi, lo, ro, ml, ba, se, su, pa, mx⟩) ha bigN16 h
  by_cases hk : 6 < k
  · rcases (by omega : k = 7 ∨ k = 8 ∨ k = 9 ∨ k = 10 ∨ k = 11 ∨ k = 12 ∨ k = 13 ∨ k = 14 ∨ k = 15 ∨ k = 16) with e | e | e | e | e | e | e | e | e | e <;> subst e
    · exact law_K (c := ⟨n, ch, s, 0, ky, vl, hi, lo, ro, ml, ba, se, su, pa, mx⟩) ha bigK7 h
    · exact law_K (c := ⟨n, ch, s, 0, ky, vl, hi, lo, ro, ml, ba, se, su, pa, mx⟩) ha bigK8 h
    · exact law_K (c := ⟨n, ch, s, 0, ky, vl, hi, lo, ro, ml, ba, se, su, pa, mx⟩) ha bigK9 h
    · exact law_K (c := ⟨n, ch, s, 0, ky, vl, hi, lo, ro, ml, ba, se, su, pa, mx⟩) ha bigK10 h
    · exact law_K (c := ⟨n, ch, s, 0, ky, vl, hi, lo, ro, ml, ba, se, su, pa, mx⟩) ha bigK11 h
    · exact law_K (c := ⟨n, ch, s, 0, ky, vl, hi, lo, ro, ml, ba, se, su, pa, mx⟩) ha bigK12 h
    · exact law_K (c := ⟨n, ch, s, 0, ky, vl, hi, lo, ro, ml, ba, se, su, pa, mx⟩) ha bigK13 h
    · exact law_K (c := ⟨n, ch, s, 0, ky, vl, hi, lo, ro, ml, ba, se, su, pa, mx⟩) ha bigK14 h
    · exact law_K (c := ⟨n, ch, s, 0, ky, vl, hi, lo, ro, ml, ba, se, su, pa, mx⟩) ha bigK15 h
    · exact law_K (c := ⟨n, ch, s, 0, ky, vl, hi, lo, ro, ml, ba, se, su, pa, mx⟩) ha bigK16 h
  by_cases hs : 6 < s
  · rcases (by omega : s = 7 ∨ s = 8 ∨ s = 9 ∨ s = 10 ∨ s = 11 ∨ s = 12 ∨ s = 13 ∨ s = 14 ∨ s = 15 ∨ s = 16) with e | e | e | e | e | e | e | e | e | e <;> subst e
    · exact law_S (c := ⟨n, ch, 0, k, ky, vl, hi, lo, ro, ml, ba, se, su, pa, mx⟩) ha bigS7 h
    · exact law_S (c := ⟨n, ch, 0, k, ky, vl, hi, lo, ro, ml, ba, se, su, pa, mx⟩) ha bigS8 h
    · exact law_S (c := ⟨n, ch, 0, k, ky, vl, hi, lo, ro, ml, ba, se, su, pa, mx⟩) ha bigS9 h
    · exact law_S (c := ⟨n, ch, 0, k, ky, vl, hi, lo, ro, ml, ba, se, su, pa, mx⟩) ha bigS10 h
    · exact law_S (c := ⟨n, ch, 0, k, ky, vl, hi, lo, ro, ml, ba, se, su, pa, mx⟩) ha bigS11 h
    · exact law_S (c := ⟨n, ch, 0, k, ky, vl, hi, lo, ro, ml, ba, se, su, pa, mx⟩) ha bigS12 h
    · exact law_S (c := ⟨n, ch, 0, k, ky, vl, hi, lo, ro, ml, ba, se, su, pa, mx⟩) ha bigS13 h
    · exact law_S (c := ⟨n, ch, 0, k, ky, vl, hi, lo, ro, ml, ba, se, su, pa, mx⟩) ha bigS14 h
    · exact law_S (c := ⟨n, ch, 0, k, ky, vl, hi, lo, ro, ml, ba, se, su, pa, mx⟩) ha bigS15 h
    · exact law_S (c := ⟨n, ch, 0, k, ky, vl, hi, lo, ro, ml, ba, se, su, pa, mx⟩) ha bigS16 h
  have hk6 : k ≤ 6 := by omega
  rcases (by omega : s = 1 ∨ s = 2 ∨ s = 3 ∨ s = 4 ∨ s = 5 ∨ s = 6) with e | e | e | e | e | e <;> subst e
  · rcases (by omega : n = 1 ∨ n = 2 ∨ n = 3 ∨ n = 4 ∨ n = 5 ∨ n = 6) with e | e | e | e | e | e <;> subst e
    · exact lc11 (c := ⟨0, ch, 0, k, ky, vl, hi, lo, ro, ml, ba, se, su, pa, mx⟩) ha h hk6
    · exact lc21 (c := ⟨0, ch, 0, k, ky, vl, hi, lo, ro, ml, ba, se, su, pa, mx⟩) ha h hk6
    · exact lc31 (c := ⟨0, ch, 0, k, ky, vl, hi, lo, ro, ml, ba, se, su, pa, mx⟩) ha h hk6
    · exact lc41 (c := ⟨0, ch, 0, k, ky, vl, hi, lo, ro, ml, ba, se, su, pa, mx⟩) ha h hk6
    · exact lc51 (c := ⟨0, ch, 0, k, ky, vl, hi, lo, ro, ml, ba, se, su, pa, mx⟩) ha h hk6
    · exact lc61 (c := ⟨0, ch, 0, k, ky, vl, hi, lo, ro, ml, ba, se, su, pa, mx⟩) ha h hk6
  · rcases (by omega : n = 1 ∨ n = 2 ∨ n = 3 ∨ n = 4 ∨ n = 5 ∨ n = 6) with e | e | e | e | e | e <;> subst e
    · exact lc12 (c := ⟨0, ch, 0, k, ky, vl, hi, lo, ro, ml, ba, se, su, pa, mx⟩) ha h hk6
    · exact lc22 (c := ⟨0, ch, 0, k, ky, vl, hi, lo, ro, ml, ba, se, su, pa, mx⟩) ha h hk6
    · exact lc32 (c := ⟨0, ch, 0, k, ky, vl, hi, lo, ro, ml, ba, se, su, pa, mx⟩) ha h hk6
    · exact lc42 (c := ⟨0, ch, 0, k, ky, vl, hi, lo, ro, ml, ba, se, su, pa, mx⟩) ha h hk6
    · exact lc52 (c := ⟨0, ch, 0, k, ky, vl, hi, lo, ro, ml, ba, se, su, pa, mx⟩) ha h hk6
    · exact lc62 (c := ⟨0, ch, 0, k, ky, vl, hi, lo, ro, ml, ba, se, su, pa, mx⟩) ha h hk6
  · rcases (by omega : n = 1 ∨ n = 2 ∨ n = 3 ∨ n = 4 ∨ n = 5 ∨ n = 6) with e | e | e | e | e | e <;> subst e
    · exact lc13 (c := ⟨0, ch, 0, k, ky, vl, hi, lo, ro, ml, ba, se, su, pa, mx⟩) ha h hk6
    · exact lc23 (c := ⟨0, ch, 0, k, ky, vl, hi, lo, ro, ml, ba, se, su, pa, mx⟩) ha h hk6
    · exact lc33 (c := ⟨0, ch, 0, k, ky, vl, hi, lo, ro, ml, ba, se, su, pa, mx⟩) ha h hk6
    · exact lc43 (c := ⟨0, ch, 0, k, ky, vl, hi, lo, ro, ml, ba, se, su, pa, mx⟩) ha h hk6
    · exact lc53 (c := ⟨0, ch, 0, k, ky, vl, hi, lo, ro, ml, ba, se, su, pa, mx⟩) ha h hk6
    · exact lc63 (c := ⟨0, ch, 0, k, ky, vl, hi, lo, ro, ml, ba, se, su, pa, mx⟩) ha h hk6
  · rcases (by omega : n = 1 ∨ n = 2 ∨ n = 3 ∨ n = 4 ∨ n = 5 ∨ n = 6) with e | e | e | e | e | e <;> subst e
    · exact lc14 (c := ⟨0, ch, 0, k, ky, vl, hi, lo, ro, ml, ba, se, su, pa, mx⟩) ha h hk6
    · exact lc24 (c := ⟨0, ch, 0, k, ky, vl, hi, lo, ro, ml, ba, se, su, pa, mx⟩) ha h hk6
    · exact lc34 (c := ⟨0, ch, 0, k, ky, vl, hi, lo, ro, ml, ba, se, su, pa, mx⟩) ha h hk6
    · exact lc44 (c := ⟨0, ch, 0, k, ky, vl, hi, lo, ro, ml, ba, se, su, pa, mx⟩) ha h hk6
    · exact lc54 (c := ⟨0, ch, 0, k, ky, vl, hi, lo, ro, ml, ba, se, su, pa, mx⟩) ha h hk6
    · exact lc64 (c := ⟨0, ch, 0, k, ky, vl, hi, lo, ro, ml, ba, se, su, pa, mx⟩) ha h hk6
  · rcases (by omega : n = 1 ∨ n = 2 ∨ n = 3 ∨ n = 4 ∨ n = 5 ∨ n = 6) with e | e | e | e | e | e <;> subst e
    · exact lc15 (c := ⟨0, ch, 0, k, ky, vl, hi, lo, ro, ml, ba, se, su, pa, mx⟩) ha h hk6
    · exact lc25 (c := ⟨0, ch, 0, k, ky, vl, hi, lo, ro, ml, ba, se, su, pa, mx⟩) ha h hk6
    · exact lc35 (c := ⟨0, ch, 0, k, ky, vl, hi, lo, ro, ml, ba, se, su, pa, mx⟩) ha h hk6
    · exact lc45 (c := ⟨0, ch, 0, k, ky, vl, hi, lo, ro, ml, ba, se, su, pa, mx⟩) ha h hk6
    · exact lc55 (c := ⟨0, ch, 0, k, ky, vl, hi, lo, ro, ml, ba, se, su, pa, mx⟩) ha h hk6
    · exact lc65 (c := ⟨0, ch, 0, k, ky, vl, hi, lo, ro, ml, ba, se, su, pa, mx⟩) ha h hk6
  · rcases (by omega : n = 1 ∨ n = 2 ∨ n = 3 ∨ n = 4 ∨ n = 5 ∨ n = 6) with e | e | e | e | e | e <;> subst e
    · exact lc16 (c := ⟨0, ch, 0, k, ky, vl, hi, lo, ro, ml, ba, se, su, pa, mx⟩) ha h hk6
    · exact lc26 (c := ⟨0, ch, 0, k, ky, vl, hi, lo, ro, ml, ba, se, su, pa, mx⟩) ha h hk6
    · exact lc36 (c := ⟨0, ch, 0, k, ky, vl, hi, lo, ro, ml, ba, se, su, pa, mx⟩) ha h hk6
    · exact lc46 (c := ⟨0, ch, 0, k, ky, vl, hi, lo, ro, ml, ba, se, su, pa, mx⟩) ha h hk6
    · exact lc56 (c := ⟨0, ch, 0, k, ky, vl, hi, lo, ro, ml, ba, se, su, pa, mx⟩) ha h hk6
    · exact lc66 (c := ⟨0, ch, 0, k, ky, vl, hi, lo, ro, ml, ba, se, su, pa, mx⟩) ha h hk6
theorem law_all (ha : AwOk) (c : CF) : LawC1 c := by
  cases e : rightB c with
  | true => exact law_right ha c e
  | false => exact law_wrong c ha e
end Go.Wk
end

section
/- WorldConfs, at whatever is handed in. -/
open Go Go.AM Go.Md
namespace Go.Wk
set_option maxRecDepth 100000
set_option maxHeartbeats 400000
theorem aw_con : AwOk := con_of (ak kNHa_ok (ak kNTi_ok (ak kCHa_ok (ak kLHa_ok (ak kNTa_ok (ak kKPu_ok (ak kNSe_ok (ak kCTi_ok (ak kLTi_ok (ak kPut_ok (ak kGet_ok (ak kSum_ok (ak kTr_ok ank))))))))))))) awE
def ShapeTs (S : TypeId → List AV → Prop) : List TypeId → List AV → Prop
  | [], cs => cs = []
  | t :: r, cs => ∃ a b, cs = a ++ b ∧ S t a ∧ ShapeTs S r b
theorem fs_ts {S : TypeId → List AV → Prop} : ∀ {l : List Field} {cs : List AV}, ShapeFs S l cs → ShapeTs S (l.map (·.type)) cs
  | [], _, h => h
  | f :: r, _, ⟨a, b, h1, h2, h3⟩ => ⟨a, b, h1, h2, fs_ts h3⟩
def sFs : Option TypeDesc → Option (List TypeId)
  | some (.struct fs) => some (fs.toList.map (·.type))
  | _ => none
theorem shape_s {n : Nat} {t : TypeId} {ts : List TypeId} {cs : List AV} (hu : sFs (PG.underlying t) = some ts) (h : Shape PG (n + 1) t cs) : ShapeTs (Shape PG n) ts cs := by
  unfold Shape at h
  unfold sFs at hu
  split at hu
  · rename_i fs e
    rw [e] at h
    injection hu with hu
    rw [← hu]
    exact fs_ts h
  · cases hu
theorem shape_i {n : Nat} {cs : List AV} (h : Shape PG (n + 1) 3 cs) : ∃ i, cs = [.int .i64 i] ∧ I64 i := by
  have hu : PG.underlying 3 = some (.int .i64) := by kernel_rfl
  unfold Shape at h
  rw [hu] at h
  obtain ⟨i, h1, h2, h3⟩ := h
  have e1 : IntKind.i64.min = -9223372036854775808 := by decide
  have e2 : IntKind.i64.max = 9223372036854775807 := by decide
  rw [e1] at h2; rw [e2] at h3
  exact ⟨i, h1, h2, h3⟩
theorem confs_ok : LawC PG 9 F_lockgatelaw25_WorldConfs [23] := by
  intro avs h
  obtain ⟨av, r, hs, rfl, rfl⟩ := h
  obtain ⟨c0, d0, rfl, h0, c1, d1, rfl, h1, c2, d2, rfl, h2, c3, d3, rfl, h3, c4, d4, rfl, h4, c5, d5, rfl, h5, c6, d6, rfl, h6, c7, d7, rfl, h7, c8, d8, rfl, h8, c9, d9, rfl, h9, c10, d10, rfl, h10, c11, d11, rfl, h11, c12, d12, rfl, h12, c13, d13, rfl, h13, c14, d14, rfl, h14, rfl⟩ := shape_s (n := 8) (ts := [3, 3, 3, 3, 3, 3, 3, 3, 3, 3, 3, 3, 3, 3, 3]) (by kernel_rfl) hs
  obtain ⟨i0, rfl, g0⟩ := shape_i (n := 7) h0
  obtain ⟨i1, rfl, g1⟩ := shape_i (n := 7) h1
  obtain ⟨i2, rfl, g2⟩ := shape_i (n := 7) h2
  obtain ⟨i3, rfl, g3⟩ := shape_i (n := 7) h3
  obtain ⟨i4, rfl, g4⟩ := shape_i (n := 7) h4
  obtain ⟨i5, rfl, g5⟩ := shape_i (n := 7) h5
  obtain ⟨i6, rfl, g6⟩ := shape_i (n := 7) h6
  obtain ⟨i7, rfl, g7⟩ := shape_i (n := 7) h7
  obtain ⟨i8, rfl, g8⟩ := shape_i (n := 7) h8
  obtain ⟨i9, rfl, g9⟩ := shape_i (n := 7) h9
  obtain ⟨i10, rfl, g10⟩ := shape_i (n := 7) h10
  obtain ⟨i11, rfl, g11⟩ := shape_i (n := 7) h11
  obtain ⟨i12, rfl, g12⟩ := shape_i (n := 7) h12
  obtain ⟨i13, rfl, g13⟩ := shape_i (n := 7) h13
  obtain ⟨i14, rfl, g14⟩ := shape_i (n := 7) h14
  have ea : argOf PG 23 ([.int .i64 i0] ++ ([.int .i64 i1] ++ ([.int .i64 i2] ++ ([.int .i64 i3] ++ ([.int .i64 i4] ++ ([.int .i64 i5] ++ ([.int .i64 i6] ++ ([.int .i64 i7] ++ ([.int .i64 i8] ++ ([.int .i64 i9] ++ ([.int .i64 i10] ++ ([.int .i64 i11] ++ ([.int .i64 i12] ++ ([.int .i64 i13] ++ ([.int .i64 i14] ++ ([] : List AV)))))))))))))))) = .agg (encCF ⟨i0, i1, i2, i3, i4, i5, i6, i7, i8, i9, i10, i11, i12, i13, i14⟩) := by
    unfold argOf
    have hu : sFs (PG.underlying 23) = some [3, 3, 3, 3, 3, 3, 3, 3, 3, 3, 3, 3, 3, 3, 3] := by kernel_rfl
    unfold sFs at hu
    split at hu
    · rename_i fs e
      rw [e]; rfl
    · cases hu
  rw [ea]
  exact law_all aw_con _
end Go.Wk
end
