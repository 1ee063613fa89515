/- The abstract machine's values and blocks against the model's: 'RV', 'RH', and what a step leaves as it was ('Ext', 'Step'). -/
import Derived.Test.YtnioalecffkedaaAm1
import Derived.Laws.Cells
import Derived.Laws.CopyRow
import Derived.Laws.World
import Derived.Below
namespace Go.AM

theorem one1_eq (v : Value) : one1 v = v.oneCell' := by cases v <;> rfl

abbrev Phi := Nat → Option (Nat × Nat × Nat)
def Phi.no : Phi := fun _ => .none
def Phi.le (φ φ' : Phi) : Prop := ∀ b p, φ b = some p → φ' b = some p
theorem Phi.le_refl (φ : Phi) : Phi.le φ φ := fun _ _ h => h
theorem Phi.le_trans {φ φ' φ'' : Phi} (h : Phi.le φ φ') (h' : Phi.le φ' φ'') : Phi.le φ φ'' := fun b p e => h' b p (h b p e)
theorem Phi.no_le (φ : Phi) : Phi.le Phi.no φ := fun _ _ h => by cases h

def csize (w : World) (B : Nat) : Nat := match w.heap[B]? with
  | some (.cells c _ _) => c.size
  | _ => 0

/-- an abstract value against one of the model's -/
inductive RV (w : World) (I : Nat → Prop) : Phi → AV → Value → Prop
  | undef {φ} (v : Value) : RV w I φ .undef v
  | bool {φ} (b : Bool) : RV w I φ (.bool b) (.bool b)
  | int {φ} (k : IntKind) (n : Int) : RV w I φ (.int k n) (.int k n)
  | flt {φ} (k : FloatKind) (n : Nat) : RV w I φ (.flt k n) (.float k n)
  | cplx {φ} (k : FloatKind) (a b : Nat) : RV w I φ (.cplx k a b) (.complex k a b)
  | str {φ} (s : ByteArray) (l : List UInt8) (h : l = s.data.toList) : RV w I φ (.str l) (.string s)
  | nilp {φ} : RV w I φ .nilp (.pointer none)
  | ptr {φ} (b B o sz i j q : Nat) (h : φ b = some (B, o, sz)) (hq : q = o + i * sz + j) : RV w I φ (.ptr b i j) (.pointer (some ⟨B, q, none⟩))
  | tp {φ} (cs : List AV) (j B o q : Nat) (u : Nat → Value) (hI : I B) (hq : q = o + j)
      (hc : ∀ (k : Nat) c, cs[k]? = some c → w.cell? ⟨B, o + k, none⟩ = some (u k)) (h1 : ∀ (k : Nat) c, cs[k]? = some c → (u k).oneCell' = true)
      (hr : ∀ (k : Nat) c, cs[k]? = some c → RV w I Phi.no c (u k)) : RV w I φ (.tp cs j) (.pointer (some ⟨B, q, none⟩))
  | nils {φ} : RV w I φ .nils (.slice none 0 0)
  | sl {φ} (sz b B o off len cm cap q : Nat) (h : φ b = some (B, o, sz)) (hq : q = o + off * sz) (hl : len ≤ cm) (hc : cm ≤ cap)
      (hs : o + (off + cap) * sz ≤ csize w B) : RV w I φ (.sl sz b off len cm) (.slice (some ⟨B, q, none⟩) len cap)
  | sle {φ} (sz b off : Nat) (a : Addr) : RV w I φ (.sl sz b off 0 0) (.slice (some a) 0 0)
  | tr {φ} (sz n : Nat) (f : Nat → List AV) (B o cap : Nat) (u : Nat → Nat → Value) (hI : 0 < n → I B) (hn : n ≤ cap) (hlen : ∀ i, i < n → (f i).length = sz)
      (hc : ∀ (i k : Nat) c, i < n → (f i)[k]? = some c → w.cell? ⟨B, o + i * sz + k, none⟩ = some (u i k))
      (h1 : ∀ (i k : Nat) c, i < n → (f i)[k]? = some c → (u i k).oneCell' = true)
      (hr : ∀ (i k : Nat) c, i < n → (f i)[k]? = some c → RV w I Phi.no c (u i k)) : RV w I φ (.tr sz n f) (.slice (some ⟨B, o, none⟩) n cap)
  | trn {φ} (sz : Nat) (f : Nat → List AV) (a : Option Addr) : RV w I φ (.tr sz 0 f) (.slice a 0 0)
  | trl {φ} (sz : Nat) (es : List (List AV)) (v : Value) (h : RV w I φ (.tr sz es.length fun i => es.getD i []) v) (hz : v ≠ .slice none 0 0) : RV w I φ (.trl sz es) v
  | agg {φ} (cs : List AV) (vs : Array Value) (hl : cs.length = vs.size) (h1 : ∀ (k : Nat) u, vs[k]? = some u → u.oneCell' = true)
      (hr : ∀ (k : Nat) c u, cs[k]? = some c → vs[k]? = some u → RV w I φ c u) : RV w I φ (.agg cs) (.agg vs)
  | tup {φ} (cs : List AV) (vs : Array Value) (hl : cs.length = vs.size)
      (hr : ∀ (k : Nat) c u, cs[k]? = some c → vs[k]? = some u → RV w I φ c u) : RV w I φ (.tup cs) (.tuple vs)
  | fn {φ} (f : Fn) (a c : List AV) (va vc : Array Value) (hla : a.length = va.size) (hlc : c.length = vc.size)
      (ha : ∀ (k : Nat) x u, a[k]? = some x → va[k]? = some u → RV w I φ x u)
      (hc : ∀ (k : Nat) x u, c[k]? = some x → vc[k]? = some u → RV w I φ x u) : RV w I φ (.fn f a c) (.func f va vc)
  | nilf {φ} : RV w I φ .nilf .nilFunc
  | nilm {φ} : RV w I φ .nilm (.map none)
  | mp {φ} (b B : Nat) (h : φ b = some (B, 0, 0)) : RV w I φ (.mp b) (.map (some B))

theorem RV.mono {w : World} {I : Nat → Prop} {φ : Phi} {v : AV} {u : Value} (h : RV w I φ v u) {w' : World} {I' : Nat → Prop}
    (hI : ∀ B, I B → I' B ∧ w'.heap[B]? = w.heap[B]?) (hs : ∀ B, csize w B ≤ csize w' B) : ∀ {φ' : Phi}, Phi.le φ φ' → RV w' I' φ' v u := by
  have hcell : ∀ B o, I B → w'.cell? ⟨B, o, none⟩ = w.cell? ⟨B, o, none⟩ := fun B o hB => by simp [World.cell?, (hI B hB).2]
  induction h with
  | undef v => intros; exact .undef v
  | bool b => intros; exact .bool b
  | int k n => intros; exact .int k n
  | flt k n => intros; exact .flt k n
  | cplx k a b => intros; exact .cplx k a b
  | str s l h => intros; exact .str s l h
  | nilp => intros; exact .nilp
  | ptr b B o sz i j q h hq => intro φ' le; exact .ptr b B o sz i j q (le _ _ h) hq
  | tp cs j B o q u hB hq hc h1 _ ih =>
    intro φ' le
    exact .tp cs j B o q u (hI B hB).1 hq (fun k c e => by rw [hcell _ _ hB]; exact hc k c e) h1 (fun k c e => ih k c e (Phi.le_refl _))
  | nils => intros; exact .nils
  | sl sz b B o off len cm cap q h hq hl hc hsz => intro φ' le; exact .sl sz b B o off len cm cap q (le _ _ h) hq hl hc (Nat.le_trans hsz (hs B))
  | sle sz b off a => intros; exact .sle sz b off a
  | tr sz n f B o cap u hB hn hlen hc h1 _ ih =>
    intro φ' le
    exact .tr sz n f B o cap u (fun h0 => (hI B (hB h0)).1) hn hlen (fun i k c hi e => by rw [hcell _ _ (hB (by omega))]; exact hc i k c hi e) h1 (fun i k c hi e => ih i k c hi e (Phi.le_refl _))
  | trn sz f a => intros; exact .trn sz f a
  | trl sz es v _ hz ih => intro φ' le; exact .trl sz es v (ih le) hz
  | agg cs vs hl h1 _ ih => intro φ' le; exact .agg cs vs hl h1 fun k c u e e' => ih k c u e e' le
  | tup cs vs hl _ ih => intro φ' le; exact .tup cs vs hl fun k c u e e' => ih k c u e e' le
  | fn f a c va vc hla hlc _ _ iha ihc => intro φ' le; exact .fn f a c va vc hla hlc (fun k c u e e' => iha k c u e e' le) (fun k c u e e' => ihc k c u e e' le)
  | nilf => intros; exact .nilf
  | nilm => intros; exact .nilm
  | mp b B h => intro φ' le; exact .mp b B (le _ _ h)

/-- what leads nowhere into the heap needs no map of it -/
theorem RV.free {w : World} {I : Nat → Prop} {φ φ' : Phi} {v : AV} {u : Value} (h : RV w I φ v u) (hf : refFree v = true) : RV w I φ' v u := by
  cases h with
  | undef _ => exact .undef _
  | bool b => exact .bool b
  | int k n => exact .int k n
  | flt k n => exact .flt k n
  | cplx k a b => exact .cplx k a b
  | str s l h => exact .str s l h
  | nilp => exact .nilp
  | ptr => simp [refFree] at hf
  | tp cs j B o q u hB hq hc h1 hr => exact .tp cs j B o q u hB hq hc h1 hr
  | nils => exact .nils
  | sl => simp [refFree] at hf
  | sle => simp [refFree] at hf
  | tr sz n f B o cap u hB hn hlen hc h1 hr => exact .tr sz n f B o cap u hB hn hlen hc h1 hr
  | trn sz f a => exact .trn sz f a
  | trl sz es _ h hz =>
    refine .trl sz es _ ?_ hz
    generalize hn : es.length = n at h
    generalize (fun i => es.getD i []) = f at h
    cases h with
    | tr _ _ _ B o cap u hB hn hlen hc h1 hr => exact .tr sz _ f B o cap u hB hn hlen hc h1 hr
    | trn _ _ a => exact .trn sz f a
  | agg => simp [refFree] at hf
  | tup => simp [refFree] at hf
  | fn => simp [refFree] at hf
  | nilf => exact .nilf
  | nilm => exact .nilm
  | mp => simp [refFree] at hf

theorem RV.one {w : World} {I : Nat → Prop} {φ : Phi} {v : AV} {u : Value} (h : RV w I φ v u) (hs : v.single = true) : u.oneCell' = true := by
  cases h <;> first | rfl | (simp [AV.single] at hs; done) | skip
  case trl hz h =>
    rename_i es
    generalize es.length = n at h
    generalize (fun i => es.getD i []) = f at h
    cases h <;> rfl

/-- the cells of a value, against the model's -/
def RC (w : World) (I : Nat → Prop) (φ : Phi) (cs : List AV) (vs : Array Value) : Prop :=
  cs.length = vs.size ∧ (∀ (k : Nat) u, vs[k]? = some u → u.oneCell' = true) ∧ ∀ (k : Nat) c u, cs[k]? = some c → vs[k]? = some u → RV w I φ c u

theorem RC.one {w : World} {I : Nat → Prop} {φ : Phi} {v : AV} {u : Value} (h : RV w I φ v u) (hu : u.oneCell' = true) : RC w I φ [v] #[u] := by
  refine ⟨rfl, fun k x e => ?_, fun k c x e e' => ?_⟩
  · cases k with
    | zero => simp at e; exact e ▸ hu
    | succ k => simp at e
  · cases k with
    | zero => simp at e e'; exact e ▸ e' ▸ h
    | succ k => simp at e

theorem RV.cells {w : World} {I : Nat → Prop} {φ : Phi} {v : AV} {u : Value} (h : RV w I φ v u) (hs : v.storable = true) : RC w I φ v.cells u.cells := by
  cases h with
  | agg cs vs hl h1 hr => exact ⟨hl, h1, hr⟩
  | undef => simp [AV.storable] at hs
  | tup => simp [AV.storable] at hs
  | trl sz es _ h hz =>
    have h' : RV w I φ (.trl sz es) u := .trl sz es u h hz
    have ho : u.oneCell' = true := RV.one h' rfl
    have : u.cells = #[u] := by cases u <;> first | rfl | simp [Value.oneCell'] at ho
    rw [this]
    exact RC.one h' ho
  | bool b => exact RC.one (.bool b) rfl
  | int k n => exact RC.one (.int k n) rfl
  | flt k n => exact RC.one (.flt k n) rfl
  | cplx k a b => exact RC.one (.cplx k a b) rfl
  | str s l h => exact RC.one (.str s l h) rfl
  | nilp => exact RC.one .nilp rfl
  | ptr b B o sz i j q h hq => exact RC.one (.ptr b B o sz i j q h hq) rfl
  | tp cs j B o q u hB hq hc h1 hr => exact RC.one (.tp cs j B o q u hB hq hc h1 hr) rfl
  | nils => exact RC.one .nils rfl
  | sl sz b B o off len cm cap q h hq hl hc hz => exact RC.one (.sl sz b B o off len cm cap q h hq hl hc hz) rfl
  | sle sz b off a => exact RC.one (.sle sz b off a) rfl
  | tr sz n f B o cap u hB hn hlen hc h1 hr => exact RC.one (.tr sz n f B o cap u hB hn hlen hc h1 hr) rfl
  | trn sz f a => exact RC.one (.trn sz f a) rfl
  | fn f a c va vc hla hlc ha hc => exact RC.one (.fn f a c va vc hla hlc ha hc) rfl
  | nilf => exact RC.one .nilf rfl
  | nilm => exact RC.one .nilm rfl
  | mp b B h => exact RC.one (.mp b B h) rfl

theorem RC.mono {w : World} {I : Nat → Prop} {φ : Phi} {cs : List AV} {vs : Array Value} (h : RC w I φ cs vs) {w' : World} {I' : Nat → Prop} {φ' : Phi}
    (hI : ∀ B, I B → I' B ∧ w'.heap[B]? = w.heap[B]?) (hs : ∀ B, csize w B ≤ csize w' B) (le : Phi.le φ φ') : RC w' I' φ' cs vs :=
  ⟨h.1, h.2.1, fun k c u e e' => (h.2.2 k c u e e').mono hI hs le⟩

theorem ofVal1_ok (w : World) (I : Nat → Prop) (φ : Phi) (v : Value) : RV w I φ (ofVal1 v) v := by
  unfold ofVal1
  split <;> first
    | exact .undef _ | exact .bool _ | exact .int _ _ | exact .flt _ _ | exact .cplx _ _ _ | exact .str _ _ rfl | exact .nilf | exact .nilp | exact .nils | exact .nilm

theorem ofVal_ok (w : World) (I : Nat → Prop) (φ : Phi) (v : Value) : RV w I φ (ofVal v) v := by
  unfold ofVal
  split
  · rename_i cs
    cases h : cs.toList.all one1 with
    | false => exact .undef _
    | true =>
      simp only [cond_true]
      refine .agg _ cs (by simp) (fun k u e => ?_) fun k c u e e' => ?_
      · have hm : u ∈ cs.toList := by
          have : cs.toList[k]? = some u := by simpa using e
          exact List.mem_of_getElem? this
        have := (List.all_eq_true.1 h) u hm
        rwa [one1_eq] at this
      · simp only [List.getElem?_map, Array.getElem?_toList, e', Option.map_some, Option.some.injEq] at e
        exact e ▸ ofVal1_ok w I φ u
  · exact ofVal1_ok w I φ v

def mutable : BS → Bool
  | .arr m _ _ | .seq m _ _ _ | .map m _ | .iter m _ _ => m
  | _ => false

def live : BS → Bool
  | .arr .. | .seq .. | .map .. | .iter .. => true
  | _ => false

theorem live_of_mutable {x : BS} (h : mutable x = true) : live x = true := by cases x <;> simp_all [mutable, live]

def thawed (c : Array Value) (fz : Nat × Nat) : Prop := ∀ k, k < c.size → ¬ (fz.1 ≤ k ∧ k < fz.2)

/-- a block of cells that may be written, if it may -/
def Row (w : World) (B : Nat) (m : Bool) : Prop := ∃ c e fz, w.heap[B]? = some (.cells c e fz) ∧ (m = true → thawed c fz)

/-- an abstract block against the model's block B (from cell o on, sz cells an element) -/
def RB (w : World) (I : Nat → Prop) (φ : Phi) (B o sz : Nat) : BS → Prop
  | .arr m s es => s = sz ∧ Row w B m ∧ (∀ (i : Nat) cs, es[i]? = some cs → cs.length = sz) ∧
      ∀ (i : Nat) cs (k : Nat) c, es[i]? = some cs → cs[k]? = some c → ∃ u, w.cell? ⟨B, o + i * sz + k, none⟩ = some u ∧ u.oneCell' = true ∧ RV w I φ c u
  | .seq m s n f => s = sz ∧ Row w B m ∧ (∀ i, i < n → (f i).length = sz) ∧
      ∀ (i k : Nat) c, i < n → (f i)[k]? = some c → ∃ u, w.cell? ⟨B, o + i * sz + k, none⟩ = some u ∧ u.oneCell' = true ∧ RV w I Phi.no c u
  | .map _ es => o = 0 ∧ sz = 0 ∧ ∃ mes clock, w.heap[B]? = some (.map mes clock) ∧ mes.size = es.length ∧
      (∀ (i : Nat) kv e, es[i]? = some kv → mes[i]? = some e → RV w I φ kv.1 e.key ∧ RV w I φ kv.2 e.val ∧ kv.1.single = true) ∧ ∀ (i : Nat) e, mes[i]? = some e → e.born < clock
  | .iter _ es st => o = 0 ∧ sz = 0 ∧ ∃ mm since seen mes clock, w.heap[B]? = some (.mapIter (some mm) since seen clock) ∧ I mm ∧ w.heap[mm]? = some (.map mes clock) ∧ mes.size = es.length ∧ es.length ≤ 1 ∧
      (∀ (i : Nat) kv e, es[i]? = some kv → mes[i]? = some e → RV w I Phi.no kv.1 e.key ∧ RV w I Phi.no kv.2 e.val) ∧ (∀ (i : Nat) e, mes[i]? = some e → e.born < since ∧ e.born < clock) ∧
      seen = (bif st then mes.map (·.born) else #[])
  | _ => True

theorem RB.mono {w : World} {I : Nat → Prop} {φ : Phi} {B o sz : Nat} {x : BS} (h : RB w I φ B o sz x) {w' : World} {I' : Nat → Prop} {φ' : Phi}
    (hI : ∀ B, I B → I' B ∧ w'.heap[B]? = w.heap[B]?) (hs : ∀ B, csize w B ≤ csize w' B) (le : Phi.le φ φ') (hB : w'.heap[B]? = w.heap[B]?) : RB w' I' φ' B o sz x := by
  have hcell : ∀ q, w'.cell? ⟨B, q, none⟩ = w.cell? ⟨B, q, none⟩ := fun q => by simp [World.cell?, hB]
  cases x with
  | none => trivial
  | dead => trivial
  | arr m s es =>
    obtain ⟨h0, ⟨c, e, fz, hc, hf⟩, h1, h2⟩ := h
    refine ⟨h0, ⟨c, e, fz, hB.trans hc, hf⟩, h1, fun i cs k c e e' => ?_⟩
    obtain ⟨u, a, b, r⟩ := h2 i cs k c e e'
    exact ⟨u, (hcell _).trans a, b, r.mono hI hs le⟩
  | seq m s n f =>
    obtain ⟨h0, ⟨c, e, fz, hc, hf⟩, h1, h2⟩ := h
    refine ⟨h0, ⟨c, e, fz, hB.trans hc, hf⟩, h1, fun i k c e e' => ?_⟩
    obtain ⟨u, a, b, r⟩ := h2 i k c e e'
    exact ⟨u, (hcell _).trans a, b, r.mono hI hs (Phi.le_refl _)⟩
  | map m es =>
    obtain ⟨h0, h1, mes, clock, hm, hsz, h2, hbn⟩ := h
    refine ⟨h0, h1, mes, clock, hB.trans hm, hsz, fun i kv e a b => ?_, hbn⟩
    obtain ⟨x, y, z⟩ := h2 i kv e a b
    exact ⟨x.mono hI hs le, y.mono hI hs le, z⟩
  | iter m es st =>
    obtain ⟨h0, h1, mm, since, seen, mes, clock, hm, hi, hmm, hsz, hle, h2, hbn, hseen⟩ := h
    refine ⟨h0, h1, mm, since, seen, mes, clock, hB.trans hm, (hI mm hi).1, (hI mm hi).2.trans hmm, hsz, hle, fun i kv e a b => ?_, hbn, hseen⟩
    obtain ⟨x, y⟩ := h2 i kv e a b
    exact ⟨x.mono hI hs (Phi.le_refl _), y.mono hI hs (Phi.le_refl _)⟩

/-- the abstract heap against the model's; I: the blocks that stay as they are -/
structure RH (w : World) (I : Nat → Prop) (φ : Phi) (rd : Nat → BS) : Prop where
  none : ∀ b, rd b = .none → φ b = .none
  blk : ∀ b, live (rd b) = true → ∃ B o sz, φ b = some (B, o, sz) ∧ RB w I φ B o sz (rd b)
  inj : ∀ b b' B o sz o' sz', mutable (rd b) = true → mutable (rd b') = true → φ b = some (B, o, sz) → φ b' = some (B, o', sz') → b = b'
  disj : ∀ b B o sz, mutable (rd b) = true → φ b = some (B, o, sz) → ¬ I B
  imm : ∀ b B o sz, live (rd b) = true → mutable (rd b) = false → φ b = some (B, o, sz) → I B
  lt : ∀ B, I B → B < w.heap.size

def Mut (φ : Phi) (rd : Nat → BS) (B : Nat) : Prop := ∃ b o sz, mutable (rd b) = true ∧ φ b = some (B, o, sz)

/-- what a run keeps: all blocks but those of M; rows of cells keep their length -/
structure Ext (M : Nat → Prop) (w w' : World) : Prop where
  os : w'.os = w.os
  tape : w'.tape = w.tape
  output : w'.output = w.output
  size : w.heap.size ≤ w'.heap.size
  keep : ∀ B, B < w.heap.size → ¬ M B → w'.heap[B]? = w.heap[B]?
  shape : ∀ (B : Nat) c e fz, w.heap[B]? = some (.cells c e fz) → ∃ c', w'.heap[B]? = some (.cells c' e fz) ∧ c'.size = c.size

theorem Ext.refl (M : Nat → Prop) (w : World) : Ext M w w := ⟨rfl, rfl, rfl, Nat.le_refl _, fun _ _ _ => rfl, fun _ c _ _ h => ⟨c, h, rfl⟩⟩

theorem Ext.csize {M : Nat → Prop} {w w' : World} (h : Ext M w w') (B : Nat) : csize w B ≤ csize w' B := by
  unfold AM.csize
  cases e : w.heap[B]? with
  | none => simp
  | some o =>
    cases o with
    | cells c t fz => obtain ⟨c', e', hs⟩ := h.shape B c t fz e; simp [e', hs]
    | _ => simp

theorem Ext.trans {M M' : Nat → Prop} {w w' w'' : World} (h : Ext M w w') (h' : Ext M' w' w'') (hM : ∀ B, M' B → M B ∨ w.heap.size ≤ B) : Ext M w w'' :=
  ⟨h'.os.trans h.os, h'.tape.trans h.tape, h'.output.trans h.output, Nat.le_trans h.size h'.size,
    fun B hB hn => (h'.keep B (Nat.lt_of_lt_of_le hB h.size) (fun hm => (hM B hm).elim hn (fun h => by omega))).trans (h.keep B hB hn),
    fun B c e fz hc => let ⟨c', e', s⟩ := h.shape B c e fz hc; let ⟨c'', e'', s'⟩ := h'.shape B c' e fz e'; ⟨c'', e'', s'.trans s⟩⟩

theorem Ext.weaken {M M' : Nat → Prop} {w w' : World} (h : Ext M w w') (hM : ∀ B, M B → M' B) : Ext M' w w' :=
  ⟨h.os, h.tape, h.output, h.size, fun B hB hn => h.keep B hB (fun hm => hn (hM B hm)), h.shape⟩

/-- from a state to a later one -/
structure Step (base : Nat) (rd : Nat → BS) (φ : Phi) (I : Nat → Prop) (w : World) (rd' : Nat → BS) (φ' : Phi) (I' : Nat → Prop) (w' : World) : Prop where
  le : ∀ b p, b < base → φ b = some p → φ' b = some p
  Ile : ∀ B, I B → I' B
  Inew : ∀ B, I' B → I B ∨ Mut φ rd B ∨ w.heap.size ≤ B
  mt : ∀ B, Mut φ' rd' B → Mut φ rd B ∨ w.heap.size ≤ B
  ext : Ext (Mut φ rd) w w'

theorem Step.refl (base : Nat) (rd : Nat → BS) (φ : Phi) (I : Nat → Prop) (w : World) : Step base rd φ I w rd φ I w :=
  ⟨fun _ _ _ h => h, fun _ h => h, fun _ h => .inl h, fun _ h => .inl h, Ext.refl _ _⟩

theorem Step.trans {base : Nat} {rd rd' rd'' : Nat → BS} {φ φ' φ'' : Phi} {I I' I'' : Nat → Prop} {w w' w'' : World}
    (h : Step base rd φ I w rd' φ' I' w') (h' : Step base rd' φ' I' w' rd'' φ'' I'' w'') : Step base rd φ I w rd'' φ'' I'' w'' :=
  ⟨fun b p hb e => h'.le b p hb (h.le b p hb e), fun B hB => h'.Ile B (h.Ile B hB),
   fun B hB => (h'.Inew B hB).elim (fun x => h.Inew B x) (fun x => x.elim (fun y => .inr (h.mt B y)) (fun y => .inr (.inr (Nat.le_trans h.ext.size y)))),
   fun B hB => (h'.mt B hB).elim (fun x => h.mt B x) (fun x => .inr (Nat.le_trans h.ext.size x)),
   h.ext.trans h'.ext h.mt⟩

theorem Step.mono {base base' : Nat} {rd rd' : Nat → BS} {φ φ' : Phi} {I I' : Nat → Prop} {w w' : World} (h : Step base rd φ I w rd' φ' I' w') (hb : base' ≤ base) :
    Step base' rd φ I w rd' φ' I' w' := ⟨fun b p hlt e => h.le b p (Nat.lt_of_lt_of_le hlt hb) e, h.Ile, h.Inew, h.mt, h.ext⟩

/-- old values are good in the later state -/
theorem RV.step {w w' : World} {I I' : Nat → Prop} {φ φ' : Phi} {rd rd' : Nat → BS} {base : Nat} {v : AV} {u : Value} (h : RV w I φ v u) (hh : RH w I φ rd)
    (s : Step base rd φ I w rd' φ' I' w') (le : Phi.le φ φ') : RV w' I' φ' v u :=
  h.mono (fun B hB => ⟨s.Ile B hB, s.ext.keep B (hh.lt B hB) (fun ⟨b, o, sz, hm, e⟩ => hh.disj b B o sz hm e hB)⟩) s.ext.csize le

theorem RC.step {w w' : World} {I I' : Nat → Prop} {φ φ' : Phi} {rd rd' : Nat → BS} {base : Nat} {v : List AV} {u : Array Value} (h : RC w I φ v u) (hh : RH w I φ rd)
    (s : Step base rd φ I w rd' φ' I' w') (le : Phi.le φ φ') : RC w' I' φ' v u :=
  h.mono (fun B hB => ⟨s.Ile B hB, s.ext.keep B (hh.lt B hB) (fun ⟨b, o, sz, hm, e⟩ => hh.disj b B o sz hm e hB)⟩) s.ext.csize le

end Go.AM
