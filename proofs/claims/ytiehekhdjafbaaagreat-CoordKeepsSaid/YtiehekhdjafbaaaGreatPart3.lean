/- Part 3 of the texts that the proof needs: the abstract machine, plain laws, contracts of the program's functions. No statement is claimed here. -/
import Derived.Test.YtiehekhdjafbaaaGreatPart2
import GoSem.Core.Float
import Derived.Test.YtiehekhdjafbaaaGreatProg
import Derived.KernelRfl
set_option linter.unusedVariables false
set_option linter.unusedSimpArgs false
noncomputable section
set_option linter.unusedVariables false
set_option linter.unusedSimpArgs false
namespace Go.AM
mutual
def jf : AV -> Bool
 | .tr _ n _ => Nat.beq n 0
 | .trl _ es => es.isEmpty
 | .tp .. => false
 | .agg cs => jfL cs
 | .tup cs => jfL cs
 | .fn _ a c => jfL a && jfL c
 | _ => true
def jfL : List AV -> Bool
 | [] => true
 | v :: r => jf v && jfL r
end
theorem jfL_get : ∀ {cs : List AV} {k : Nat} {c : AV}, jfL cs = true -> cs[k]? = some c -> jf c = true
 | [], k, c, _, e => by simp at e
 | v :: r, 0, c, h, e => by
  simp only [jfL, Bool.and_eq_true] at h
  simp at e; exact e ▸ h.1
 | v :: r, k + 1, c, h, e => by
  simp only [jfL, Bool.and_eq_true] at h
  simp at e; exact jfL_get h.2 e
theorem RV.jf {w : World} {I : Nat -> Prop} {φ : Phi} {v : AV} {u : Value} (h : RV w I φ v u) (J : Nat -> Prop) : AM.jf v = true -> RV w J φ v u := by
 induction h with
 | undef v => intros; exact .undef v
 | bool b => intros; exact .bool b
 | int k n => intros; exact .int k n
 | flt k n => intros; exact .flt k n
 | cplx k a b => intros; exact .cplx k a b
 | str s l h => intros; exact .str s l h
 | nilp => intros; exact .nilp
 | ptr b B o sz i j q h hq => intros; exact .ptr b B o sz i j q h hq
 | tp cs j B o q u hB hq hc h1 hr _ => intro ht; simp [AM.jf] at ht
 | nils => intros; exact .nils
 | sl sz b B o off len cm cap q h hq hl hc hs => intros; exact .sl sz b B o off len cm cap q h hq hl hc hs
 | sle sz b off a => intros; exact .sle sz b off a
 | tr sz n f B o cap u hB hn hcp hlen hc h1 hr _ =>
  intro ht
  have h0 : n = 0 := Nat.eq_of_beq_eq_true (by simpa [AM.jf] using ht)
  subst h0
  exact .tr sz 0 f B o cap u (fun h => absurd h (Nat.lt_irrefl 0)) hn (fun h => absurd h (Nat.lt_irrefl 0)) (fun i hi => by omega) (fun i k c hi => by omega) (fun i k c hi => by omega) (fun i k c hi => by omega)
 | trn sz f a => intros; exact .trn sz f a
 | trl sz es v h hz ih =>
  intro ht
  cases es with
  | cons e es => simp [AM.jf] at ht
  | nil => exact .trl sz [] v (ih (by simp [AM.jf])) hz
 | agg cs vs hl h1 _ ih =>
  intro ht
  exact .agg cs vs hl h1 fun k c u e e' => ih k c u e e' (jfL_get (by simpa [AM.jf] using ht) e)
 | tup cs vs hl _ ih =>
  intro ht
  exact .tup cs vs hl fun k c u e e' => ih k c u e e' (jfL_get (by simpa [AM.jf] using ht) e)
 | fn f a c va vc hla hlc _ _ iha ihc =>
  intro ht
  simp only [AM.jf, Bool.and_eq_true] at ht
  exact .fn f a c va vc hla hlc (fun k c u e e' => iha k c u e e' (jfL_get ht.1 e)) (fun k c u e e' => ihc k c u e e' (jfL_get ht.2 e))
 | nilf => intros; exact .nilf
 | nilm => intros; exact .nilm
 | mp b B h => intros; exact .mp b B h
theorem RB.arr_map {w : World} {I J : Nat -> Prop} {φ φ' : Phi} {B o sz : Nat} {m : Bool} {es es' : List (List AV)} (h : RB w I φ B o sz (.arr m sz es))
  (h1 : ∀ (i : Nat) cs, es'[i]? = some cs -> cs.length = sz)
  (h2 : ∀ (i : Nat) cs' (k : Nat) c', es'[i]? = some cs' -> cs'[k]? = some c' -> ∃ cs c, es[i]? = some cs /\ cs[k]? = some c /\ ∀ u, RV w I φ c u -> RV w J φ' c' u) : RB w J φ' B o sz (.arr m sz es') := by
 obtain ⟨_, a1, a2, a3⟩ := h
 refine ⟨rfl, a1, h1, fun i cs' k c' e e' => ?_⟩
 obtain ⟨cs, c, g1, g2, g3⟩ := h2 i cs' k c' e e'
 obtain ⟨u, b1, b2, b3⟩ := a3 i cs k c g1 g2
 exact ⟨u, b1, b2, g3 u b3⟩
theorem RB.seq_jf {w : World} {I : Nat -> Prop} {φ φ' : Phi} {B o sz s n : Nat} {m : Bool} {f : Nat -> List AV} (h : RB w I φ B o sz (.seq m s n f)) (J : Nat -> Prop)
  (hj : ∀ i, i < n -> jfL (f i) = true) : RB w J φ' B o sz (.seq m s n f) := by
 obtain ⟨a0, a1, a2, a3⟩ := h
 refine ⟨a0, a1, a2, fun i k c hi e => ?_⟩
 obtain ⟨u, b1, b2, b3⟩ := a3 i k c hi e
 exact ⟨u, b1, b2, b3.jf J (jfL_get (hj i hi) e)⟩
theorem RH.shrink {w : World} {I : Nat -> Prop} {φ : Phi} {rd : Nat -> BS} (h : RH w I φ rd) (L : List Nat) (rd' : Nat -> BS)
  (hL : ∀ b ∈ L, (rd b = .none \/ mutable (rd b) = true) /\ live (rd' b) = false)
  (hn : ∀ b, rd' b = .none -> rd b = .none)
  (hb : ∀ b, live (rd' b) = true -> mutable (rd b) = true /\ mutable (rd' b) = true /\ ∀ B o sz, φ b = some (B, o, sz) -> RB w I φ B o sz (rd b) -> RB w (InL φ L) φ B o sz (rd' b)) :
  RH w (InL φ L) φ rd' := by
 refine ⟨fun b e => h.none b (hn b e), fun b hl => ?_, fun b b' B o sz o' sz' hm hm' e e' => ?_, fun b B o sz hm e hB => ?_, fun b B o sz hl hm e => ?_, fun B hB => ?_⟩
 ·obtain ⟨g1, g2, g3⟩ := hb b hl
  obtain ⟨B, o, sz, e, r⟩ := h.blk b (live_of_mutable g1)
  exact ⟨B, o, sz, e, g3 B o sz e r⟩
 ·exact h.inj b b' B o sz o' sz' (hb b (live_of_mutable hm)).1 (hb b' (live_of_mutable hm')).1 e e'
 ·obtain ⟨b', hb', o', sz', e'⟩ := hB
  have hmb : mutable (rd b') = true := (hL b' hb').1.resolve_left fun hno => by rw [h.none b' hno] at e'; cases e'
  have := h.inj b b' B o sz o' sz' (hb b (live_of_mutable hm)).1 hmb e e'
  subst this
  have := (hL b hb').2
  rw [live_of_mutable hm] at this; cases this
 ·rw [(hb b hl).2.1] at hm; cases hm
 ·obtain ⟨b', hb', o', sz', e'⟩ := hB
  have hmb : mutable (rd b') = true := (hL b' hb').1.resolve_left fun hno => by rw [h.none b' hno] at e'; cases e'
  obtain ⟨B', o, sz, e, r⟩ := h.blk b' (live_of_mutable hmb)
  rw [e] at e'; cases e'
  exact r.lt (live_of_mutable hmb)
theorem RV.toTree {w : World} {I J : Nat -> Prop} {φ φ' : Phi} {sz b n cm m B o s : Nat} {mu : Bool} {f : Nat -> List AV} {u : Value} (h : RV w I φ (.sl sz b 0 n cm) u) (hn : 0 < n)
  (hφ : φ b = some (B, o, s)) (hs : s = sz) (hb : RB w I φ B o s (.seq mu s m f)) (hm : n <= m) (hJ : J B) (hj : ∀ i, i < n -> jfL (f i) = true) : RV w J φ' (.tr sz n f) u := by
 subst hs
 obtain ⟨_, _, a2, a3⟩ := hb
 cases h with
 | sle => exact absurd hn (Nat.lt_irrefl 0)
 | sl _ _ B' o' _ _ _ cap q h' hq hl hc hz =>
  rw [hφ] at h'; cases h'
  have hq : q = o := by simpa using hq
  subst hq
  have hz : q + cap * s <= csize w B := by simpa using hz
  have key : ∀ i k c, i < n -> (f i)[k]? = some c -> ∃ u, w.cell? ⟨B, q + i * s + k, none⟩ = some u /\ u.oneCell' = true /\ RV w J Phi.no c u := by
   intro i k c hi e
   obtain ⟨u, g1, g2, g3⟩ := a3 i k c (by omega) e
   exact ⟨u, g1, g2, g3.jf J (jfL_get (hj i hi) e)⟩
  refine .tr s n f B q cap (fun i k => (w.cell? ⟨B, q + i * s + k, none⟩).getD Go.undef) (fun _ => hJ) hl (fun _ => hz) (fun i hi => a2 i (by omega)) (fun i k c hi e => ?_) (fun i k c hi e => ?_) (fun i k c hi e => ?_)
  ·obtain ⟨u, g1, g2, g3⟩ := key i k c hi e; rw [g1]; rfl
  ·obtain ⟨u, g1, g2, g3⟩ := key i k c hi e; rw [g1]; exact g2
  ·obtain ⟨u, g1, g2, g3⟩ := key i k c hi e; rw [g1]; exact g3
theorem RV.thaw {w0 w : World} {M : Nat -> Prop} {J : Nat -> Prop} {φ : Phi} {sz n : Nat} {f : Nat -> List AV} {u : Value} (h : RV w J φ (.tr sz n f) u) (hn : 0 < n) (hsz : 0 < sz) (hext : Ext M w0 w)
  (hJ : ∀ B, J B -> w0.heap.size <= B) (hj : ∀ i, i < n -> jfL (f i) = true) :
  ∃ B o, J B /\ ∀ (φ' : Phi) (b : Nat) (J' : Nat -> Prop), φ' b = some (B, o, sz) -> RV w J' φ' (.sl sz b 0 n 0) u /\ RB w J' φ' B o sz (.seq true sz n f) := by
 cases h with
 | trn => exact absurd hn (Nat.lt_irrefl 0)
 | tr _ _ _ B o cap uf hI hl hcp hlen hc h1 hr =>
  refine ⟨B, o, hI hn, fun φ' b J' hb => ⟨.sl sz b B o 0 n 0 cap o hb (by omega) hl (Nat.zero_le _) (by simpa using hcp hn), rfl, ?_, hlen, fun i k c hi e => ⟨uf i k, hc i k c hi e, h1 i k c hi e, ?_⟩⟩⟩
  ·have hlt : w0.heap.size <= B := hJ B (hI hn)
   have hf0 := hlen 0 hn
   have h0 := hc 0 0 ((f 0)[0]'(by omega)) hn (List.getElem?_eq_getElem (by omega))
   unfold World.cell? at h0
   split at h0
   ·rename_i c e fz hh
    simp only at hh
    obtain ⟨t1, t2⟩ := hext.fresh B c e fz hlt hh
    refine ⟨c, e, fz, hh, fun _ => ⟨t1, .inr (t2.resolve_left (by omega))⟩⟩
   ·cases h0
  ·have := (hr i k c hi e).jf J' (jfL_get (hj i hi) e)
   exact this.mono (fun B hB => ⟨hB, rfl⟩) (fun _ => Nat.le_refl _) (Phi.no_le _)
theorem leads_of {P : Program} {env : Env} {run : CallK St} {fn nt n base : Nat} (henv : EnvOk P env) (hrun : RunOk P run) (hm : P.follows .mixedOrders = true) {c : Code} {cur : Nat} {s s' : St} (hok : okCode c = true)
  (h : evC env run fn nt n base cur c (fun e s => match e with | .normal => some s | _ => none) s = some s') : Leads (fun Q => c.wp P Q) nt base s .normal s' := by
 obtain ⟨e, s1, h1, h2⟩ := evC_ok henv hrun hm hok h
 cases e with
 | normal => cases h1; exact h2
 | exit id => cases h1
 | goto l => cases h1
 | ret => cases h1
def selS (l : List Nat) (s : St) : St := { fr := l.map fun t => (t, fget s.fr t), hp := s.hp }
def kSel (l : List Nat) (e : AX) (s : St) : Option St := match e with
 | .normal => some (selS l s)
 | _ => none
theorem fget_sel (s : St) (t : Nat) : ∀ l : List Nat, fget (l.map fun t => (t, fget s.fr t)) t = fget s.fr t \/ fget (l.map fun t => (t, fget s.fr t)) t = .undef
 | [] => .inr rfl
 | x :: l => by
  simp only [List.map_cons, fget]
  cases h : Nat.beq x t with
  | true => have := Nat.eq_of_beq_eq_true h; subst this; exact .inl rfl
  | false => exact fget_sel s t l
theorem StOk.sel {w : World} {I : Nat -> Prop} {φ : Phi} {s : St} {a : Act} (h : StOk w I φ s a) (l : List Nat) : StOk w I φ (selS l s) a :=
 ⟨h.hh, fun t => by
  rcases fget_sel s t l with e | e
  ·show RV w I φ (fget (l.map fun t => (t, fget s.fr t)) t) _
   rw [e]; exact h.fr t
  ·show RV w I φ (fget (l.map fun t => (t, fget s.fr t)) t) _
   rw [e]; exact .undef _⟩
theorem leads_sel {P : Program} {env : Env} {run : CallK St} {fn nt n base : Nat} (henv : EnvOk P env) (hrun : RunOk P run) (hm : P.follows .mixedOrders = true) {c : Code} {cur : Nat} {s s' : St} {l : List Nat} (hok : okCode c = true)
  (h : evC env run fn nt n base cur c (kSel l) s = some s') : Leads (fun Q => c.wp P Q) nt base s .normal s' := by
 obtain ⟨e, s1, h1, h2⟩ := evC_ok henv hrun hm hok h
 cases e with
 | normal =>
  have h1 : selS l s1 = s' := Option.some.inj h1
  subst h1
  intro hb
  obtain ⟨g1, g2⟩ := h2 hb
  exact ⟨g1, fun w I φ a hs ha Q hQ => g2 w I φ a hs ha Q fun a' w' φ' I' c1 c2 c3 c4 => hQ a' w' φ' I' c1 c2 (c3.sel l) c4⟩
 | exit id => cases h1
 | goto l => cases h1
 | ret => cases h1
theorem body_rest {P : Program} {env : Env} {run : CallK (AV × Heap)} {f n : Nat} {fn : Func} {r : AV} {h : Heap} (henv : EnvOk P env) (hrun : RunOk P run) (hm : P.follows .mixedOrders = true) {c : Code} (hok : okCode c = true) {S : St}
  {mk : AV -> AV} (hmk : ∀ w I φ v u, RV w I φ v u -> RV w I φ (mk v) u) {env0 : Env} (htt : TTok P env0.tt)
  (e : evC env run f fn.ntmps n 0 0 c (endK env0 fn (fun r h => hnK 0 (mk r) h)) S = some (r, h)) {w : World} {I : Nat -> Prop} {φ : Phi} {a : Act} (hs : StOk w I φ S a) (ha : fn.ntmps <= a.tmps.size) (hd : a.defers = []) :
  c.wp P (bodyPost P fn fun e w' => ∃ u, e = .returned u /\ ∃ φ' I', RV w' I' φ' r u /\ RH w' I' φ' (hget h) /\ Step 0 (hget S.hp) φ I w (hget h) φ' I' w') a w := by
 obtain ⟨ex, s', h1, h2⟩ := evC_ok henv hrun hm hok e
 obtain ⟨g1, g2⟩ := h2 (Nat.zero_le _)
 have key : (ex = .normal \/ ex = .ret) /\ resultsK env0.tt s' fn.results.toList (fun vs => hnK 0 (mk (tupled vs)) s'.hp) = some (r, h) := by
  cases ex with
  | normal => exact ⟨.inl rfl, h1⟩
  | ret => exact ⟨.inr rfl, h1⟩
  | exit id => cases h1
  | goto l => cases h1
 obtain ⟨he, h3⟩ := key
 obtain ⟨vs, h4, h5⟩ := results_ok htt _ _ h3
 refine g2 w I φ a hs ha _ fun a' w' φ' I' c1 c2 c3 c4 => ?_
 obtain ⟨us, d1, d2, d3⟩ := h5 w' I' φ' a' c3
 have hres : (results fn a'.tmps).run P w' = .ok (if h : us.toArray.size = 1 then us.toArray[0] else .tuple us.toArray) w' := by
  unfold results
  rw [Array.mapM_eq_mapM_toList]
  simp only [map_eq_pure_bind, bind_assoc, pure_bind, Sem.run_bind]
  exact (congrArg (fun (x : Result (List Value)) => x.andThen fun us w => (pure (if h : us.toArray.size = 1 then us.toArray[0] else Value.tuple us.toArray) : Sem Value).run P w) d1)
 have hval : RV w' I' φ' (tupled vs) (if h : us.toArray.size = 1 then us.toArray[0] else .tuple us.toArray) := by
  have htup : us.length ≠ 1 -> RV w' I' φ' (.tup vs) (if h : us.toArray.size = 1 then us.toArray[0] else .tuple us.toArray) := by
   intro hne
   rw [dif_neg (by simpa using hne)]
   exact .tup _ _ (by simpa using d2) fun i x u e e' => d3 i x u e (by simpa using e')
  cases vs with
  | nil => exact htup (by simp at d2; omega)
  | cons v l =>
   cases l with
   | nil =>
    cases us with
    | nil => simp at d2
    | cons u us =>
     cases us with
     | nil => exact d3 0 v u rfl rfl
     | cons u' us => simp at d2
   | cons v' l => exact htup (by simp at d2; omega)
 have hfin : bodyPost P fn (fun e w' => ∃ u, e = .returned u /\ ∃ φ' I', RV w' I' φ' r u /\ RH w' I' φ' (hget h) /\ Step 0 (hget S.hp) φ I w (hget h) φ' I' w') .normal a' w' := by
  refine ⟨c2.trans hd, _, hres, _, rfl, ?_⟩
  have hso : StOk w' I' φ' { fr := [(0, mk (tupled vs))], hp := s'.hp } { tmps := #[if h : us.toArray.size = 1 then us.toArray[0] else .tuple us.toArray], defers := [] } := by
   refine ⟨c3.hh, fun t => ?_⟩
   cases t with
   | zero => exact hmk _ _ _ _ _ hval
   | succ t => exact .undef _
  obtain ⟨_, φ2, n2, n3⟩ := norm_ok 0 [0] hso (Nat.zero_le _)
  cases h4
  exact ⟨φ2, I', n2.fr 0, n2.hh, c4.trans n3⟩
 rcases he with rfl | rfl
 ·exact hfin
 ·exact hfin
def NewC (P : Program) (f : Nat) (args : List AV) (r : AV) (h : Heap) : Prop :=
 ∀ (w : World) (I : Nat -> Prop) (ra : Array Value), (∀ B, I B -> B < w.heap.size) -> RVs w I Phi.no args ra ->
  Ans P f ra w fun u w' => ∃ φ' J, RV w' J φ' r u /\ RH w' J φ' (hget h) /\ (∀ B, J B -> w.heap.size <= B) /\ (∀ B, Mut φ' (hget h) B -> w.heap.size <= B) /\ Ext (fun _ => False) w w'
def Shr (S2 S3 : St) : Prop := ∀ (w0 w : World) (I : Nat -> Prop) (φ : Phi) (a : Act), StOk w I φ S2 a -> (∀ B, Mut φ (hget S2.hp) B -> w0.heap.size <= B) ->
 ∃ J φ', StOk w J φ' S3 a /\ (∀ B, J B -> w0.heap.size <= B) /\ ∀ B, Mut φ' (hget S3.hp) B -> w0.heap.size <= B
theorem bodyOf_some {env : Env} {f : Nat} {a b : Code} (h : bodyOf env f = .seq a b) : ∃ fn, env.code f = some fn /\ fn.body = some (.seq a b) /\ ntOf env f = fn.ntmps := by
 unfold bodyOf at h
 cases hf : env.code f with
 | none => rw [hf] at h; cases h
 | some fn =>
  rw [hf] at h
  simp only at h
  cases hb : fn.body with
  | none => rw [hb] at h; cases h
  | some c =>
   rw [hb] at h
   simp only at h
   subst h
   exact ⟨fn, rfl, hb, by unfold ntOf; rw [hf]⟩
theorem bodyPost_mono {P : Program} {fn : Func} {R R' : Ending -> World -> Prop} (h : ∀ e w, R e w -> R' e w) {ex : Exit} {a : Act} {w : World} (hb : bodyPost P fn R ex a w) : bodyPost P fn R' ex a w := by
 cases ex <;> first | exact hb | (obtain ⟨h1, v, h2, h3⟩ := hb; exact ⟨h1, v, h2, h _ _ h3⟩) | (obtain ⟨h1, h2⟩ := hb; exact ⟨h1, h _ _ h2⟩) | exact h _ _ hb
theorem cut_new {P : Program} {env0 env2 : Env} (hm : P.follows .mixedOrders = true) (hcode : CodeOk P env0) {f nt n : Nat} {c0 c1 c2 : Code} (hb : bodyOf env0 f = .seq c0 (.seq c1 c2)) (hnt : ntOf env0 f = nt)
  {args : List AV} {S1 S2 S3 : St} (L0 : Leads (fun Q => c0.wp P Q) nt 0 { fr := mkFrame 0 args, hp := [] } .normal S1) (L1 : Leads (fun Q => c1.wp P Q) nt 0 S1 .normal S2) (hS : Shr S2 S3)
  (henv0 : EnvOk P env0) (henv2 : EnvOk P env2) (htt : env0.tt = env2.tt) {run : CallK (AV × Heap)} (hrun : RunOk P run) {mk : AV -> AV} (hmk : ∀ w I φ v u, RV w I φ v u -> RV w I φ (mk v) u) {r : AV} {h : Heap}
  (e : evC env2 run f nt n 0 0 c2 (finK env0 f fun r h => hnK 0 (mk r) h) S3 = some (r, h)) : NewC P f args r h := by
 obtain ⟨fn, hf, hbd, hn⟩ := bodyOf_some hb
 rw [hn] at hnt
 subst hnt
 obtain ⟨hfn, hbody, hname, hok⟩ := hcode f fn hf
 have hok := hok _ hbd
 obtain ⟨ok0, ok12⟩ := and_true' (show (okCode c0 && okCode (.seq c1 c2)) = true from hok)
 obtain ⟨ok1, ok2⟩ := and_true' (show (okCode c1 && okCode c2) = true from ok12)
 intro w I ra hI hx
 refine .inl ⟨?_, calls_of_wp hfn hbd ?_⟩
 ·simp only [callFunc, Sem.run_bind, run_program, Result.andThen_ok, hfn, hname, hbody, Bool.false_eq_true, if_false, Sem.run_pure]
 ·have hst : StOk w I Phi.no { fr := mkFrame 0 args, hp := [] } { tmps := ra ++ Array.replicate (fn.ntmps - ra.size) undef, defers := [] } := ⟨RH.empty w I hI, frame_ok hx _⟩
  have hnm : ∀ {φ : Phi} {B : Nat}, ¬ Mut φ (hget []) B := fun h => not_mut_nil h
  refine wp_seq ((L0 (Nat.zero_le _)).2 w I Phi.no _ hst (by simp; omega) _ fun a1 w1 φ1 I1 p1 p2 p3 p4 => ?_)
  refine wp_seq ((L1 (Nat.zero_le _)).2 w1 I1 φ1 a1 p3 p1 _ fun a2 w2 φ2 I2 q1 q2 q3 q4 => ?_)
  have st := p4.trans q4
  obtain ⟨J, φ3, s1, s2, s3⟩ := hS w w2 I2 φ2 a2 q3 fun B hB => (st.mt B hB).resolve_left hnm
  have e' : evC env2 run f fn.ntmps n 0 0 c2 (endK env0 fn fun r h => hnK 0 (mk r) h) S3 = some (r, h) := by
   have : (finK env0 f fun r h => hnK 0 (mk r) h) = endK env0 fn fun r h => hnK 0 (mk r) h := by
    funext e s; unfold finK; rw [hf]
   rw [<- this]; exact e
  have hr := body_rest henv2 hrun hm ok2 hmk henv0.tt e' s1 q1 (q2.trans p2)
  have key : ∀ (e : Ending) (w' : World), (∃ u, e = .returned u /\ ∃ φ' I', RV w' I' φ' r u /\ RH w' I' φ' (hget h) /\ Step 0 (hget S3.hp) φ3 J w2 (hget h) φ' I' w') ->
    ∃ u, e = .returned u /\ ∃ φ' J, RV w' J φ' r u /\ RH w' J φ' (hget h) /\ (∀ B, J B -> w.heap.size <= B) /\ (∀ B, Mut φ' (hget h) B -> w.heap.size <= B) /\ Ext (fun _ => False) w w' := by
   rintro e w' ⟨u, he, φ', I', a1, a2, a3⟩
   have hsz := st.ext.size
   refine ⟨u, he, φ', I', a1, a2, fun B hB => ?_, fun B hB => ?_, ?_⟩
   ·rcases a3.Inew B hB with x | x | x
    ·exact s2 B x
    ·exact s3 B x
    ·omega
   ·rcases a3.mt B hB with x | x
    ·exact s3 B x
    ·omega
   ·exact (st.ext.weaken fun B h => hnm h).trans a3.ext fun B hB => .inr (s3 B hB)
  exact Code.wp_mono (fun ex a' w' hq => bodyPost_mono key hq) hr
end Go.AM
end
noncomputable section
namespace Go.Md
open Go.AM
structure Ver where
 re : Nat
 im : Nat
deriving DecidableEq, Inhabited
def encBool (b : Bool) : List AV := [.bool b]
def decBool (cs : List AV) : Bool := getB cs 0
def encBools (l : List Bool) : AV := encL 1 encBool default l
theorem decBools (l : List Bool) : decL decBool (encBools l) = l := decL_encL (fun _ => rfl) l
structure Member where
 node : Int
 boot : Int
deriving DecidableEq, Inhabited
def encMember (x : Member) : List AV := [.int .i64 x.node, .int .i64 x.boot]
def decMember (cs : List AV) : Member := ⟨getI cs 0, getI cs 1⟩
theorem dec_encMember (x : Member) : decMember (encMember x) = x := rfl
def encMembers (l : List Member) : AV := encL 2 encMember default l
theorem decMembers (l : List Member) : decL decMember (encMembers l) = l := decL_encL dec_encMember l
structure Entry where
 ver : Ver
 kind : Int
 key : List UInt8
 val : List UInt8
 write : Bool
 del : Bool
 sess : Int
 num : Int
 code : Int
 res : List UInt8
 hasRes : Bool
deriving DecidableEq, Inhabited
def encEntry (x : Entry) : List AV := [.cplx .f64 x.ver.re x.ver.im, .int .i64 x.kind, .str x.key, .str x.val, .bool x.write, .bool x.del, .int .i64 x.sess, .int .i64 x.num, .int .i64 x.code, .str x.res, .bool x.hasRes]
def decEntry (cs : List AV) : Entry := ⟨⟨(getC cs 0).1, (getC cs 0).2⟩, getI cs 1, getS cs 2, getS cs 3, getB cs 4, getB cs 5, getI cs 6, getI cs 7, getI cs 8, getS cs 9, getB cs 10⟩
theorem dec_encEntry (x : Entry) : decEntry (encEntry x) = x := rfl
def encEntrys (l : List Entry) : AV := encL 11 encEntry default l
theorem decEntrys (l : List Entry) : decL decEntry (encEntrys l) = l := decL_encL dec_encEntry l
structure Seen where
 sess : Int
 num : Int
 ver : Ver
 kind : Int
 code : Int
 res : List UInt8
 hasRes : Bool
deriving DecidableEq, Inhabited
def encSeen (x : Seen) : List AV := [.int .i64 x.sess, .int .i64 x.num, .cplx .f64 x.ver.re x.ver.im, .int .i64 x.kind, .int .i64 x.code, .str x.res, .bool x.hasRes]
def decSeen (cs : List AV) : Seen := ⟨getI cs 0, getI cs 1, ⟨(getC cs 2).1, (getC cs 2).2⟩, getI cs 3, getI cs 4, getS cs 5, getB cs 6⟩
theorem dec_encSeen (x : Seen) : decSeen (encSeen x) = x := rfl
def encSeens (l : List Seen) : AV := encL 7 encSeen default l
theorem decSeens (l : List Seen) : decL decSeen (encSeens l) = l := decL_encL dec_encSeen l
structure View where
 shard : Int
 epoch : Int
 gen : Int
 phase : Int
 chain : List Member
deriving DecidableEq, Inhabited
def encView (x : View) : List AV := [.int .i64 x.shard, .int .i64 x.epoch, .int .i64 x.gen, .int .i64 x.phase, encMembers x.chain]
def decView (cs : List AV) : View := ⟨getI cs 0, getI cs 1, getI cs 2, getI cs 3, getL decMember cs 4⟩
theorem dec_encView (x : View) : decView (encView x) = x := by
 show (⟨x.shard, x.epoch, x.gen, x.phase, decL decMember (encMembers x.chain)⟩ : View) = x
 rw [decMembers]
def encViews (l : List View) : AV := encL 5 encView default l
theorem decViews (l : List View) : decL decView (encViews l) = l := decL_encL dec_encView l
structure Tail where
 floor : Ver
 last : Ver
 log : List Entry
deriving DecidableEq, Inhabited
def encTail (x : Tail) : List AV := [.cplx .f64 x.floor.re x.floor.im, .cplx .f64 x.last.re x.last.im, encEntrys x.log]
def decTail (cs : List AV) : Tail := ⟨⟨(getC cs 0).1, (getC cs 0).2⟩, ⟨(getC cs 1).1, (getC cs 1).2⟩, getL decEntry cs 2⟩
theorem dec_encTail (x : Tail) : decTail (encTail x) = x := by
 show (⟨⟨x.floor.re, x.floor.im⟩, ⟨x.last.re, x.last.im⟩, decL decEntry (encEntrys x.log)⟩ : Tail) = x
 rw [decEntrys]
structure Op where
 kind : Int
 key : List UInt8
 val : List UInt8
 old : List UInt8
 hasOld : Bool
deriving DecidableEq, Inhabited
structure Image where
 floor : Ver
 last : Ver
 gen : Int
 log : List Entry
 seen : List Seen
deriving DecidableEq, Inhabited
structure Msg where
 kind : Int
 src : Int
 dst : Int
 boot : Int
 sboot : Int
 shard : Int
 epoch : Int
 gen : Int
 sess : Int
 num : Int
 a : Int
 code : Int
 has : Bool
 fresh : Bool
 key : List UInt8
 val : List UInt8
 ver : Ver
 floor : Ver
 op : Op
 entries : List Entry
 chain : List Member
 views : List View
 image : Image
deriving DecidableEq, Inhabited
def encMsg (x : Msg) : List AV := [.int .i64 x.kind, .int .i64 x.src, .int .i64 x.dst, .int .i64 x.boot, .int .i64 x.sboot, .int .i64 x.shard, .int .i64 x.epoch, .int .i64 x.gen, .int .i64 x.sess, .int .i64 x.num, .int .i64 x.a, .int .i64 x.code, .bool x.has, .bool x.fresh, .str x.key, .str x.val, .cplx .f64 x.ver.re x.ver.im, .cplx .f64 x.floor.re x.floor.im, .int .i64 x.op.kind, .str x.op.key, .str x.op.val, .str x.op.old, .bool x.op.hasOld, encEntrys x.entries, encMembers x.chain, encViews x.views, .cplx .f64 x.image.floor.re x.image.floor.im, .cplx .f64 x.image.last.re x.image.last.im, .int .i64 x.image.gen, encEntrys x.image.log, encSeens x.image.seen]
def decMsg (cs : List AV) : Msg := ⟨getI cs 0, getI cs 1, getI cs 2, getI cs 3, getI cs 4, getI cs 5, getI cs 6, getI cs 7, getI cs 8, getI cs 9, getI cs 10, getI cs 11, getB cs 12, getB cs 13, getS cs 14, getS cs 15, ⟨(getC cs 16).1, (getC cs 16).2⟩, ⟨(getC cs 17).1, (getC cs 17).2⟩, ⟨getI cs 18, getS cs 19, getS cs 20, getS cs 21, getB cs 22⟩, getL decEntry cs 23, getL decMember cs 24, getL decView cs 25, ⟨⟨(getC cs 26).1, (getC cs 26).2⟩, ⟨(getC cs 27).1, (getC cs 27).2⟩, getI cs 28, getL decEntry cs 29, getL decSeen cs 30⟩⟩
theorem dec_encMsg (x : Msg) : decMsg (encMsg x) = x := by
 show (⟨x.kind, x.src, x.dst, x.boot, x.sboot, x.shard, x.epoch, x.gen, x.sess, x.num, x.a, x.code, x.has, x.fresh, x.key, x.val, ⟨x.ver.re, x.ver.im⟩, ⟨x.floor.re, x.floor.im⟩, ⟨x.op.kind, x.op.key, x.op.val, x.op.old, x.op.hasOld⟩, decL decEntry (encEntrys x.entries), decL decMember (encMembers x.chain), decL decView (encViews x.views), ⟨⟨x.image.floor.re, x.image.floor.im⟩, ⟨x.image.last.re, x.image.last.im⟩, x.image.gen, decL decEntry (encEntrys x.image.log), decL decSeen (encSeens x.image.seen)⟩⟩ : Msg) = x
 simp only [decEntrys, decMembers, decViews, decSeens]
def encMsgs (l : List Msg) : AV := encL 31 encMsg default l
theorem decMsgs (l : List Msg) : decL decMsg (encMsgs l) = l := decL_encL dec_encMsg l
structure Rep where
 shard : Int
 self : Member
 view : View
 frozen : Int
 tail : Tail
 seen : List Seen
 got : Ver
 synced : List Bool
deriving DecidableEq, Inhabited
def encRep (x : Rep) : List AV := [.int .i64 x.shard, .int .i64 x.self.node, .int .i64 x.self.boot, .int .i64 x.view.shard, .int .i64 x.view.epoch, .int .i64 x.view.gen, .int .i64 x.view.phase, encMembers x.view.chain, .int .i64 x.frozen, .cplx .f64 x.tail.floor.re x.tail.floor.im, .cplx .f64 x.tail.last.re x.tail.last.im, encEntrys x.tail.log, encSeens x.seen, .cplx .f64 x.got.re x.got.im, encBools x.synced]
def decRep (cs : List AV) : Rep := ⟨getI cs 0, ⟨getI cs 1, getI cs 2⟩, ⟨getI cs 3, getI cs 4, getI cs 5, getI cs 6, getL decMember cs 7⟩, getI cs 8, ⟨⟨(getC cs 9).1, (getC cs 9).2⟩, ⟨(getC cs 10).1, (getC cs 10).2⟩, getL decEntry cs 11⟩, getL decSeen cs 12, ⟨(getC cs 13).1, (getC cs 13).2⟩, getL decBool cs 14⟩
theorem dec_encRep (x : Rep) : decRep (encRep x) = x := by
 show (⟨x.shard, ⟨x.self.node, x.self.boot⟩, ⟨x.view.shard, x.view.epoch, x.view.gen, x.view.phase, decL decMember (encMembers x.view.chain)⟩, x.frozen, ⟨⟨x.tail.floor.re, x.tail.floor.im⟩, ⟨x.tail.last.re, x.tail.last.im⟩, decL decEntry (encEntrys x.tail.log)⟩, decL decSeen (encSeens x.seen), ⟨x.got.re, x.got.im⟩, decL decBool (encBools x.synced)⟩ : Rep) = x
 rw [decMembers, decEntrys, decSeens, decBools]
def encReps (l : List Rep) : AV := encL 15 encRep default l
theorem decReps (l : List Rep) : decL decRep (encReps l) = l := decL_encL dec_encRep l
structure Plan where
 epoch : Int
 gen : Int
 phase : Int
 fresh : Bool
 base : Int
 reset : Int
 chain : List Member
 valid : List Member
deriving DecidableEq, Inhabited
def encPlan (x : Plan) : List AV := [.int .i64 x.epoch, .int .i64 x.gen, .int .i64 x.phase, .bool x.fresh, .int .i64 x.base, .int .i64 x.reset, encMembers x.chain, encMembers x.valid]
def decPlan (cs : List AV) : Plan := ⟨getI cs 0, getI cs 1, getI cs 2, getB cs 3, getI cs 4, getI cs 5, getL decMember cs 6, getL decMember cs 7⟩
theorem dec_encPlan (x : Plan) : decPlan (encPlan x) = x := by
 show (⟨x.epoch, x.gen, x.phase, x.fresh, x.base, x.reset, decL decMember (encMembers x.chain), decL decMember (encMembers x.valid)⟩ : Plan) = x
 simp only [decMembers]
def encPlans (l : List Plan) : AV := encL 8 encPlan default l
theorem decPlans (l : List Plan) : decL decPlan (encPlans l) = l := decL_encL dec_encPlan l
structure Book where
 sess : Int
 gen : Int
 shards : List Plan
deriving DecidableEq, Inhabited
structure Alive where
 member : Member
 missed : Int
deriving DecidableEq, Inhabited
def encAlive (x : Alive) : List AV := [.int .i64 x.member.node, .int .i64 x.member.boot, .int .i64 x.missed]
def decAlive (cs : List AV) : Alive := ⟨⟨getI cs 0, getI cs 1⟩, getI cs 2⟩
theorem dec_encAlive (x : Alive) : decAlive (encAlive x) = x := rfl
def encAlives (l : List Alive) : AV := encL 3 encAlive default l
theorem decAlives (l : List Alive) : decL decAlive (encAlives l) = l := decL_encL dec_encAlive l
structure Work where
 fenced : Bool
 keep : List Member
 froze : List Msg
 heard : Bool
deriving DecidableEq, Inhabited
def encWork (x : Work) : List AV := [.bool x.fenced, encMembers x.keep, encMsgs x.froze, .bool x.heard]
def decWork (cs : List AV) : Work := ⟨getB cs 0, getL decMember cs 1, getL decMsg cs 2, getB cs 3⟩
theorem dec_encWork (x : Work) : decWork (encWork x) = x := by
 show (⟨x.fenced, decL decMember (encMembers x.keep), decL decMsg (encMsgs x.froze), x.heard⟩ : Work) = x
 rw [decMembers, decMsgs]
def encWorks (l : List Work) : AV := encL 4 encWork default l
theorem decWorks (l : List Work) : decL decWork (encWorks l) = l := decL_encL dec_encWork l
structure Bureau where
 book : Book
 nodes : List Alive
 work : List Work
 opens : List Msg
 asks : List Msg
deriving DecidableEq, Inhabited
def encBureau (x : Bureau) : List AV := [.int .i64 x.book.sess, .int .i64 x.book.gen, encPlans x.book.shards, encAlives x.nodes, encWorks x.work, encMsgs x.opens, encMsgs x.asks]
def decBureau (cs : List AV) : Bureau := ⟨⟨getI cs 0, getI cs 1, getL decPlan cs 2⟩, getL decAlive cs 3, getL decWork cs 4, getL decMsg cs 5, getL decMsg cs 6⟩
theorem dec_encBureau (x : Bureau) : decBureau (encBureau x) = x := by
 show (⟨⟨x.book.sess, x.book.gen, decL decPlan (encPlans x.book.shards)⟩, decL decAlive (encAlives x.nodes), decL decWork (encWorks x.work), decL decMsg (encMsgs x.opens), decL decMsg (encMsgs x.asks)⟩ : Bureau) = x
 simp only [decPlans, decAlives, decWorks, decMsgs]
end Go.Md
end
noncomputable section
namespace Go.Fl
open Ieee
def fl (n : Nat) : Nat := double.nearest false n 0
theorem log2_mul_pow {n : Nat} (h : n ≠ 0) (s : Nat) : (n * 2 ^ s).log2 = n.log2 + s := by
 have h1 := (Nat.le_log2 h).1 (Nat.le_refl _)
 have h2 : n < 2 ^ (n.log2 + 1) := Nat.lt_log2_self
 have hne : n * 2 ^ s ≠ 0 := Nat.mul_ne_zero h (by simp)
 apply Nat.le_antisymm
 ·refine Nat.lt_succ_iff.1 ((Nat.log2_lt hne).2 ?_)
  calc n * 2 ^ s < 2 ^ (n.log2 + 1) * 2 ^ s := Nat.mul_lt_mul_of_pos_right h2 (Nat.two_pow_pos s)
   _ = 2 ^ (n.log2 + s + 1) := by rw [<- Nat.pow_add]; congr 1; omega
 ·refine (Nat.le_log2 hne).2 ?_
  rw [Nat.pow_add]; exact Nat.mul_le_mul_right _ h1
theorem cut_even (n d : Nat) : Toward.even.cut false (n * 2 ^ d) d = n := by
 unfold Toward.cut
 by_cases h : n = 0
 ·subst h; simp
 ·have hm : min d ((n * 2 ^ d).log2 + 2) = d := by rw [log2_mul_pow h]; omega
  simp only [hm, Nat.one_shiftLeft]
  have h1 : n * 2 ^ d / 2 ^ d = n := Nat.mul_div_cancel _ (Nat.two_pow_pos d)
  have h2 : n * 2 ^ d % 2 ^ d = 0 := Nat.mul_mod_left n (2 ^ d)
  rw [h1, h2]
  have : (2 ^ d == 0) = false := by simp
  simp [this]
theorem cut_zero (n d : Nat) : Toward.zero.cut false (n * 2 ^ d) d = n := by
 unfold Toward.cut
 by_cases h : n = 0
 ·subst h; simp
 ·have hm : min d ((n * 2 ^ d).log2 + 2) = d := by rw [log2_mul_pow h]; omega
  simp only [hm, Nat.one_shiftLeft]
  rw [Nat.mul_div_cancel _ (Nat.two_pow_pos d)]
  simp
theorem log2_lt53 {n : Nat} (h : n ≠ 0) (hn : n < 2 ^ 53) : n.log2 <= 52 := by
 have := (Nat.log2_lt h).2 hn
 omega
theorem nearest_up {n : Nat} (h : n ≠ 0) (hn : n < 2 ^ 53) {u : Nat} (hu : u <= 1074) :
  double.nearest false (n * 2 ^ u) (-(u : Int)) = (n.log2 + 1022) * 2 ^ 52 + n * 2 ^ (52 - n.log2) := by
 have hl := log2_lt53 h hn
 unfold Format.nearest
 have hne : n * 2 ^ u ≠ 0 := Nat.mul_ne_zero h (by simp)
 have hlp : double.leastPlace = -1074 := by decide
 have hfb : double.fractionBits = 52 := rfl
 have hbi : double.binade = 2 ^ 52 := rfl
 rw [if_neg hne, log2_mul_pow h, hlp, hfb, hbi]
 have hlast : max (-(u : Int) + ((n.log2 + u : Nat) : Int) - (52 : Nat)) (-1074) = (n.log2 : Int) - 52 := by omega
 simp only [hlast]
 have hk : Toward.even.cut false ((n * 2 ^ u) <<< (-(u : Int) - ((n.log2 : Int) - 52)).toNat) ((n.log2 : Int) - 52 - -(u : Int)).toNat = n * 2 ^ (52 - n.log2) := by
  rcases Nat.le_total u (52 - n.log2) with hc | hc
  ·have e1 : (-(u : Int) - ((n.log2 : Int) - 52)).toNat = 52 - n.log2 - u := by omega
   have e2 : ((n.log2 : Int) - 52 - -(u : Int)).toNat = 0 := by omega
   rw [e1, e2, Nat.shiftLeft_eq, Nat.mul_assoc, <- Nat.pow_add, show u + (52 - n.log2 - u) = 52 - n.log2 by omega]
   have := cut_even (n * 2 ^ (52 - n.log2)) 0
   simpa using this
  ·have e1 : (-(u : Int) - ((n.log2 : Int) - 52)).toNat = 0 := by omega
   have e2 : ((n.log2 : Int) - 52 - -(u : Int)).toNat = u - (52 - n.log2) := by omega
   rw [e1, e2]
   have e3 : (n * 2 ^ u) <<< 0 = n * 2 ^ (52 - n.log2) * 2 ^ (u - (52 - n.log2)) := by
    rw [Nat.shiftLeft_zero, Nat.mul_assoc, <- Nat.pow_add, show 52 - n.log2 + (u - (52 - n.log2)) = u by omega]
   rw [e3, cut_even]
 rw [hk]
 have e4 : ((n.log2 : Int) - 52 - -1074).toNat = n.log2 + 1022 := by omega
 rw [e4]
 have hinf : double.infRung = 2047 * 2 ^ 52 := by decide
 rw [hinf]
 have hlt : n * 2 ^ (52 - n.log2) < 2 ^ 53 := by
  calc n * 2 ^ (52 - n.log2) < 2 ^ (n.log2 + 1) * 2 ^ (52 - n.log2) := Nat.mul_lt_mul_of_pos_right Nat.lt_log2_self (Nat.two_pow_pos _)
   _ = 2 ^ 53 := by rw [<- Nat.pow_add]; congr 1; omega
 have : (n.log2 + 1022) * 2 ^ 52 + n * 2 ^ (52 - n.log2) <= 2047 * 2 ^ 52 := by omega
 rw [Nat.min_eq_left this]
 rfl
theorem nearest_zero (u : Int) : double.nearest false 0 u = 0 := by simp [Format.nearest, Format.word]
theorem nearest_fl {n : Nat} (hn : n < 2 ^ 53) {u : Nat} (hu : u <= 1074) : double.nearest false (n * 2 ^ u) (-(u : Int)) = fl n := by
 by_cases h : n = 0
 ·subst h; simp [fl, nearest_zero]
 ·rw [nearest_up h hn hu]
  have := nearest_up h hn (u := 0) (by omega)
  simp at this
  exact this.symm
set_option maxRecDepth 100000 in
theorem read_fl {n : Nat} (hn : n < 2 ^ 53) : ∃ s : Nat, s <= 1074 /\ double.read (fl n) = .number false (n * 2 ^ s) (-(s : Int)) := by
 have hlp : double.leastPlace = -1074 := by decide
 have hbi : double.binade = 2 ^ 52 := rfl
 have hsw : double.signWeight = 2 ^ 63 := rfl
 have hinf : double.infRung = 2047 * 2 ^ 52 := by decide
 by_cases h : n = 0
 ·subst h
  have h0 : ∀ s : Nat, s = 1074 -> double.read (fl 0) = .number false (0 * 2 ^ s) (-(s : Int)) := by
   intro s hs
   rw [Nat.zero_mul]
   simp [fl, nearest_zero, Format.read, hlp, hbi, hsw, hs]
  obtain ⟨s, hs⟩ : ∃ s : Nat, s = 1074 := ⟨_, rfl⟩
  exact ⟨s, by rw [hs]; exact Nat.le_refl _, h0 s hs⟩
 ·have hl := log2_lt53 h hn
  refine ⟨52 - n.log2, by omega, ?_⟩
  have hw : fl n = (n.log2 + 1022) * 2 ^ 52 + n * 2 ^ (52 - n.log2) := by
   have := nearest_up h hn (u := 0) (by omega)
   simp at this
   exact this
  rw [hw]
  have hlt : n * 2 ^ (52 - n.log2) < 2 ^ 53 := by
   calc n * 2 ^ (52 - n.log2) < 2 ^ (n.log2 + 1) * 2 ^ (52 - n.log2) := Nat.mul_lt_mul_of_pos_right Nat.lt_log2_self (Nat.two_pow_pos _)
    _ = 2 ^ 53 := by rw [<- Nat.pow_add]; congr 1; omega
  have hge : 2 ^ 52 <= n * 2 ^ (52 - n.log2) := by
   calc 2 ^ 52 = 2 ^ n.log2 * 2 ^ (52 - n.log2) := by rw [<- Nat.pow_add]; congr 1; omega
    _ <= n * 2 ^ (52 - n.log2) := Nat.mul_le_mul_right _ ((Nat.le_log2 h).1 (Nat.le_refl _))
  generalize n * 2 ^ (52 - n.log2) = M at hlt hge ⊢
  generalize n.log2 = L at hl ⊢
  have p52 : (2 : Nat) ^ 52 = 4503599627370496 := by decide
  have p53 : (2 : Nat) ^ 53 = 9007199254740992 := by decide
  have p63 : (2 : Nat) ^ 63 = 9223372036854775808 := by decide
  rw [p53] at hlt
  rw [p52] at hge
  obtain ⟨r, rfl⟩ : ∃ r, M = 4503599627370496 + r := ⟨M - 4503599627370496, by omega⟩
  have hr : r < 4503599627370496 := by omega
  unfold Format.read
  simp only [hsw, hbi, hinf, hlp, p52, p63]
  have e1 : ((L + 1022) * 4503599627370496 + (4503599627370496 + r)) / 9223372036854775808 % 2 = 0 := by
   rw [Nat.div_eq_of_lt (by omega)]
  have e2 : ((L + 1022) * 4503599627370496 + (4503599627370496 + r)) % 9223372036854775808 = (L + 1022) * 4503599627370496 + (4503599627370496 + r) := Nat.mod_eq_of_lt (by omega)
  rw [e1, e2, if_neg (by omega), if_pos (by omega)]
  have e3 : ((L + 1022) * 4503599627370496 + (4503599627370496 + r)) % 4503599627370496 = r := by omega
  have e4 : ((L + 1022) * 4503599627370496 + (4503599627370496 + r)) / 4503599627370496 = L + 1023 := by omega
  rw [e3, e4]
  congr 1
  omega
theorem signed_up {n s t : Nat} : signed false (n * 2 ^ s) (-(s : Int) - min (-(s : Int)) (-(t : Int))).toNat = (n * 2 ^ max s t : Nat) := by
 unfold signed
 simp only [Bool.false_eq_true, if_false, Nat.shiftLeft_eq]
 congr 1
 rw [Nat.mul_assoc, <- Nat.pow_add]
 congr 2
 omega
theorem signed_up' {n s t : Nat} : signed false (n * 2 ^ t) (-(t : Int) - min (-(s : Int)) (-(t : Int))).toNat = (n * 2 ^ max s t : Nat) := by
 unfold signed
 simp only [Bool.false_eq_true, if_false, Nat.shiftLeft_eq]
 congr 1
 rw [Nat.mul_assoc, <- Nat.pow_add]
 congr 2
 omega
theorem order_fl {n m : Nat} (hn : n < 2 ^ 53) (hm : m < 2 ^ 53) : double.order (fl n) (fl m) = some (compare n m) := by
 obtain ⟨s, _, e1⟩ := read_fl hn
 obtain ⟨t, _, e2⟩ := read_fl hm
 unfold Format.order
 rw [e1, e2]
 unfold Datum.order
 simp only [signed_up, signed_up']
 have hp : 0 < 2 ^ max s t := Nat.two_pow_pos _
 congr 1
 rcases Nat.lt_trichotomy n m with h | h | h
 ·have : n * 2 ^ max s t < m * 2 ^ max s t := Nat.mul_lt_mul_of_pos_right h hp
  rw [Nat.compare_eq_lt.2 h, Int.compare_eq_lt.2 (by exact_mod_cast this)]
 ·subst h; rw [Nat.compare_eq_eq.2 rfl, Int.compare_eq_eq.2 rfl]
 ·have : m * 2 ^ max s t < n * 2 ^ max s t := Nat.mul_lt_mul_of_pos_right h hp
  rw [Nat.compare_eq_gt.2 h, Int.compare_eq_gt.2 (by exact_mod_cast this)]
theorem toInt_fl {n : Nat} (hn : n < 2 ^ 53) : (double.read (fl n)).toInt .zero = some n := by
 obtain ⟨s, _, e1⟩ := read_fl hn
 rw [e1]
 unfold Datum.toInt Datum.integral
 simp only
 have e2 : (-(s : Int)).toNat = 0 := by omega
 have e3 : (- -(s : Int)).toNat = s := by omega
 rw [e2, e3, Nat.shiftLeft_zero, cut_zero]
 simp [signed]
theorem add_fl {n m : Nat} (h : n + m < 2 ^ 53) : double.add (fl n) (fl m) = some (fl (n + m)) := by
 obtain ⟨s, hs, e1⟩ := read_fl (n := n) (by omega)
 obtain ⟨t, ht, e2⟩ := read_fl (n := m) (by omega)
 unfold Format.add
 rw [e1, e2]
 unfold Datum.sum
 simp only [signed_up, signed_up', Option.map_some]
 unfold Format.write
 have hsum : ((n * 2 ^ max s t : Nat) : Int) + ((m * 2 ^ max s t : Nat) : Int) = (((n + m) * 2 ^ max s t : Nat) : Int) := by rw [Nat.add_mul]; simp
 have hb : min (-(s : Int)) (-(t : Int)) = -((max s t : Nat) : Int) := by omega
 rw [hsum, hb]
 have hneg : (if (((n + m) * 2 ^ max s t : Nat) : Int) = 0 then false && false else decide ((((n + m) * 2 ^ max s t : Nat) : Int) < 0)) = false := by
  split
  ·rfl
  ·rw [decide_eq_false (by omega)]
 rw [hneg, Int.natAbs_natCast]
 show some (double.nearest false ((n + m) * 2 ^ max s t) (-((max s t : Nat) : Int))) = _
 rw [nearest_fl h (by omega)]
end Go.Fl
end
noncomputable section
open Go Go.AM Go.Md Go.Fl
open Ieee (double)
namespace Go.Wk
set_option maxRecDepth 100000
set_option maxHeartbeats 1000000
def LB : Nat := 1000000
def fI (b : Nat) : Option Int := (FloatKind.f64.decode b).toInt .zero
def vE (v : Ver) : Int := (fI v.re).getD 0
def vN (v : Ver) : Int := (fI v.im).getD 0
def okI (b : Nat) : Prop := (fI b).isSome = true /\ IntKind.i64.min <= (fI b).getD 0 /\ (fI b).getD 0 <= IntKind.i64.max
def VInt (v : Ver) : Prop := okI v.re /\ okI v.im
def eV (v : Ver) : AV := .cplx .f64 v.re v.im
def vr (e n : Nat) : Ver := ⟨fl e, fl n⟩
theorem fEq_fl {n m : Nat} (hn : n < 2 ^ 53) (hm : m < 2 ^ 53) : fEq .f64 (fl n) (fl m) = decide (n = m) := by
 have : FloatKind.f64.format.order (fl n) (fl m) = some (compare n m) := order_fl hn hm
 unfold fEq; rw [this]
 rcases Nat.lt_trichotomy n m with h | h | h
 ·rw [Nat.compare_eq_lt.2 h, decide_eq_false (by omega)]; rfl
 ·rw [Nat.compare_eq_eq.2 h, decide_eq_true h]; rfl
 ·rw [Nat.compare_eq_gt.2 h, decide_eq_false (by omega)]; rfl
theorem fLt_fl {n m : Nat} (hn : n < 2 ^ 53) (hm : m < 2 ^ 53) : fLt .f64 (fl n) (fl m) = decide (n < m) := by
 have : FloatKind.f64.format.order (fl n) (fl m) = some (compare n m) := order_fl hn hm
 unfold fLt; rw [this]
 rcases Nat.lt_trichotomy n m with h | h | h
 ·rw [Nat.compare_eq_lt.2 h, decide_eq_true h]; rfl
 ·rw [Nat.compare_eq_eq.2 h, decide_eq_false (by omega)]; rfl
 ·rw [Nat.compare_eq_gt.2 h, decide_eq_false (by omega)]; rfl
theorem fI_fl {n : Nat} (hn : n < 2 ^ 53) : fI (fl n) = some (n : Int) := toInt_fl hn
theorem okI_fl {n : Nat} (hn : n < 2 ^ 53) : okI (fl n) := by
 unfold okI; rw [fI_fl hn]
 have e1 : IntKind.i64.min = -9223372036854775808 := by decide
 have e2 : IntKind.i64.max = 9223372036854775807 := by decide
 rw [e1, e2]
 refine ⟨rfl, ?_, ?_⟩ <;> simp only [Option.getD_some] <;> omega
theorem near_fl (n : Nat) : FloatKind.f64.nearest (n : Int) = fl n := by
 show double.nearest (decide ((n : Int) < 0)) (n : Int).natAbs 0 = fl n
 rw [decide_eq_false (by omega), Int.natAbs_natCast]; rfl
theorem one_fl : fl 1 = 4607182418800017408 := by decide
theorem next_fl {n : Nat} (h : n + 1 < 2 ^ 53) : FloatKind.f64.format.add (fl n) 4607182418800017408 = some (fl (n + 1)) := by
 rw [<- one_fl]; exact add_fl h
def VNum (v : Ver) : Prop := ∃ e n : Nat, e < 2 ^ 40 /\ n < 2 ^ 40 /\ v = vr e n
theorem VNum.int {v : Ver} (h : VNum v) : VInt v := by
 obtain ⟨e, n, he, hn, rfl⟩ := h
 exact ⟨okI_fl (by omega), okI_fl (by omega)⟩
def ep (v : Ver) : Nat := (vE v).toNat
def nu (v : Ver) : Nat := (vN v).toNat
theorem ep_vr {e n : Nat} (h : e < 2 ^ 40) : ep (vr e n) = e := by
 show ((fI (fl e)).getD 0).toNat = e; rw [fI_fl (by omega)]; rfl
theorem nu_vr {e n : Nat} (h : n < 2 ^ 40) : nu (vr e n) = n := by
 show ((fI (fl n)).getD 0).toNat = n; rw [fI_fl (by omega)]; rfl
theorem VNum.eta {v : Ver} (h : VNum v) : v = vr (ep v) (nu v) := by
 obtain ⟨e, n, he, hn, rfl⟩ := h
 rw [ep_vr he, nu_vr hn]
theorem VNum.lt {v : Ver} (h : VNum v) : ep v < 2 ^ 40 /\ nu v < 2 ^ 40 := by
 obtain ⟨e, n, he, hn, rfl⟩ := h
 rw [ep_vr he, nu_vr hn]; exact ⟨he, hn⟩
def vlt (a b : Ver) : Bool := bif decide (ep a = ep b) then decide (nu a < nu b) else decide (ep a < ep b)
def vmax (a b : Ver) : Ver := bif vlt a b then b else a
theorem vmax_comm_of {a b : Ver} (ha : VNum a) (hb : VNum b) (h : vlt a b = false) (h' : vlt b a = false) : a = b := by
 rw [ha.eta, hb.eta]
 unfold vlt at h h'
 by_cases e : ep a = ep b
 ·rw [decide_eq_true e, cond_true] at h
  rw [decide_eq_true e.symm, cond_true] at h'
  have h1 := of_decide_eq_false h
  have h2 := of_decide_eq_false h'
  have : nu a = nu b := by omega
  rw [e, this]
 ·rw [decide_eq_false e, cond_false] at h
  rw [decide_eq_false fun x => e x.symm, cond_false] at h'
  have h1 := of_decide_eq_false h
  have h2 := of_decide_eq_false h'
  omega
theorem vlt_vr {e n f m : Nat} (he : e < 2 ^ 40) (hn : n < 2 ^ 40) (hf : f < 2 ^ 40) (hm : m < 2 ^ 40) : vlt (vr e n) (vr f m) = bif decide (e = f) then decide (n < m) else decide (e < f) := by
 unfold vlt; rw [ep_vr he, ep_vr hf, nu_vr hn, nu_vr hm]
theorem bif_some {X : Type} (c : Bool) (a b : X) : (bif c then some a else some b) = some (bif c then a else b) := by cases c <;> rfl
theorem bif_not {X : Type} (c : Bool) (a b : X) : (bif !c then a else b) = bif c then b else a := by cases c <;> rfl
theorem fvlt {a b : Ver} (ha : VNum a) (hb : VNum b) : (bif fEq .f64 a.re b.re then fLt .f64 a.im b.im else fLt .f64 a.re b.re) = vlt a b := by
 obtain ⟨e, n, he, hn, rfl⟩ := ha
 obtain ⟨f, m, hf, hm, rfl⟩ := hb
 rw [vlt_vr he hn hf hm]
 show (bif fEq .f64 (fl e) (fl f) then fLt .f64 (fl n) (fl m) else fLt .f64 (fl e) (fl f)) = _
 rw [fEq_fl (by omega) (by omega), fLt_fl (by omega) (by omega), fLt_fl (by omega) (by omega)]
theorem vmax_swap {a b : Ver} (ha : VNum a) (hb : VNum b) : (bif vlt b a then a else b) = vmax a b := by
 unfold vmax
 by_cases h : vlt b a = true
 ·have : vlt a b = false := by
   unfold vlt at h ⊢
   by_cases e : ep a = ep b
   ·rw [decide_eq_true e.symm, cond_true] at h
    rw [decide_eq_true e, cond_true]
    have := of_decide_eq_true h
    exact decide_eq_false (by omega)
   ·rw [decide_eq_false fun x => e x.symm, cond_false] at h
    rw [decide_eq_false e, cond_false]
    have := of_decide_eq_true h
    exact decide_eq_false (by omega)
  rw [h, this]; rfl
 ·have h := Bool.eq_false_iff.2 h
  rw [h, cond_false]
  by_cases h' : vlt a b = true
  ·rw [h']; rfl
  ·have h' := Bool.eq_false_iff.2 h'
   rw [h', cond_false]; exact (vmax_comm_of ha hb h' h).symm
theorem vE_ep {v : Ver} (h : VNum v) : vE v = (ep v : Int) := by
 obtain ⟨e, n, he, hn, rfl⟩ := h
 rw [ep_vr he]; show (fI (fl e)).getD 0 = _; rw [fI_fl (by omega)]; rfl
theorem vN_nu {v : Ver} (h : VNum v) : vN v = (nu v : Int) := by
 obtain ⟨e, n, he, hn, rfl⟩ := h
 rw [nu_vr hn]; show (fI (fl n)).getD 0 = _; rw [fI_fl (by omega)]; rfl
theorem dec_int (a b : Nat) : decide ((a : Int) = (b : Int)) = decide (a = b) := by
 by_cases h : a = b
 ·rw [h]; simp
 ·rw [decide_eq_false h, decide_eq_false (by omega)]
theorem dec_ilt (a b : Nat) : decide ((a : Int) < (b : Int)) = decide (a < b) := by simp
end Go.Wk
end
noncomputable section
open Go Go.AM Go.Md Go.Fl
namespace Go.Wk
def idxFrom (m : Member) : List Member -> Nat -> Int
 | [], _ => -1
 | x :: r, i => if x = m then i else idxFrom m r (i + 1)
def idx (l : List Member) (m : Member) : Int := idxFrom m l 0
def liveP (r : Rep) : Bool := !decide (r.view.phase = 0) && decide (r.frozen <= r.view.epoch)
def worksP (r : Rep) : Bool := liveP r && decide (r.view.phase = 3)
def syncsP (r : Rep) : Bool := liveP r && decide (r.view.phase = 2)
def isFirst : List Member -> Member -> Bool
 | [], _ => false
 | x :: _, m => decide (x = m)
def headP (r : Rep) : Bool := worksP r && isFirst r.view.chain r.self
def toM (r : Rep) (x : Member) (k : Int) : Msg := ⟨k, r.self.node, x.node, x.boot, r.self.boot, r.shard, r.view.epoch, 0, 0, 0, 0, 0, false, false, [], [], ⟨0, 0⟩, ⟨0, 0⟩, ⟨0, [], [], [], false⟩, [], [], [], ⟨⟨0, 0⟩, ⟨0, 0⟩, 0, [], []⟩⟩
def ofP (e : Entry) : Seen := ⟨e.sess, e.num, e.ver, e.kind, e.code, e.res, e.hasRes⟩
def entP (v : Ver) : Entry := ⟨v, 2, [107], [118], true, false, 1, nu v, 0, [], false⟩
theorem idxFrom_le (m : Member) : ∀ (l : List Member) (i : Nat), -1 <= idxFrom m l i /\ idxFrom m l i < (i + l.length : Nat)
 | [], i => by simp only [idxFrom, List.length_nil]; omega
 | x :: r, i => by
  have h := idxFrom_le m r (i + 1)
  simp only [idxFrom, List.length_cons]
  split <;> omega
theorem idx_le (l : List Member) (m : Member) : -1 <= idx l m /\ idx l m < l.length := by
 have h := idxFrom_le m l 0
 unfold idx; omega
def sideP (l : List Member) (m : Member) (d : Int) : Option Member :=
 if idx l m < 0 \/ idx l m + d < 0 \/ (l.length : Int) <= idx l m + d then none else some (l.getD (idx l m + d).toNat default)
def haveP (r : Rep) : Ver := bif (sideP r.view.chain r.self 1).isSome then r.got else r.tail.last
def acksP (r : Rep) : List Msg := match sideP r.view.chain r.self (-1) with
 | none => []
 | some m => [{ toM r m 14 with ver := haveP r }]
def instM (r : Rep) (m : Member) : Msg := { toM r m 11 with gen := r.view.gen, chain := r.view.chain, image := ⟨r.tail.floor, r.tail.last, r.view.gen, r.tail.log, r.seen⟩ }
def forwM (r : Rep) (m : Member) : Msg := { toM r m 13 with floor := r.tail.floor, entries := r.tail.log.filter fun e => vlt r.got e.ver }
def instsP (r : Rep) : List Member -> List Bool -> List Msg
 | m :: ms, s :: ss => bif s then instsP r ms ss else instM r m :: instsP r ms ss
 | _, _ => []
def forwsP (r : Rep) : List Msg := match sideP r.view.chain r.self 1 with
 | none => []
 | some m => [forwM r m]
def againP (r : Rep) : List Msg := bif syncsP r then instsP r r.view.chain r.synced else bif worksP r then forwsP r ++ acksP r else []
def putP : List Seen -> Seen -> List Seen
 | [], s => [s]
 | a :: l, s => bif decide (a.num < s.num) then s :: l else a :: l
def pushR (r : Rep) (e : Entry) : Rep := { r with tail := ⟨r.tail.floor, e.ver, r.tail.log ++ [e]⟩, seen := putP r.seen (ofP e) }
def pushP (r : Rep) (e : Entry) : Rep × Bool := bif vlt r.tail.last e.ver then (pushR r e, true) else (r, false)
def liftP (t : Tail) (v : Ver) : Tail := ⟨vmax t.floor v, vmax t.last v, t.log.filter fun e => vlt v e.ver⟩
def liftR (r : Rep) (v : Ver) : Rep := { r with tail := liftP r.tail v }
def takeP (r : Rep) : List Entry -> Rep
 | [] => r
 | e :: l => takeP (bif decide (nu e.ver = nu r.tail.last + 1) then (pushP r e).1 else r) l
def aboveP (r : Rep) (m : Msg) : Bool := decide (r.view.epoch < m.epoch) && decide (r.frozen <= m.epoch)
def frozeM (r : Rep) (m : Msg) : Msg := ⟨9, r.self.node, m.src, 0, r.self.boot, r.shard, m.epoch, 0, 0, 0, r.view.epoch, 0, !decide (r.view.phase = 0), false, [], [], r.tail.last, ⟨0, 0⟩, ⟨0, [], [], [], false⟩, [], [], [], ⟨⟨0, 0⟩, ⟨0, 0⟩, 0, [], []⟩⟩
def freezeP (r : Rep) (m : Msg) : Rep × List Msg := bif aboveP r m then ({ r with frozen := m.epoch }, [frozeM r m]) else (r, [])
def tail0 (e : Int) : Tail := ⟨vr e.toNat 0, vr e.toNat 0, []⟩
def actT (r : Rep) (m : Msg) : Tail := bif m.fresh then tail0 m.epoch else r.tail
def actR (r : Rep) (m : Msg) : Rep :=
 { r with view := ⟨m.shard, m.epoch, m.gen, bif decide (m.chain.length = 1) then 3 else 2, m.chain⟩, synced := true :: List.replicate (m.chain.length - 1) false, tail := actT r m, seen := bif m.fresh then [] else r.seen, got := (actT r m).last }
def actG (r : Rep) (m : Msg) : Bool := aboveP r m && (isFirst m.chain r.self && (m.fresh || (!decide (r.view.phase = 0) && decide (m.epoch = r.frozen))))
def actP (r : Rep) (m : Msg) : Rep × List Msg := bif actG r m then (actR r m, againP (actR r m)) else (r, [])
def insR (r : Rep) (m : Msg) : Rep := bif aboveP r m then { r with view := ⟨m.shard, m.epoch, m.gen, 3, m.chain⟩, tail := ⟨m.image.floor, m.image.last, m.image.log⟩, seen := m.image.seen, got := m.image.last, synced := [] } else r
def insP (r : Rep) (m : Msg) : Rep × List Msg :=
 bif decide (0 < idx m.chain r.self) then (insR r m, bif liveP (insR r m) && decide (m.epoch = (insR r m).view.epoch) then [toM (insR r m) ⟨m.src, m.sboot⟩ 12] else []) else (r, [])
def who (m : Msg) : Member := ⟨m.src, m.sboot⟩
def indS (r : Rep) (m : Msg) : List Bool := r.synced.set (idx r.view.chain (who m)).toNat true
def indR (r : Rep) (m : Msg) : Rep := bif (indS r m).all id then { r with synced := indS r m, view := { r.view with phase := 3 }, got := r.tail.last } else { r with synced := indS r m }
def indP (r : Rep) (m : Msg) : Rep × List Msg :=
 bif syncsP r && (decide (m.epoch = r.view.epoch) && decide (0 <= idx r.view.chain (who m))) then (indR r m, []) else (r, [])
def fwdR (r : Rep) (m : Msg) : Rep := bif vlt (takeP r m.entries).tail.last m.floor then takeP r m.entries else liftR (takeP r m.entries) m.floor
def nextG (r : Rep) (m : Msg) (d : Int) : Bool := worksP r && (decide (m.epoch = r.view.epoch) && decide (sideP r.view.chain r.self d = some (who m)))
def fwdP (r : Rep) (m : Msg) : Rep × List Msg := bif nextG r m (-1) then (fwdR r m, againP (fwdR r m)) else (r, [])
def ackR (r : Rep) (m : Msg) : Rep := bif vlt r.tail.last m.ver then r else { r with got := vmax r.got m.ver }
def ackP (r : Rep) (m : Msg) : Rep × List Msg := bif nextG r m 1 then (ackR r m, acksP (ackR r m)) else (r, [])
def toMe (r : Rep) (m : Msg) : Bool := decide (m.dst = r.self.node) && (decide (m.boot = r.self.boot) && decide (m.shard = r.shard))
def handK (r : Rep) (m : Msg) : Rep × List Msg :=
 bif decide (m.kind = 8) then freezeP r m else bif decide (m.kind = 10) then actP r m else bif decide (m.kind = 11) then insP r m else
 bif decide (m.kind = 12) then indP r m else bif decide (m.kind = 13) then fwdP r m else bif decide (m.kind = 14) then ackP r m else (r, [])
def handP (r : Rep) (m : Msg) : Rep × List Msg := bif toMe r m then handK r m else (r, [])
def rep0 (m : Member) : Rep := ⟨0, m, ⟨0, 0, 0, 0, []⟩, 0, ⟨⟨0, 0⟩, ⟨0, 0⟩, []⟩, [], ⟨0, 0⟩, []⟩
def nextV (r : Rep) : Ver := vr r.view.epoch.toNat (nu r.tail.last + 1)
end Go.Wk
end
noncomputable section
open Go Go.AM Go.Md Go.Fl
namespace Go.Wk
def vle (a b : Ver) : Prop := vlt b a = false
theorem vle_iff {a b : Ver} : vle a b ↔ ep a < ep b \/ (ep a = ep b /\ nu a <= nu b) := by
 unfold vle vlt
 by_cases h : ep b = ep a
 ·rw [decide_eq_true h, cond_true]
  constructor
  ·intro h2; have := of_decide_eq_false h2; omega
  ·intro h2; exact decide_eq_false (by omega)
 ·rw [decide_eq_false h, cond_false]
  constructor
  ·intro h2; have := of_decide_eq_false h2; omega
  ·intro h2; exact decide_eq_false (by omega)
theorem vlt_iff {a b : Ver} : vlt a b = true ↔ ep a < ep b \/ (ep a = ep b /\ nu a < nu b) := by
 unfold vlt
 by_cases h : ep a = ep b
 ·rw [decide_eq_true h, cond_true, decide_eq_true_iff]; omega
 ·rw [decide_eq_false h, cond_false, decide_eq_true_iff]; omega
theorem vle.refl (a : Ver) : vle a a := vle_iff.2 (by omega)
theorem vle.trans {a b c : Ver} (h : vle a b) (h' : vle b c) : vle a c := by
 rw [vle_iff] at *; omega
theorem vle_of_lt {a b : Ver} (h : vlt a b = true) : vle a b := by
 rw [vlt_iff] at h; rw [vle_iff]; omega
theorem vmax_or (a b : Ver) : vmax a b = a \/ vmax a b = b := by
 unfold vmax; cases vlt a b <;> simp
theorem vmax_le {a b c : Ver} (h : vle a c) (h' : vle b c) : vle (vmax a b) c := by
 rcases vmax_or a b with e | e <;> rw [e] <;> assumption
theorem vmax_left {a b : Ver} (h : vle b a) : vmax a b = a := by
 unfold vmax; rw [show vlt a b = false from h]; rfl
def VB (N : Nat) (v : Ver) : Prop := ∃ e n : Nat, e <= N /\ n <= N /\ v = vr e n
theorem VB.num {N : Nat} {v : Ver} (h : VB N v) (hN : N <= 1000) : VNum v := by
 obtain ⟨e, n, he, hn, rfl⟩ := h
 exact ⟨e, n, by omega, by omega, rfl⟩
theorem VB.le {N : Nat} {v : Ver} (h : VB N v) (hN : N <= 1000) : ep v <= N /\ nu v <= N := by
 obtain ⟨e, n, he, hn, rfl⟩ := h
 rw [ep_vr (by omega), nu_vr (by omega)]; exact ⟨he, hn⟩
theorem VB.mono {N M : Nat} {v : Ver} (h : VB N v) (hNM : N <= M) : VB M v := by
 obtain ⟨e, n, he, hn, rfl⟩ := h
 exact ⟨e, n, by omega, by omega, rfl⟩
theorem vr00 : (⟨0, 0⟩ : Ver) = vr 0 0 := by decide
theorem VB.zero (N : Nat) : VB N ⟨0, 0⟩ := ⟨0, 0, by omega, by omega, vr00⟩
theorem VB.max {N : Nat} {a b : Ver} (h : VB N a) (h' : VB N b) : VB N (vmax a b) := by
 rcases vmax_or a b with e | e <;> rw [e] <;> assumption
def Sm (n : Int) : Prop := 0 <= n /\ n <= 1000
theorem sm0 : Sm 0 := by unfold Sm; omega
def MemIs (m : Member) : Prop := 2 <= m.node /\ m.node <= 5 /\ 1 <= m.boot /\ m.boot <= 1000
def ChainIs (l : List Member) : Prop := l.length <= 4 /\ l.Nodup /\ ∀ m ∈ l, MemIs m
def EntIs (N : Nat) (e : Entry) : Prop := VB N e.ver /\ e = entP e.ver
structure TailIs (N : Nat) (t : Tail) : Prop where
 fl : VB N t.floor
 la : VB N t.last
 le : vle t.floor t.last
 len : t.log.length <= nu t.last
 ent : ∀ e ∈ t.log, EntIs N e
def SeenIs (N : Nat) (l : List Seen) : Prop := l.length <= 1 /\ ∀ s ∈ l, ∃ v, VB N v /\ s = ofP (entP v)
structure RepIs (E : Int) (N : Nat) (r : Rep) : Prop where
 shard : r.shard = 0
 self : MemIs r.self
 vsh : r.view.shard = 0
 gen : Sm r.view.gen
 ep0 : 0 <= r.view.epoch
 ep : r.view.epoch <= E
 fr0 : 0 <= r.frozen
 fr : r.frozen <= E
 ph : r.view.phase = 0 \/ r.view.phase = 2 \/ r.view.phase = 3
 chain : ChainIs r.view.chain
 sync : r.view.phase = 2 -> isFirst r.view.chain r.self = true /\ r.synced.length = r.view.chain.length
 synl : r.synced.length <= 4
 tail : TailIs N r.tail
 seen : SeenIs N r.seen
 got : VB N r.got
 gle : vle r.got r.tail.last
structure MsgIs (E : Int) (N : Nat) (m : Msg) : Prop where
 kind : Sm m.kind
 src : Sm m.src
 dst : Sm m.dst
 boot : Sm m.boot
 sboot : Sm m.sboot
 shard : m.shard = 0
 ep0 : 0 <= m.epoch
 ep : m.epoch <= E
 gen : Sm m.gen
 sess : m.sess = 0
 num : Sm m.num
 a : Sm m.a
 code : m.code = 0
 key : m.key = []
 val : m.val = []
 ver : VB N m.ver
 floor : VB N m.floor
 op : m.op = ⟨0, [], [], [], false⟩
 elen : m.entries.length <= N
 ent : ∀ e ∈ m.entries, EntIs N e
 chain : ChainIs m.chain
 views : m.views = []
 img : TailIs N ⟨m.image.floor, m.image.last, m.image.log⟩
 igen : Sm m.image.gen
 iseen : SeenIs N m.image.seen
theorem EntIs.mono {N M : Nat} {e : Entry} (h : EntIs N e) (hm : N <= M) : EntIs M e := ⟨h.1.mono hm, h.2⟩
theorem TailIs.mono {N M : Nat} {t : Tail} (h : TailIs N t) (hm : N <= M) : TailIs M t := ⟨h.fl.mono hm, h.la.mono hm, h.le, h.len, fun e he => (h.ent e he).mono hm⟩
theorem SeenIs.mono {N M : Nat} {l : List Seen} (h : SeenIs N l) (hm : N <= M) : SeenIs M l := ⟨h.1, fun s hs => by obtain ⟨v, h1, h2⟩ := h.2 s hs; exact ⟨v, h1.mono hm, h2⟩⟩
theorem RepIs.mono {E E' : Int} {N M : Nat} {r : Rep} (h : RepIs E N r) (hE : E <= E') (hm : N <= M) : RepIs E' M r :=
 { h with ep := Int.le_trans h.ep hE, fr := Int.le_trans h.fr hE, tail := h.tail.mono hm, seen := h.seen.mono hm, got := h.got.mono hm }
theorem MsgIs.mono {E E' : Int} {N M : Nat} {m : Msg} (h : MsgIs E N m) (hE : E <= E') (hm : N <= M) : MsgIs E' M m :=
 { h with ep := Int.le_trans h.ep hE, ver := h.ver.mono hm, floor := h.floor.mono hm, elen := Nat.le_trans h.elen hm, ent := fun e he => (h.ent e he).mono hm, img := h.img.mono hm, iseen := h.iseen.mono hm }
theorem tailNil (N : Nat) : TailIs N ⟨⟨0, 0⟩, ⟨0, 0⟩, []⟩ := ⟨.zero N, .zero N, .refl _, Nat.zero_le _, fun e he => by cases he⟩
theorem seenNil (N : Nat) : SeenIs N [] := ⟨Nat.zero_le _, fun e he => by cases he⟩
theorem chainNil : ChainIs [] := ⟨Nat.zero_le _, List.nodup_nil, fun e he => by cases he⟩
theorem MemIs.sm {m : Member} (h : MemIs m) : Sm m.node /\ Sm m.boot := by
 obtain ⟨h1, h2, h3, h4⟩ := h
 unfold Sm; omega
theorem sideP_mem {l : List Member} {m x : Member} {d : Int} (h : sideP l m d = some x) : x ∈ l := by
 unfold sideP at h
 split at h
 ·cases h
 ·rename_i hn
  injection h with h
  subst h
  have : (idx l m + d).toNat < l.length := by omega
  simp [List.getD, List.getElem?_eq_getElem this]
section
variable {E : Int} {N : Nat} {r : Rep} (h : RepIs E N r)
include h
theorem toM_is {m : Member} (hm : MemIs m) {k : Int} (hk : Sm k) : MsgIs E N (toM r m k) where
 kind := hk
 src := h.self.sm.1
 dst := hm.sm.1
 boot := hm.sm.2
 sboot := h.self.sm.2
 shard := h.shard
 ep0 := h.ep0
 ep := h.ep
 gen := sm0
 sess := rfl
 num := sm0
 a := by unfold Sm toM; simp
 code := rfl
 key := rfl
 val := rfl
 ver := .zero N
 floor := .zero N
 op := rfl
 elen := Nat.zero_le _
 ent := fun e he => by cases he
 chain := chainNil
 views := rfl
 img := tailNil N
 igen := sm0
 iseen := seenNil N
theorem haveP_is : VB N (haveP r) := by
 unfold haveP
 cases (sideP r.view.chain r.self 1).isSome
 ·exact h.tail.la
 ·exact h.got
theorem acksP_is : ∀ m ∈ acksP r, MsgIs E N m := by
 intro m hm
 unfold acksP at hm
 split at hm
 ·cases hm
 ·rename_i x hx
  simp only [List.mem_singleton] at hm
  subst hm
  exact { toM_is h (h.chain.2.2 _ (sideP_mem hx)) (k := 14) (by unfold Sm; omega) with ver := haveP_is h }
theorem forwsP_is (hN : N <= 1000) : ∀ m ∈ forwsP r, MsgIs E N m := by
 intro m hm
 unfold forwsP at hm
 split at hm
 ·cases hm
 ·rename_i x hx
  simp only [List.mem_singleton] at hm
  subst hm
  exact { toM_is h (h.chain.2.2 _ (sideP_mem hx)) (k := 13) (by unfold Sm; omega) with
   floor := h.tail.fl
   elen := Nat.le_trans (List.length_filter_le _ _) (Nat.le_trans h.tail.len (h.tail.la.le hN).2)
   ent := fun e he => h.tail.ent e (List.mem_filter.1 he).1 }
theorem instsP_is : ∀ (l : List Member) (s : List Bool), (∀ m ∈ l, MemIs m) -> ∀ m ∈ instsP r l s, MsgIs E N m
 | [], _, _, m, hm => by simp [instsP] at hm
 | _ :: _, [], _, m, hm => by simp [instsP] at hm
 | a :: l, s :: ss, hl, m, hm => by
  have ih := instsP_is l ss fun x hx => hl x (List.mem_cons_of_mem _ hx)
  unfold instsP at hm
  cases s with
  | true => exact ih m hm
  | false =>
   rcases List.mem_cons.1 hm with rfl | hm
   ·exact { toM_is h (hl a (by simp)) (k := 11) (by unfold Sm; omega) with gen := h.gen, chain := h.chain, img := h.tail, igen := h.gen, iseen := h.seen }
   ·exact ih m hm
theorem againP_is (hN : N <= 1000) : ∀ m ∈ againP r, MsgIs E N m := by
 intro m hm
 unfold againP at hm
 cases hs : syncsP r with
 | true => rw [hs] at hm; exact instsP_is h _ _ h.chain.2.2 m hm
 | false =>
  rw [hs] at hm
  cases hw : worksP r with
  | false => rw [hw] at hm; cases hm
  | true =>
   rw [hw] at hm
   rcases List.mem_append.1 hm with hm | hm
   ·exact forwsP_is h hN m hm
   ·exact acksP_is h m hm
end
theorem instsP_len (r : Rep) : ∀ (l : List Member) (s : List Bool), (instsP r l s).length <= l.length
 | [], _ => by simp [instsP]
 | _ :: _, [] => by simp [instsP]
 | a :: l, s :: ss => by
  have := instsP_len r l ss
  cases s <;> simp only [instsP, cond_true, cond_false, List.length_cons] <;> omega
theorem acksP_len (r : Rep) : (acksP r).length <= 1 := by
 unfold acksP; split <;> simp
theorem forwsP_len (r : Rep) : (forwsP r).length <= 1 := by
 unfold forwsP; split <;> simp
theorem againP_len {E : Int} {N : Nat} {r : Rep} (h : RepIs E N r) : (againP r).length <= 4 := by
 have h1 := instsP_len r r.view.chain r.synced
 have h2 := h.chain.1
 have h3 := acksP_len r
 have h4 := forwsP_len r
 unfold againP
 cases syncsP r <;> cases worksP r <;> simp only [cond_true, cond_false, List.length_append, List.length_nil] <;> omega
theorem putP_is {N : Nat} {l : List Seen} {v : Ver} (h : SeenIs N l) (hv : VB N v) : SeenIs N (putP l (ofP (entP v))) := by
 match l, h with
 | [], _ => exact ⟨by simp [putP], fun s hs => by simp [putP] at hs; exact ⟨v, hv, hs⟩⟩
 | [a], h =>
  show SeenIs N (bif decide (a.num < (ofP (entP v)).num) then [ofP (entP v)] else [a])
  cases decide (a.num < (ofP (entP v)).num)
  ·exact h
  ·simp only [cond_true]; exact ⟨by simp, fun s hs => by simp at hs; exact ⟨v, hv, hs⟩⟩
 | _ :: _ :: _, h => exact absurd h.1 (by simp)
theorem pushR_is {E : Int} {N : Nat} {r : Rep} {e : Entry} (h : RepIs E N r) (he : EntIs N e) (hl : vlt r.tail.last e.ver = true) (hn : nu e.ver = nu r.tail.last + 1) : RepIs E N (pushR r e) :=
 { h with
  tail := ⟨h.tail.fl, he.1, h.tail.le.trans (vle_of_lt hl), by
   have := h.tail.len
   simp only [pushR, List.length_append, List.length_cons, List.length_nil]; omega, fun x hx => by
   rcases List.mem_append.1 hx with hx | hx
   ·exact h.tail.ent x hx
   ·simp at hx; subst hx; exact he⟩
  seen := by
   show SeenIs N (putP r.seen (ofP e))
   rw [he.2]; exact putP_is h.seen he.1
  gle := h.gle.trans (vle_of_lt hl) }
theorem takeP_is {E : Int} {N : Nat} : ∀ {l : List Entry} {r : Rep}, RepIs E N r -> (∀ e ∈ l, EntIs N e) -> RepIs E N (takeP r l)
 | [], r, h, _ => h
 | e :: l, r, h, he => by
  unfold takeP
  refine takeP_is ?_ fun x hx => he x (by simp [hx])
  cases hn : decide (nu e.ver = nu r.tail.last + 1) with
  | false => exact h
  | true =>
   have hn := of_decide_eq_true hn
   unfold pushP
   cases hl : vlt r.tail.last e.ver with
   | false => exact h
   | true => exact pushR_is h (he e (by simp)) hl hn
theorem liftR_is {E : Int} {N : Nat} {r : Rep} {v : Ver} (h : RepIs E N r) (hv : VB N v) (hl : vle v r.tail.last) : RepIs E N (liftR r v) :=
 { h with
  tail := ⟨h.tail.fl.max hv, h.tail.la.max hv, by
   show vle (vmax r.tail.floor v) (vmax r.tail.last v)
   rw [vmax_left hl]; exact vmax_le h.tail.le hl, by
   show (r.tail.log.filter _).length <= nu (vmax r.tail.last v)
   rw [vmax_left hl]; exact Nat.le_trans (List.length_filter_le _ _) h.tail.len, fun e he => h.tail.ent e (List.mem_filter.1 he).1⟩
  gle := by
   show vle r.got (vmax r.tail.last v)
   rw [vmax_left hl]; exact h.gle }
theorem isFirst_cons {l : List Member} {m : Member} (h : isFirst l m = true) : ∃ r, l = m :: r := by
 cases l with
 | nil => cases h
 | cons x r => exact ⟨r, by rw [of_decide_eq_true (show decide (x = m) = true from h)]⟩
theorem above_iff {r : Rep} {m : Msg} : aboveP r m = true ↔ r.view.epoch < m.epoch /\ r.frozen <= m.epoch := by
 unfold aboveP; rw [Bool.and_eq_true, decide_eq_true_iff, decide_eq_true_iff]
theorem frozeM_is {E : Int} {N : Nat} {r : Rep} {m : Msg} (h : RepIs E N r) (hm : MsgIs E N m) (hE : E <= 1000) : MsgIs E N (frozeM r m) where
 kind := by unfold Sm frozeM; simp
 src := h.self.sm.1
 dst := hm.src
 boot := by unfold Sm frozeM; simp
 sboot := h.self.sm.2
 shard := h.shard
 ep0 := hm.ep0
 ep := hm.ep
 gen := sm0
 sess := rfl
 num := sm0
 a := ⟨h.ep0, Int.le_trans h.ep hE⟩
 code := rfl
 key := rfl
 val := rfl
 ver := h.tail.la
 floor := .zero N
 op := rfl
 elen := Nat.zero_le _
 ent := fun e he => by cases he
 chain := chainNil
 views := rfl
 img := tailNil N
 igen := sm0
 iseen := seenNil N
theorem tail0_is {N : Nat} {e : Int} (h : e.toNat <= N) : TailIs N (tail0 e) := ⟨⟨_, _, h, Nat.zero_le _, rfl⟩, ⟨_, _, h, Nat.zero_le _, rfl⟩, .refl _, Nat.zero_le _, fun e he => by cases he⟩
theorem actR_is {E : Int} {N : Nat} {r : Rep} {m : Msg} (h : RepIs E N r) (hm : MsgIs E N m) (hEN : E <= N) (hf : isFirst m.chain r.self = true) : RepIs E N (actR r m) := by
 have hep := hm.ep
 have ht : TailIs N (actT r m) := by
  unfold actT
  cases m.fresh
  ·exact h.tail
  ·exact tail0_is (by omega)
 obtain ⟨rest, hr⟩ := isFirst_cons hf
 have hl := hm.chain.1
 rw [hr] at hl
 have hsl : (actR r m).synced.length = m.chain.length := by
  simp only [actR, List.length_cons, List.length_replicate]; rw [hr, List.length_cons]; omega
 refine { h with vsh := hm.shard, gen := hm.gen, ep0 := hm.ep0, ep := hm.ep, ph := ?_, chain := hm.chain, sync := fun _ => ⟨hf, hsl⟩, synl := by rw [hsl]; exact hm.chain.1, tail := ht, seen := ?_, got := ht.la, gle := .refl _ }
 ·show (bif decide (m.chain.length = 1) then (3 : Int) else 2) = 0 \/ (bif decide (m.chain.length = 1) then (3 : Int) else 2) = 2 \/ (bif decide (m.chain.length = 1) then (3 : Int) else 2) = 3
  cases decide (m.chain.length = 1) <;> simp
 ·show SeenIs N (bif m.fresh then [] else r.seen)
  cases m.fresh
  ·exact h.seen
  ·exact seenNil N
theorem insR_is {E : Int} {N : Nat} {r : Rep} {m : Msg} (h : RepIs E N r) (hm : MsgIs E N m) : RepIs E N (insR r m) := by
 unfold insR
 cases aboveP r m with
 | false => exact h
 | true => exact { h with vsh := hm.shard, gen := hm.gen, ep0 := hm.ep0, ep := hm.ep, ph := by simp, chain := hm.chain, sync := fun h3 => by simp at h3, synl := Nat.zero_le _, tail := hm.img, seen := hm.iseen, got := hm.img.la, gle := .refl _ }
theorem indR_is {E : Int} {N : Nat} {r : Rep} {m : Msg} (h : RepIs E N r) (hs : syncsP r = true) : RepIs E N (indR r m) := by
 have h2 : r.view.phase = 2 := by unfold syncsP at hs; exact of_decide_eq_true (and_true' hs).2
 have hl : (indS r m).length = r.synced.length := by unfold indS; simp
 unfold indR
 cases (indS r m).all id with
 | false => exact { h with sync := fun h3 => ⟨(h.sync h3).1, hl.trans (h.sync h3).2⟩, synl := by simp only [cond_false]; rw [hl]; exact h.synl }
 | true => exact { h with ph := by simp, sync := fun h3 => by simp at h3, synl := by simp only [cond_true]; rw [hl]; exact h.synl, got := h.tail.la, gle := .refl _ }
theorem fwdR_is {E : Int} {N : Nat} {r : Rep} {m : Msg} (h : RepIs E N r) (hm : MsgIs E N m) : RepIs E N (fwdR r m) := by
 have ht := takeP_is h hm.ent
 unfold fwdR
 cases hv : vlt (takeP r m.entries).tail.last m.floor with
 | true => exact ht
 | false => exact liftR_is ht hm.floor hv
theorem ackR_is {E : Int} {N : Nat} {r : Rep} {m : Msg} (h : RepIs E N r) (hm : MsgIs E N m) : RepIs E N (ackR r m) := by
 unfold ackR
 cases hv : vlt r.tail.last m.ver with
 | true => exact h
 | false => exact { h with got := h.got.max hm.ver, gle := vmax_le h.gle hv }
structure OutIs (E : Int) (N : Nat) (r : Rep) (o : Rep × List Msg) : Prop where
 rep : RepIs E N o.1
 self : o.1.self = r.self
 msgs : ∀ m ∈ o.2, MsgIs E N m
 len : o.2.length <= 4
theorem OutIs.same {E : Int} {N : Nat} {r : Rep} (h : RepIs E N r) : OutIs E N r (r, []) := ⟨h, rfl, (fun m hm => by cases hm), Nat.zero_le _⟩
structure Kept (r r' : Rep) : Prop where
 self : r'.self = r.self
 view : r'.view = r.view
 frozen : r'.frozen = r.frozen
 got : r'.got = r.got
 synced : r'.synced = r.synced
theorem takeP_self : ∀ (l : List Entry) (r : Rep), Kept r (takeP r l)
 | [], r => ⟨rfl, rfl, rfl, rfl, rfl⟩
 | e :: l, r => by
  unfold takeP
  cases decide (nu e.ver = nu r.tail.last + 1)
  ·exact takeP_self l r
  ·simp only [cond_true]
   unfold pushP
   cases vlt r.tail.last e.ver
   ·exact takeP_self l r
   ·have h := takeP_self l (pushR r e); exact ⟨h.self, h.view, h.frozen, h.got, h.synced⟩
theorem fwdR_self (r : Rep) (m : Msg) : Kept r (fwdR r m) := by
 unfold fwdR
 cases vlt (takeP r m.entries).tail.last m.floor
 ·have h := takeP_self m.entries r; exact ⟨h.self, h.view, h.frozen, h.got, h.synced⟩
 ·exact takeP_self m.entries r
theorem handK_is {E : Int} {N : Nat} {r : Rep} {m : Msg} (h : RepIs E N r) (hm : MsgIs E N m) (hN : N <= 1000) (hEN : E <= N) : OutIs E N r (handK r m) := by
 unfold handK
 cases decide (m.kind = 8) with
 | true =>
  simp only [cond_true]; unfold freezeP
  cases aboveP r m with
  | false => exact .same h
  | true => exact ⟨{ h with fr0 := hm.ep0, fr := hm.ep }, rfl, fun x hx => by simp at hx; subst hx; exact frozeM_is h hm (by omega), by simp⟩
 | false =>
 cases decide (m.kind = 10) with
 | true =>
  simp only [cond_true, cond_false]; unfold actP
  cases hg : actG r m with
  | false => exact .same h
  | true =>
   have hf : isFirst m.chain r.self = true := by unfold actG at hg; exact (and_true' (and_true' hg).2).1
   have hr := actR_is h hm hEN hf
   exact ⟨hr, rfl, againP_is hr hN, againP_len hr⟩
 | false =>
 cases decide (m.kind = 11) with
 | true =>
  simp only [cond_true, cond_false]; unfold insP
  cases decide (0 < idx m.chain r.self) with
  | false => exact .same h
  | true =>
   have hr := insR_is h hm
   have hself : (insR r m).self = r.self := by unfold insR; cases aboveP r m <;> rfl
   refine ⟨hr, hself, fun x hx => ?_, ?_⟩
   ·simp only [cond_true] at hx
    cases hc : liveP (insR r m) && decide (m.epoch = (insR r m).view.epoch) with
    | false => rw [hc] at hx; cases hx
    | true =>
     rw [hc] at hx
     simp only [cond_true, List.mem_singleton] at hx
     subst hx
     exact { toM_is hr (m := r.self) h.self (k := 12) (by unfold Sm; omega) with dst := hm.src, boot := hm.sboot }
   ·simp only [cond_true]
    cases liveP (insR r m) && decide (m.epoch = (insR r m).view.epoch) <;> simp
 | false =>
 cases decide (m.kind = 12) with
 | true =>
  simp only [cond_true, cond_false]; unfold indP
  cases hc : syncsP r && (decide (m.epoch = r.view.epoch) && decide (0 <= idx r.view.chain (who m))) with
  | false => exact .same h
  | true => exact ⟨indR_is h (and_true' hc).1, by simp only [cond_true]; unfold indR; cases (indS r m).all id <;> rfl, fun x hx => by simp at hx, by simp⟩
 | false =>
 cases decide (m.kind = 13) with
 | true =>
  simp only [cond_true, cond_false]; unfold fwdP
  cases nextG r m (-1) with
  | false => exact .same h
  | true =>
   have hr := fwdR_is h hm
   exact ⟨hr, (fwdR_self r m).self, againP_is hr hN, againP_len hr⟩
 | false =>
 cases decide (m.kind = 14) with
 | true =>
  simp only [cond_true, cond_false]; unfold ackP
  cases nextG r m 1 with
  | false => exact .same h
  | true =>
   have hr := ackR_is h hm
   exact ⟨hr, by simp only [cond_true]; unfold ackR; cases vlt r.tail.last m.ver <;> rfl, acksP_is hr, by have := acksP_len (ackR r m); simp only [cond_true]; omega⟩
 | false => exact .same h
theorem handP_is {E : Int} {N : Nat} {r : Rep} {m : Msg} (h : RepIs E N r) (hm : MsgIs E N m) (hN : N <= 1000) (hEN : E <= N) : OutIs E N r (handP r m) := by
 unfold handP
 cases toMe r m with
 | false => exact .same h
 | true => exact handK_is h hm hN hEN
end Go.Wk
end
noncomputable section
open Go Go.AM Go.Md Go.Fl
namespace Go.Wk
theorem nextV_is {E : Int} {N : Nat} {r : Rep} (h : RepIs E N r) (hEN : E <= N) (hN : N <= 999) : VB (N + 1) (nextV r) /\ nu (nextV r) = nu r.tail.last + 1 := by
 have h1 := (h.tail.la.le (by omega)).2
 have h2 := h.ep
 have h3 := h.ep0
 exact ⟨⟨_, _, by omega, by omega, rfl⟩, by unfold nextV; rw [nu_vr (by omega)]⟩
theorem pushP_is {E : Int} {N : Nat} {r : Rep} (h : RepIs E N r) (hEN : E <= N) (hN : N <= 999) : RepIs E (N + 1) (pushP r (entP (nextV r))).1 /\ (pushP r (entP (nextV r))).1.self = r.self := by
 obtain ⟨h1, h2⟩ := nextV_is h hEN hN
 unfold pushP
 cases hl : vlt r.tail.last (entP (nextV r)).ver with
 | false => exact ⟨h.mono (Int.le_refl _) (Nat.le_succ N), rfl⟩
 | true => exact ⟨pushR_is (h.mono (Int.le_refl _) (Nat.le_succ N)) ⟨h1, rfl⟩ hl h2, rfl⟩
theorem rep0_is {E : Int} {N : Nat} {m : Member} (hm : MemIs m) (hE : 0 <= E) : RepIs E N (rep0 m) where
 shard := rfl
 self := hm
 vsh := rfl
 gen := sm0
 ep0 := Int.le_refl _
 ep := hE
 fr0 := Int.le_refl _
 fr := hE
 ph := .inl rfl
 chain := chainNil
 sync := fun h => by simp [rep0] at h
 synl := Nat.zero_le _
 tail := tailNil N
 seen := seenNil N
 got := .zero N
 gle := .refl _
end Go.Wk
end
noncomputable section
open Go Go.AM Go.Proofs
namespace Go.Wk
set_option maxRecDepth 100000
def PG : Program := Tryz.prog
def liveTab : List (Nat × Nat × List Nat) := [
(3, 0, [1, 5, 6, 7]),
(3, 2, [1, 5, 6, 7, 8, 9]),
(3, 4, [1, 5, 6, 7, 8, 9, 10, 11]),
(4, 0, [1, 5, 6, 7]),
(4, 2, [6, 8, 9, 11, 13]),
(4, 4, [6, 8, 9, 11, 13, 14]),
(4, 6, [6, 8, 11, 15]),
(4, 8, [6, 8, 16]),
(5, 0, [1, 5, 6, 7]),
(5, 2, [1, 5, 6, 7, 8, 9]),
(9, 0, [3, 6, 15]),
(11, 0, [2, 3, 4, 6]),
(14, 0, [4, 6, 19, 20]),
(14, 2, [4, 6, 42, 43]),
(16, 0, [2, 3, 5]),
(17, 0, [1, 2, 3]),
(21, 0, [0, 1, 5]),
(22, 0, [0, 1, 2]),
(24, 0, [3, 5, 6, 12]),
(26, 1, [1, 3, 23, 24, 25]),
(34, 0, [1, 2, 10, 11]),
(35, 0, [1, 2, 18, 19]),
(37, 1, [0, 1, 4, 5, 57, 58, 59]),
(48, 0, [2, 4, 5, 17, 18, 19, 1003]),
(60, 0, [0, 7, 8, 9]),
(61, 0, [3, 5, 9, 10, 11]),
(67, 0, [3, 4, 9, 10, 11]),
(70, 0, [0, 3, 4, 13, 14, 15]),
(71, 0, [0, 4, 67, 68, 69]),
(74, 0, [0, 3, 4, 5, 6, 29, 30, 31]),
(79, 0, [0, 1, 5, 6]),
(80, 0, [1, 2, 7, 8]),
(81, 0, [0, 1, 4, 6]),
(86, 0, [3, 7, 8, 9]),
(93, 0, [1, 5, 8, 9, 10]),
(98, 0, [0, 1, 12, 13]),
(101, 0, [2, 5, 6, 65, 66, 67]),
(102, 0, [1, 2, 4, 6, 7, 8, 14, 15, 16]),
(103, 0, [1, 3, 9, 16, 17, 18]),
(105, 0, [0, 3, 10, 11, 12]),
(106, 0, [0, 1, 7, 8]),
(110, 0, [0, 1, 2, 8, 9, 10]),
(116, 0, [0, 3]),
(117, 0, [0, 3, 5, 6]),
(117, 2, [0, 3, 5, 7]),
(126, 0, [0, 7, 8]),
(127, 0, [0, 1, 7, 8]),
(130, 0, [0, 1, 5, 9, 10]),
(132, 0, [0, 1, 5, 6]),
(141, 1000, [1, 2, 4, 5]),
(143, 0, [0, 1, 2, 8, 9, 10]),
(152, 0, [0, 1, 7, 8]),
(154, 0, [0, 1, 5, 6]),
(158, 0, [0, 1, 7, 8]),
(159, 0, [0, 2, 3]),
(160, 0, [0, 1, 7, 8]),
(161, 0, [0, 2, 3])]
def modes1 : List Nat := [34, 35, 38, 51, 56, 57, 58, 59, 60, 82, 84, 85, 87, 91, 92, 126, 148]
def modes2 : List Nat := [36, 37, 62, 63, 64, 65, 66, 68, 69, 70, 71, 72, 73, 74, 94, 95, 97, 98, 99, 100, 101, 105, 106, 107, 108, 109, 110, 112, 113, 114, 118, 119, 120, 121, 122, 123, 125, 127, 128, 129, 131, 132, 133, 134, 135, 139, 143, 146, 147, 149, 150, 151, 152, 154, 155, 157, 158, 159, 160, 161, 170, 171, 172, 173, 174]
def modes3 : List Nat := []
def modes4 : List Nat := []
def envM (md : Nat -> Option Nat) (o : Nat -> List AV -> Heap -> Option Answer) : Env where
 tt := tiOf PG
 code := codeOf PG
 mode f := match md f with
  | some k => k
  | none => bif nmem f modes1 then 1 else bif nmem f modes2 then 2 else bif nmem f modes4 then 4 else bif nmem f modes3 then 3 else 0
 live f b := liveOf f b liveTab
 orc := o
def envO (l : List Known) : Env := envM (fun _ => none) (orcOf l)
theorem envM_ok {md : Nat -> Option Nat} {l : List Known} (h : ∀ k ∈ l, k.Ok PG) : EnvOk PG (envM md (orcOf l)) := ⟨tt_ok rfl, orc_ok h⟩
theorem envM_code {md : Nat -> Option Nat} {o : Nat -> List AV -> Heap -> Option Answer} : CodeOk PG (envM md o) := codeOf_ok rfl
theorem mixed : PG.follows .mixedOrders = true := by kernel_rfl
theorem con_of {md : Nat -> Option Nat} {l : List Known} (h : ∀ k ∈ l, k.Ok PG) {n f : Nat} {args : List AV} {r : AV} (e : callT (envM md (orcOf l)) n f args = some r) : Contract PG f args [] r [] :=
 callT_ok (envM_ok h) envM_code mixed e
def F_lockgatelaw21_CoordKeeps : Nat := 4
def F_lockgatelaw21_awake : Nat := 6
def F_lockgateref21_Conf : Nat := 7
def F_lockgatelaw21_begin : Nat := 8
def F_lockgatelaw21_do : Nat := 9
def F_chain_Head : Nat := 10
def F_coord_Open : Nat := 13
def F_coord_Tick : Nat := 14
def F_coord_Handle : Nat := 15
def F_lockgateref21_SameBook : Nat := 16
def F_lockgateref16_Same : Nat := 21
def F_lockgatelaw21_lay : Nat := 23
def F_lockgatelaw21_give : Nat := 24
def F_lockgateref21_Beat : Nat := 25
def F_chain_Again : Nat := 26
def F_chain_New : Nat := 27
def F_chain_Push : Nat := 28
def F_lockgateref18_Entry : Nat := 29
def F_ver_Next : Nat := 30
def F_twin_Bureau : Nat := 35
def F_coord_desk_look : Nat := 36
def F_coord_desk_again : Nat := 37
def F_ver_Later : Nat := 39
def F_lockgateref01_Ahead : Nat := 41
def F_lockgateref10_Do : Nat := 43
def F_chain_Handle : Nat := 44
def F_chain_install : Nat := 46
def F_view_Behind : Nat := 47
def F_chain_forward : Nat := 48
def F_view_Ahead : Nat := 49
def F_chain_acked : Nat := 50
def F_chain_own : Nat := 51
def F_chain_push : Nat := 52
def F_lockgateref01_Num : Nat := 53
def F_slices_Clone_api_Member : Nat := 57
def F_slices_Clone_api_Alive : Nat := 58
def F_twin_Msgs : Nat := 60
def F_coord_Up : Nat := 61
def F_coord_oneDown : Nat := 63
def F_coord_oneUp : Nat := 64
def F_coord_desk_grows : Nat := 65
def F_coord_desk_end : Nat := 66
def F_coord_frozen : Nat := 67
def F_coord_desk_reset : Nat := 74
def F_ver_Ahead : Nat := 75
def F_chain_to : Nat := 83
def F_slices_Clone_api_Entry : Nat := 84
def F_slices_Clone_api_Seen : Nat := 85
def F_view_Index : Nat := 86
def F_slices_Clone_bool : Nat := 87
def F_tail_Push : Nat := 88
def F_seen_Put : Nat := 89
def F_seen_Of : Nat := 90
def F_slices_Clone_api_Msg : Nat := 91
def F_twin_Msg : Nat := 92
def F_place_Both : Nat := 93
def F_slices_ContainsFunc_api_Member : Nat := 94
def F_coord_oneDown_c1 : Nat := 95
def F_coord_isUp : Nat := 96
def F_coord_oneUp_c1 : Nat := 97
def F_slices_Equal_api_Member : Nat := 98
def F_coord_desk_grows_c1 : Nat := 99
def F_coord_desk_grows_c1_c1 : Nat := 100
def F_coord_desk_may : Nat := 101
def F_coord_best : Nat := 102
def F_place_Chain : Nat := 103
def F_place_Lead : Nat := 104
def F_coord_desk_wasReset : Nat := 105
def F_slices_IndexFunc_api_Msg : Nat := 106
def F_slices_BinarySearchFunc_int : Nat := 110
def F_coord_desk_beat_c1 : Nat := 111
def F_slices_Insert_api_Alive : Nat := 112
def F_twin_Views : Nat := 126
def F_slices_IndexFunc_api_Member : Nat := 127
def F_coord_desk_may_c1 : Nat := 128
def F_coord_desk_gone : Nat := 129
def F_place_turn : Nat := 130
def F_place_Chain_c1 : Nat := 131
def F_slices_DeleteFunc_api_Msg : Nat := 132
def F_coord_desk_wasReset_c1 : Nat := 133
def F_ver_Make : Nat := 138
def F_slices_Contains_bool : Nat := 139
def F_chain_takeUp : Nat := 141
def F_tail_Lift : Nat := 142
def F_slices_ContainsFunc_api_Alive : Nat := 149
def F_coord_desk_gone_c1 : Nat := 150
def F_slices_Index_bool : Nat := 152
def F_ver_Num : Nat := 153
def F_slices_DeleteFunc_api_Entry : Nat := 154
def F_tail_Lift_c1 : Nat := 155
def F_slices_IndexFunc_api_Alive : Nat := 158
def F_slices_IndexFunc_api_Entry : Nat := 160
end Go.Wk
end
noncomputable section
open Go Go.AM Go.Md
namespace Go.Wk
set_option maxRecDepth 100000
set_option maxHeartbeats 1000000
def env0 : Env := envO []
theorem con0 {n f : Nat} {args : List AV} {r : AV} (e : callT env0 n f args = some r) : Contract PG f args [] r [] := con_of (md := fun _ => none) (l := []) (fun k hk => by cases hk) e
theorem clone_of {X : Type} {F sz b : Nat} {e : X -> List AV} {z : X} (hb : b <= 1000) (hn : callT env0 2 F [.nils] = some .nils) (he : callT env0 2 F [.trl sz []] = some (.trl sz []))
  (hs : ∀ n f, callT env0 2 F [.tr sz (n + 1) f] = bif Nat.ble ((0 + (n + 1)) * b) 140737488355328 && Nat.ble (0 + (n + 1)) 140737488355328 then bif Nat.ble (n + 1) (n + 1) then some (.tr sz (n + 1) f) else none else none)
  (l : List X) (hl : l.length <= LB) : Contract PG F [encL sz e z l] [] (encL sz e z l) [] := by
 unfold LB at hl
 cases l with
 | nil => exact Contract.split (OrC.of [] [] .nil) ((con0 hn).res .nils) ((con0 he).res (SubV.trl_encL (e := e) (z := z) []))
 | cons x r =>
  have h := hs r.length (fun i => e ((x :: r).getD i z))
  simp only [List.length_cons] at hl
  have h1 : (0 + (r.length + 1)) * b <= 140737488355328 := by
   have : (0 + (r.length + 1)) * b <= 1000000 * 1000 := Nat.mul_le_mul (by omega) hb
   omega
  rw [ble_true h1, ble_true (by omega), ble_true (Nat.le_refl _)] at h
  exact con0 h
theorem clone_Member_eq (n : Nat) (f : Nat -> List AV) : callT env0 2 F_slices_Clone_api_Member [.tr 2 (n + 1) f] = bif Nat.ble ((0 + (n + 1)) * 16) 140737488355328 && Nat.ble (0 + (n + 1)) 140737488355328 then bif Nat.ble (n + 1) (n + 1) then some (.tr 2 (n + 1) f) else none else none := by kernel_rfl
theorem clone_Entry_eq (n : Nat) (f : Nat -> List AV) : callT env0 2 F_slices_Clone_api_Entry [.tr 11 (n + 1) f] = bif Nat.ble ((0 + (n + 1)) * 112) 140737488355328 && Nat.ble (0 + (n + 1)) 140737488355328 then bif Nat.ble (n + 1) (n + 1) then some (.tr 11 (n + 1) f) else none else none := by kernel_rfl
theorem clone_Seen_eq (n : Nat) (f : Nat -> List AV) : callT env0 2 F_slices_Clone_api_Seen [.tr 7 (n + 1) f] = bif Nat.ble ((0 + (n + 1)) * 72) 140737488355328 && Nat.ble (0 + (n + 1)) 140737488355328 then bif Nat.ble (n + 1) (n + 1) then some (.tr 7 (n + 1) f) else none else none := by kernel_rfl
theorem clone_bool_eq (n : Nat) (f : Nat -> List AV) : callT env0 2 F_slices_Clone_bool [.tr 1 (n + 1) f] = bif Nat.ble ((0 + (n + 1)) * 1) 140737488355328 && Nat.ble (0 + (n + 1)) 140737488355328 then bif Nat.ble (n + 1) (n + 1) then some (.tr 1 (n + 1) f) else none else none := by kernel_rfl
theorem clone_Member (l : List Member) (h : l.length <= LB) : Contract PG F_slices_Clone_api_Member [encMembers l] [] (encMembers l) [] :=
 clone_of (b := 16) (by omega) (by kernel_rfl) (by kernel_rfl) clone_Member_eq l h
theorem clone_Entry (l : List Entry) (h : l.length <= LB) : Contract PG F_slices_Clone_api_Entry [encEntrys l] [] (encEntrys l) [] :=
 clone_of (b := 112) (by omega) (by kernel_rfl) (by kernel_rfl) clone_Entry_eq l h
theorem clone_Seen (l : List Seen) (h : l.length <= LB) : Contract PG F_slices_Clone_api_Seen [encSeens l] [] (encSeens l) [] :=
 clone_of (b := 72) (by omega) (by kernel_rfl) (by kernel_rfl) clone_Seen_eq l h
theorem clone_bool (l : List Bool) (h : l.length <= LB) : Contract PG F_slices_Clone_bool [encBools l] [] (encBools l) [] :=
 clone_of (b := 1) (by omega) (by kernel_rfl) (by kernel_rfl) clone_bool_eq l h
def dL {X : Type} (d : List AV -> X) (a : List AV) : List X := decL d (a.getD 0 .nils)
def shortL {X : Type} (l : List X) : Prop := l.length <= LB
def eMems (l : List Member) : List AV := [encMembers l]
def eEnts (l : List Entry) : List AV := [encEntrys l]
def eSeens (l : List Seen) : List AV := [encSeens l]
def eBools (l : List Bool) : List AV := [encBools l]
theorem qMems {R : Type} {l : List Member} {k : List Member -> Option R} (h : shortL l) : gC (dL decMember) shortL eMems [encMembers l] k = k l := gC_eq l (decMembers l) h (.refl _)
theorem qEnts {R : Type} {l : List Entry} {k : List Entry -> Option R} (h : shortL l) : gC (dL decEntry) shortL eEnts [encEntrys l] k = k l := gC_eq l (decEntrys l) h (.refl _)
theorem qSeens {R : Type} {l : List Seen} {k : List Seen -> Option R} (h : shortL l) : gC (dL decSeen) shortL eSeens [encSeens l] k = k l := gC_eq l (decSeens l) h (.refl _)
def kCloneMember : Known := .spec F_slices_Clone_api_Member (dL decMember) shortL eMems encMembers
def kCloneEntry : Known := .spec F_slices_Clone_api_Entry (dL decEntry) shortL eEnts encEntrys
def kCloneSeen : Known := .spec F_slices_Clone_api_Seen (dL decSeen) shortL eSeens encSeens
def kCloneBool : Known := .spec F_slices_Clone_bool (dL decBool) shortL eBools encBools
theorem kCloneMember_ok : kCloneMember.Ok PG := Known.spec_ok clone_Member
theorem kCloneEntry_ok : kCloneEntry.Ok PG := Known.spec_ok clone_Entry
theorem kCloneSeen_ok : kCloneSeen.Ok PG := Known.spec_ok clone_Seen
theorem kCloneBool_ok : kCloneBool.Ok PG := Known.spec_ok clone_bool
theorem wrapS {i : Nat} (h : i <= 2000000) : IntKind.i64.wrap ((i : Int) + 1) = ((i + 1 : Nat) : Int) := wrap64 (by omega)
theorem dec_nat {i n : Nat} : decide ((i : Int) < (n : Int)) = decide (i < n) := by simp
theorem dec_nonneg (i : Nat) : decide ((0 : Int) <= (i : Int)) = true := by simp
theorem mem_eq (x m : Member) : (decide (x.node = m.node) && decide (x.boot = m.boot)) = decide (x = m) := by
 cases x; cases m; simp [Bool.decide_and]
def SIdx (l : List Member) (m : Member) (i : Int) : St := { fr := [(3, .ptr 0 0 0), (7, encMembers l), (8, .int .i64 l.length), (9, .int .i64 i)], hp := [.arr true 2 [encMember m]] }
theorem idx_in (N : Nat) (l : List Member) (mm : Member) : callT env0 (N + 1) F_view_Index [encMembers l, .agg (encMember mm)] = LP env0 N 0 F_view_Index snK 0 [] N (SIdx l mm 0) := by kernel_rfl
theorem idx_step (N m : Nat) (l : List Member) (mm : Member) (i : Int) : LP env0 N 0 F_view_Index snK 0 [] (m + 1) (SIdx l mm i) =
  bif decide (i < (l.length : Int)) then bif decide (0 <= i) && decide (i < (l.length : Int)) then
   bif decide ((l.getD i.toNat default).node = mm.node) && (decide ((l.getD i.toNat default).boot = mm.boot) && true) then some (.int .i64 i)
   else LP env0 N 0 F_view_Index snK 0 [] m (SIdx l mm (IntKind.i64.wrap (i + 1)))
  else none else some (.int .i64 (-1)) := by kernel_rfl
theorem idx_loop {N : Nat} {l : List Member} {mm : Member} (hl : l.length <= LB) : ∀ d i m, i + d = l.length -> d < m -> LP env0 N 0 F_view_Index snK 0 [] m (SIdx l mm (i : Nat)) = some (.int .i64 (idxFrom mm (l.drop i) i)) := by
 unfold LB at hl
 intro d
 induction d with
 | zero =>
  intro i m hi hm
  obtain ⟨m, rfl⟩ : ∃ k, m = k + 1 := ⟨m - 1, by omega⟩
  rw [idx_step, dec_nat, decide_eq_false (by omega), cond_false, List.drop_eq_nil_of_le (by omega)]
  rfl
 | succ d ih =>
  intro i m hi hm
  obtain ⟨m, rfl⟩ : ∃ k, m = k + 1 := ⟨m - 1, by omega⟩
  rw [idx_step, dec_nat, decide_eq_true (by omega), dec_nonneg, drop_cons (z := default) (by omega : i < l.length)]
  simp only [cond_true, Bool.and_true, Int.toNat_natCast, mem_eq, idxFrom]
  by_cases h : l.getD i default = mm
  ·simp only [decide_eq_true h, cond_true, if_pos h]
  ·simp only [decide_eq_false h, cond_false, if_neg h]
   rw [wrapS (by omega), ih (i + 1) m (by omega) (by omega)]
abbrev LM := List Member × Member
def decLM (a : List AV) : LM := (decL decMember (a.getD 0 .nils), decMember (argC a 1))
def preLM (x : LM) : Prop := x.1.length <= LB
def encLM (x : LM) : List AV := [encMembers x.1, .agg (encMember x.2)]
theorem qLM {R : Type} {l : List Member} {m : Member} {k : LM -> Option R} (h : l.length <= LB) : gC decLM preLM encLM [encMembers l, .agg (encMember m)] k = k (l, m) := gC_eq (l, m) (Prod.ext (decMembers l) rfl) h (.refl _)
def kIndex : Known := .spec F_view_Index decLM preLM encLM (fun x => .int .i64 (idx x.1 x.2))
theorem kIndex_ok : kIndex.Ok PG := Known.spec_ok fun x h => by
 have := (idx_in (x.1.length + 1) x.1 x.2).trans (idx_loop (N := x.1.length + 1) (mm := x.2) h x.1.length 0 (x.1.length + 1) (by omega) (by omega))
 exact con0 this
theorem up_loop {n : Nat} (P : Nat -> Nat -> Prop) (h0 : ∀ m, P n (m + 1)) (hs : ∀ i m, i < n -> P (i + 1) m -> P i (m + 1)) : ∀ i m, i <= n -> n - i < m -> P i m := by
 intro i m hi hm
 obtain ⟨d, hd⟩ : ∃ d, n - i = d := ⟨_, rfl⟩
 induction d generalizing i m with
 | zero =>
  have : i = n := by omega
  subst this
  obtain ⟨m, rfl⟩ : ∃ k, m = k + 1 := ⟨m - 1, by omega⟩
  exact h0 m
 | succ d ih =>
  obtain ⟨m, rfl⟩ : ∃ k, m = k + 1 := ⟨m - 1, by omega⟩
  exact hs i m (by omega) (ih (i + 1) m (by omega) (by omega) (by omega))
theorem scan_loop {n : Nat} (hn : n <= LB) {G : Nat -> Int -> Option AV} {C : Nat -> Bool}
  (hs : ∀ m (i : Int), G (m + 1) i = bif decide (i < (n : Int)) then bif decide (0 <= i) && decide (i < (n : Int)) then bif decide (0 <= i) && decide (i < (n : Int)) then
   bif !(C i.toNat) then some (.bool false) else G m (IntKind.i64.wrap (i + 1)) else none else none else some (.bool true))
  (hC : ∀ i, i < n -> C i = true) {m : Nat} (hm : n < m) : G m 0 = some (.bool true) := by
 unfold LB at hn
 refine up_loop (n := n) (fun i m => G m (i : Int) = some (.bool true)) (fun m => ?_) (fun i m hi ih => ?_) 0 m (Nat.zero_le _) (by omega)
 ·rw [hs, dec_nat, decide_eq_false (by omega), cond_false]
 ·rw [hs, dec_nat, decide_eq_true hi, dec_nonneg]
  simp only [cond_true, Bool.and_true, Int.toNat_natCast, hC i hi, Bool.not_true, cond_false]
  rw [wrapS (by omega)]; exact ih
def SSm (a : List Member) (i : Int) : St := { fr := [(0, encMembers a), (1, encMembers a), (5, .int .i64 i)], hp := [] }
theorem same16_in (N : Nat) (a : List Member) : callT env0 (N + 1) F_lockgateref16_Same [encMembers a, encMembers a] = bif !decide ((a.length : Int) = (a.length : Int)) then some (.bool false) else LP env0 N 0 F_lockgateref16_Same snK 0 [] N (SSm a 0) := by kernel_rfl
def eqMem (x : Member) : Bool := decide (x.node = x.node) && (decide (x.boot = x.boot) && true)
theorem same16_step (N : Nat) (a : List Member) (m : Nat) (i : Int) : LP env0 N 0 F_lockgateref16_Same snK 0 [] (m + 1) (SSm a i) =
  bif decide (i < (a.length : Int)) then bif decide (0 <= i) && decide (i < (a.length : Int)) then bif decide (0 <= i) && decide (i < (a.length : Int)) then
   bif !(eqMem (a.getD i.toNat default)) then some (.bool false) else LP env0 N 0 F_lockgateref16_Same snK 0 [] m (SSm a (IntKind.i64.wrap (i + 1))) else none else none else some (.bool true) := by kernel_rfl
theorem getD_mem {X : Type} {l : List X} {i : Nat} {z : X} (h : i < l.length) : l.getD i z ∈ l := by
 simp [List.getD, List.getElem?_eq_getElem h]
theorem same16_con (a : List Member) (h : a.length <= LB) : Contract PG F_lockgateref16_Same [encMembers a, encMembers a] [] (.bool true) [] := by
 refine con0 ((same16_in (a.length + 1) a).trans ?_)
 rw [decide_eq_true rfl]
 exact scan_loop (G := fun m i => LP env0 (a.length + 1) 0 F_lockgateref16_Same snK 0 [] m (SSm a i)) (C := fun i => eqMem (a.getD i default)) h (same16_step _ a) (fun i hi => by simp [eqMem]) (by omega)
def kSame16 : Known := .spec F_lockgateref16_Same (dL decMember) shortL (fun l => [encMembers l, encMembers l]) (fun _ => .bool true)
theorem kSame16_ok : kSame16.Ok PG := Known.spec_ok same16_con
theorem ble_self (n : Nat) : Nat.ble n n = true := ble_true (Nat.le_refl n)
theorem ak {k : Known} {l : List Known} (h : k.Ok PG) (t : ∀ x ∈ l, x.Ok PG) : ∀ x ∈ k :: l, x.Ok PG := fun x hx => by
 rcases List.mem_cons.1 hx with rfl | hx
 ·exact h
 ·exact t x hx
theorem ank : ∀ x ∈ ([] : List Known), x.Ok PG := fun x hx => by cases hx
def rg (i n : Int) {R : Type} (k : Option R) : Option R := bif decide (0 <= i) && decide (i < n) then k else none
theorem rg_eq {i n : Nat} (h : i < n) {R : Type} {k : Option R} : rg (i : Int) (n : Int) k = k := by
 unfold rg; rw [dec_nonneg, dec_nat, decide_eq_true h]; rfl
end Go.Wk
end
noncomputable section
open Go Go.AM Go.Md Go.Fl
open Ieee (double)
namespace Go.Wk
set_option maxRecDepth 100000
set_option maxHeartbeats 1000000
theorem ahead_eq (a b : Ver) : callT env0 4 F_ver_Ahead [eV a, eV b] = bif !fEq .f64 a.re b.re then some (.bool (fLt .f64 a.re b.re)) else some (.bool (fLt .f64 a.im b.im)) := by kernel_rfl
def eV2 (p : Ver × Ver) : List AV := [eV p.1, eV p.2]
def dV2 (a : List AV) : Ver × Ver := (⟨(getC a 0).1, (getC a 0).2⟩, ⟨(getC a 1).1, (getC a 1).2⟩)
def V2 (p : Ver × Ver) : Prop := VNum p.1 /\ VNum p.2
theorem qV2 {R : Type} {a b : Ver} {k : Ver × Ver -> Option R} (ha : VNum a) (hb : VNum b) : gC dV2 V2 eV2 [.cplx .f64 a.re a.im, .cplx .f64 b.re b.im] k = k (a, b) := gC_eq (a, b) rfl ⟨ha, hb⟩ (.refl _)
theorem ahead_con (p : Ver × Ver) (h : V2 p) : Contract PG F_ver_Ahead [eV p.1, eV p.2] [] (.bool (vlt p.1 p.2)) [] := by
 refine con0 ((ahead_eq p.1 p.2).trans ?_)
 rw [bif_not, bif_some, <- fvlt h.1 h.2]
 cases fEq .f64 p.1.re p.2.re <;> rfl
def kAhead : Known := .spec F_ver_Ahead dV2 V2 eV2 (fun p => .bool (vlt p.1 p.2))
theorem kAhead_ok : kAhead.Ok PG := Known.spec_ok ahead_con
theorem later_eq (a b : Ver) : callT env0 4 F_ver_Later [eV a, eV b] = bif !fEq .f64 b.re a.re then bif fLt .f64 b.re a.re then some (eV a) else some (eV b) else bif fLt .f64 b.im a.im then some (eV a) else some (eV b) := by kernel_rfl
theorem later_con (p : Ver × Ver) (h : V2 p) : Contract PG F_ver_Later [eV p.1, eV p.2] [] (eV (vmax p.1 p.2)) [] := by
 refine con0 ((later_eq p.1 p.2).trans ?_)
 rw [bif_not, <- vmax_swap h.1 h.2, <- fvlt h.2 h.1]
 cases fEq .f64 p.2.re p.1.re <;> cases fLt .f64 p.2.im p.1.im <;> cases fLt .f64 p.2.re p.1.re <;> rfl
def kLater : Known := .spec F_ver_Later dV2 V2 eV2 (fun p => eV (vmax p.1 p.2))
theorem kLater_ok : kLater.Ok PG := Known.spec_ok later_con
end Go.Wk
end
noncomputable section
open Go Go.AM Go.Md Go.Fl
namespace Go.Wk
set_option maxRecDepth 100000
set_option maxHeartbeats 1000000
def gF {R : Type} (b : Nat) (k : Option R) : Option R := bif (fI b).isSome then bif decide (IntKind.i64.min <= (fI b).getD 0) && decide ((fI b).getD 0 <= IntKind.i64.max) then k else none else none
theorem gF_eq {R : Type} {b : Nat} {k : Option R} (h : okI b) : gF b k = k := by
 obtain ⟨h1, h2, h3⟩ := h
 unfold gF; rw [h1, decide_eq_true h2, decide_eq_true h3]; rfl
theorem rahead_eq (a b : Ver) : callT env0 4 F_lockgateref01_Ahead [eV a, eV b] = gF a.re (gF b.re (bif decide (vE a = vE b) then gF a.im (gF b.im (some (.bool (decide (vN a < vN b))))) else gF a.re (gF b.re (some (.bool (decide (vE a < vE b))))))) := by kernel_rfl
theorem rahead_con (p : Ver × Ver) (h : V2 p) : Contract PG F_lockgateref01_Ahead [eV p.1, eV p.2] [] (.bool (vlt p.1 p.2)) [] := by
 refine con0 ((rahead_eq p.1 p.2).trans ?_)
 obtain ⟨ha, hb⟩ := h
 simp only [gF_eq ha.int.1, gF_eq ha.int.2, gF_eq hb.int.1, gF_eq hb.int.2, vE_ep ha, vE_ep hb, vN_nu ha, vN_nu hb, dec_int, dec_ilt]
 unfold vlt
 cases decide (ep p.1 = ep p.2) <;> rfl
def kRAhead : Known := .spec F_lockgateref01_Ahead dV2 V2 eV2 (fun p => .bool (vlt p.1 p.2))
theorem kRAhead_ok : kRAhead.Ok PG := Known.spec_ok rahead_con
def dV1 (a : List AV) : Ver := ⟨(getC a 0).1, (getC a 0).2⟩
def eV1 (v : Ver) : List AV := [eV v]
theorem qV1 {R : Type} {a : Ver} {k : Ver -> Option R} (ha : VNum a) : gC dV1 VNum eV1 [.cplx .f64 a.re a.im] k = k a := gC_eq a rfl ha (.refl _)
theorem num_eq (a : Ver) : callT env0 4 F_ver_Num [eV a] = gF a.im (some (.int .i64 (vN a))) := by kernel_rfl
theorem rnum_eq (a : Ver) : callT env0 4 F_lockgateref01_Num [eV a] = gF a.im (some (.int .i64 (vN a))) := by kernel_rfl
theorem num_con (a : Ver) (h : VNum a) : Contract PG F_ver_Num [eV a] [] (.int .i64 (nu a)) [] := con0 ((num_eq a).trans (by rw [gF_eq h.int.2, vN_nu h]))
theorem rnum_con (a : Ver) (h : VNum a) : Contract PG F_lockgateref01_Num [eV a] [] (.int .i64 (nu a)) [] := con0 ((rnum_eq a).trans (by rw [gF_eq h.int.2, vN_nu h]))
def kNum : Known := .spec F_ver_Num dV1 VNum eV1 (fun p => .int .i64 (nu p))
theorem kNum_ok : kNum.Ok PG := Known.spec_ok num_con
def kRNum : Known := .spec F_lockgateref01_Num dV1 VNum eV1 (fun p => .int .i64 (nu p))
theorem kRNum_ok : kRNum.Ok PG := Known.spec_ok rnum_con
def dI2 (a : List AV) : Nat × Nat := ((getI a 0).toNat, (getI a 1).toNat)
theorem make_eq (a b : Int) : callT env0 4 F_ver_Make [.int .i64 a, .int .i64 b] = some (.cplx .f64 (FloatKind.f64.nearest a) (FloatKind.f64.nearest b)) := by kernel_rfl
theorem make_con (p : Nat × Nat) (_ : True) : Contract PG F_ver_Make [.int .i64 p.1, .int .i64 p.2] [] (eV (vr p.1 p.2)) [] := con0 ((make_eq p.1 p.2).trans (by rw [near_fl, near_fl]; rfl))
def pI2 (_ : Nat × Nat) : Prop := True
def eI2 (p : Nat × Nat) : List AV := [.int .i64 p.1, .int .i64 p.2]
def kMake : Known := .spec F_ver_Make dI2 pI2 eI2 (fun p => eV (vr p.1 p.2))
theorem kMake_ok : kMake.Ok PG := Known.spec_ok make_con
def dVI (a : List AV) : Ver × Nat := (⟨(getC a 0).1, (getC a 0).2⟩, (getI a 1).toNat)
theorem next_eq (a : Ver) (e : Int) : callT env0 4 F_ver_Next [eV a, .int .i64 e] = bif (FloatKind.f64.format.add a.im 4607182418800017408).isSome then some (.cplx .f64 (FloatKind.f64.nearest e) ((FloatKind.f64.format.add a.im 4607182418800017408).getD 0)) else none := by kernel_rfl
theorem next_con (p : Ver × Nat) (h : VNum p.1) : Contract PG F_ver_Next [eV p.1, .int .i64 p.2] [] (eV (vr p.2 (nu p.1 + 1))) [] := by
 refine con0 ((next_eq p.1 p.2).trans ?_)
 have h2 := h.lt
 have e : p.1.im = fl (nu p.1) := congrArg Ver.im h.eta
 rw [e, next_fl (by omega), near_fl, Option.isSome_some, cond_true, Option.getD_some]
 rfl
def pVI (p : Ver × Nat) : Prop := VNum p.1
def eVI (p : Ver × Nat) : List AV := [eV p.1, .int .i64 p.2]
def kNext : Known := .spec F_ver_Next dVI pVI eVI (fun p => eV (vr p.2 (nu p.1 + 1)))
theorem kNext_ok : kNext.Ok PG := Known.spec_ok next_con
end Go.Wk
end
noncomputable section
open Go Go.AM Go.Md
namespace Go.Wk
set_option maxRecDepth 100000
set_option maxHeartbeats 1000000
def dRep1 (a : List AV) : Rep := decRep (argC a 0)
def pRep1 (_ : Rep) : Prop := True
def eRep1 (r : Rep) : List AV := [.agg (encRep r)]
theorem qRep1 {R : Type} {r : Rep} {P : Rep -> Prop} {k : Rep -> Option R} (h : P r) : gC dRep1 P eRep1 [.agg (encRep r)] k = k r := gC_eq r (dec_encRep r) h (.refl _)
def kns8 : List Known := [kIndex]
theorem kns8_ok : ∀ k ∈ kns8, k.Ok PG := ak kIndex_ok ank
def envH : Env := envO kns8
theorem conH {n f : Nat} {xs : List AV} {r : AV} (e : callT envH n f xs = some r) : Contract PG f xs [] r [] := con_of (md := fun _ => none) kns8_ok e
def chF (l : List Member) (m : Member) : Bool := decide ((l.getD (Int.toNat 0) default).node = m.node) && (decide ((l.getD (Int.toNat 0) default).boot = m.boot) && true)
def gFst {R : Type} (l : List Member) (m : Member) (no : Option R) (k : Bool -> Option R) : Option R := bif decide ((l.length : Int) = 0) then no else bif decide (0 < (l.length : Int)) then k (chF l m) else none
theorem gFst_eq {R : Type} {l : List Member} {m : Member} {no : Option R} {k : Bool -> Option R} (h : no = k false) : gFst l m no k = k (isFirst l m) := by
 unfold gFst
 cases l with
 | nil => exact h
 | cons x r =>
  rw [decide_eq_false (by simp only [List.length_cons]; omega), cond_false, decide_eq_true (by simp only [List.length_cons]; omega), cond_true]
  unfold chF isFirst
  rw [Bool.and_true]
  exact congrArg k (mem_eq x m)
theorem head_eq (r : Rep) : callT envH 6 F_chain_Head [.agg (encRep r)] = bif !decide (r.view.phase = 0) then bif decide (r.frozen <= r.view.epoch) then bif decide (r.view.phase = 3) then
  gFst r.view.chain r.self (some (.bool false)) fun b => some (.bool b) else some (.bool false) else some (.bool false) else some (.bool false) := by kernel_rfl
theorem head_con (r : Rep) (_ : True) : Contract PG F_chain_Head [.agg (encRep r)] [] (.bool (headP r)) [] := by
 refine conH ((head_eq r).trans ?_)
 rw [gFst_eq (no := some (AV.bool false)) (k := fun b => some (AV.bool b)) rfl]
 unfold headP worksP liveP
 cases decide (r.view.phase = 0) <;> cases decide (r.frozen <= r.view.epoch) <;> cases decide (r.view.phase = 3) <;> rfl
def kHead : Known := .spec F_chain_Head dRep1 pRep1 eRep1 (fun r => .bool (headP r))
theorem kHead_ok : kHead.Ok PG := Known.spec_ok head_con
def gIdxR {R : Type} (l : List Member) (m : Member) (k : List Member × Member -> Option R) : Option R := gC decLM preLM encLM [encMembers l, .agg (encMember m)] k
theorem gIdxR_eq {R : Type} {l : List Member} {m : Member} {k : List Member × Member -> Option R} (h : l.length <= LB) : gIdxR l m k = k (l, m) := gC_eq (l, m) (by unfold decLM; exact Prod.ext (decMembers l) rfl) h (.refl _)
def gClM {R : Type} (l : List Member) (k : List Member -> Option R) : Option R := gC (dL decMember) shortL eMems [encMembers l] k
def gClE {R : Type} (l : List Entry) (k : List Entry -> Option R) : Option R := gC (dL decEntry) shortL eEnts [encEntrys l] k
def gClS {R : Type} (l : List Seen) (k : List Seen -> Option R) : Option R := gC (dL decSeen) shortL eSeens [encSeens l] k
def gClB {R : Type} (l : List Bool) (k : List Bool -> Option R) : Option R := gC (dL decBool) shortL eBools [encBools l] k
theorem gClM_eq {R : Type} {l : List Member} {k : List Member -> Option R} (h : shortL l) : gClM l k = k l := gC_eq l (decMembers l) h (.refl _)
theorem gClE_eq {R : Type} {l : List Entry} {k : List Entry -> Option R} (h : shortL l) : gClE l k = k l := gC_eq l (decEntrys l) h (.refl _)
theorem gClS_eq {R : Type} {l : List Seen} {k : List Seen -> Option R} (h : shortL l) : gClS l k = k l := gC_eq l (decSeens l) h (.refl _)
theorem gClB_eq {R : Type} {l : List Bool} {k : List Bool -> Option R} (h : shortL l) : gClB l k = k l := gC_eq l (decBools l) h (.refl _)
def kns9 : List Known := [kCloneMember, kCloneEntry, kCloneSeen, kCloneBool]
theorem kns9_ok : ∀ k ∈ kns9, k.Ok PG := ak kCloneMember_ok (ak kCloneEntry_ok (ak kCloneSeen_ok (ak kCloneBool_ok ank)))
def envC : Env := envO kns9
theorem conC {n f : Nat} {xs : List AV} {r : AV} (e : callT envC n f xs = some r) : Contract PG f xs [] r [] := con_of (md := fun _ => none) kns9_ok e
theorem own_eq (r : Rep) : callT envC 3 F_chain_own [.agg (encRep r)] = gClM r.view.chain fun a => gClE r.tail.log fun b => gClS r.seen fun c => gClB r.synced fun d =>
  some (.agg (encRep { r with view := { r.view with chain := a }, tail := { r.tail with log := b }, seen := c, synced := d })) := by kernel_rfl
def RepShort (r : Rep) : Prop := shortL r.view.chain /\ shortL r.tail.log /\ shortL r.seen /\ shortL r.synced
theorem own_con (r : Rep) (h : RepShort r) : Contract PG F_chain_own [.agg (encRep r)] [] (.agg (encRep r)) [] :=
 conC ((own_eq r).trans (by rw [gClM_eq h.1, gClE_eq h.2.1, gClS_eq h.2.2.1, gClB_eq h.2.2.2]))
def kOwn : Known := .spec F_chain_own dRep1 RepShort eRep1 (fun r => .agg (encRep r))
theorem kOwn_ok : kOwn.Ok PG := Known.spec_ok own_con
def subAll : List AV -> List AV -> Prop
 | [], [] => True
 | a :: r, b :: s => SubV a b /\ subAll r s
 | _, _ => False
theorem subC_all : ∀ {a b : List AV}, subAll a b -> SubC a b
 | [], [], _ => .nil
 | _ :: _, _ :: _, h => .cons h.1 (subC_all h.2)
 | [], _ :: _, h => h.elim
 | _ :: _, [], h => h.elim
def toN (r : Rep) (x : Member) (k : Int) : List AV := [.int .i64 k, .int .i64 r.self.node, .int .i64 x.node, .int .i64 x.boot, .int .i64 r.self.boot, .int .i64 r.shard, .int .i64 r.view.epoch, .int .i64 0, .int .i64 0, .int .i64 0, .int .i64 0, .int .i64 0, .bool false, .bool false, .str [], .str [], .cplx .f64 0 0, .cplx .f64 0 0, .int .i64 0, .str [], .str [], .str [], .bool false, .nils, .nils, .nils, .cplx .f64 0 0, .cplx .f64 0 0, .int .i64 0, .nils, .nils]
theorem to_eq (r : Rep) (x : Member) (k : Int) : callT env0 6 F_chain_to [.agg (encRep r), .agg (encMember x), .int .i64 k] = some (.agg (toN r x k)) := by kernel_rfl
theorem subRest {a b : List AV} {l : List AV} (h : SubC a b) : SubC (l ++ a) (l ++ b) := by
 induction l with
 | nil => exact h
 | cons c l ih => exact .cons (.refl _) ih
theorem nilsL {X : Type} {sz : Nat} {e : X -> List AV} {z : X} : SubV .nils (encL sz e z []) := SubV.nils
theorem toN_sub (r : Rep) (x : Member) (k : Int) : SubC (toN r x k) (encMsg (toM r x k)) :=
 subRest (l := [.int .i64 k, .int .i64 r.self.node, .int .i64 x.node, .int .i64 x.boot, .int .i64 r.self.boot, .int .i64 r.shard, .int .i64 r.view.epoch, .int .i64 0, .int .i64 0, .int .i64 0, .int .i64 0, .int .i64 0, .bool false, .bool false, .str [], .str [], .cplx .f64 0 0, .cplx .f64 0 0, .int .i64 0, .str [], .str [], .str [], .bool false])
  (a := [.nils, .nils, .nils, .cplx .f64 0 0, .cplx .f64 0 0, .int .i64 0, .nils, .nils]) (b := [encEntrys [], encMembers [], encViews [], .cplx .f64 0 0, .cplx .f64 0 0, .int .i64 0, encEntrys [], encSeens []])
  (.cons nilsL (.cons nilsL (.cons nilsL (subRest (l := [.cplx .f64 0 0, .cplx .f64 0 0, .int .i64 0]) (.cons nilsL (.cons nilsL .nil))))))
theorem to_con (p : Rep × Member × Int) (_ : True) : Contract PG F_chain_to [.agg (encRep p.1), .agg (encMember p.2.1), .int .i64 p.2.2] [] (.agg (encMsg (toM p.1 p.2.1 p.2.2))) [] :=
 (con0 (to_eq p.1 p.2.1 p.2.2)).res (.agg (toN_sub _ _ _))
abbrev RMI := Rep × Member × Int
def dTo (a : List AV) : RMI := (decRep (argC a 0), decMember (argC a 1), getI a 2)
def pTo (_ : RMI) : Prop := True
def eTo (p : RMI) : List AV := [.agg (encRep p.1), .agg (encMember p.2.1), .int .i64 p.2.2]
def kTo : Known := .spec F_chain_to dTo pTo eTo (fun p => .agg (encMsg (toM p.1 p.2.1 p.2.2)))
theorem kTo_ok : kTo.Ok PG := Known.spec_ok to_con
def kToN : Known := .spec F_chain_to dTo pTo eTo (fun p => .agg (toN p.1 p.2.1 p.2.2))
theorem kToN_ok : kToN.Ok PG := Known.spec_ok fun p _ => con0 (to_eq p.1 p.2.1 p.2.2)
theorem qTo {R : Type} {r : Rep} {x : Member} {i : Int} {k : RMI -> Option R} : gC dTo pTo eTo [.agg (encRep r), .agg (encMember x), .int .i64 i] k = k (r, x, i) := gC_eq (r, x, i) (Prod.ext (dec_encRep r) rfl) trivial (.refl _)
theorem of_eq (e : Entry) : callT env0 6 F_seen_Of [.agg (encEntry e)] = some (.agg (encSeen (ofP e))) := by kernel_rfl
def dEnt1 (a : List AV) : Entry := decEntry (argC a 0)
def pEnt1 (_ : Entry) : Prop := True
def eEnt1 (e : Entry) : List AV := [.agg (encEntry e)]
theorem qEnt1 {R : Type} {e : Entry} {k : Entry -> Option R} : gC dEnt1 pEnt1 eEnt1 [.agg (encEntry e)] k = k e := gC_eq e (dec_encEntry e) trivial (.refl _)
def kOf : Known := .spec F_seen_Of dEnt1 pEnt1 eEnt1 (fun e => .agg (encSeen (ofP e)))
theorem kOf_ok : kOf.Ok PG := Known.spec_ok fun e _ => con0 (of_eq e)
theorem rent_eq (v : Ver) : callT env0 6 F_lockgateref18_Entry [eV v] = gF v.im (some (.agg (encEntry ⟨v, 2, [107], [118], true, false, 1, vN v, 0, [], false⟩))) := by kernel_rfl
theorem rent_con (v : Ver) (h : VNum v) : Contract PG F_lockgateref18_Entry [eV v] [] (.agg (encEntry (entP v))) [] :=
 con0 ((rent_eq v).trans (by rw [gF_eq h.int.2, vN_nu h]; rfl))
def kREntry : Known := .spec F_lockgateref18_Entry dV1 VNum eV1 (fun p => .agg (encEntry (entP p)))
theorem kREntry_ok : kREntry.Ok PG := Known.spec_ok rent_con
def sideA (o : Option Member) : AV := .tup [.agg (encMember (o.getD default)), .bool o.isSome]
theorem behind_eq (l : List Member) (m : Member) : callT envH 6 F_view_Behind [encMembers l, .agg (encMember m)] = gIdxR l m fun y =>
  bif decide (idx y.1 y.2 < 0) then some (sideA none) else bif decide ((l.length : Int) <= IntKind.i64.wrap (idx y.1 y.2 + 1)) then some (sideA none) else
  rg (IntKind.i64.wrap (idx y.1 y.2 + 1)) l.length (some (sideA (some (l.getD (IntKind.i64.wrap (idx y.1 y.2 + 1)).toNat default)))) := by kernel_rfl
theorem ahead'_eq (l : List Member) (m : Member) : callT envH 6 F_view_Ahead [encMembers l, .agg (encMember m)] = gIdxR l m fun y =>
  bif decide (idx y.1 y.2 < 1) then some (sideA none) else
  rg (IntKind.i64.wrap (idx y.1 y.2 - 1)) l.length (some (sideA (some (l.getD (IntKind.i64.wrap (idx y.1 y.2 - 1)).toNat default)))) := by kernel_rfl
theorem rg_int {R : Type} {i n : Int} {k : Option R} (h : 0 <= i /\ i < n) : rg i n k = k := by
 unfold rg; rw [decide_eq_true h.1, decide_eq_true h.2]; rfl
theorem behind_con (x : LM) (h : preLM x) : Contract PG F_view_Behind [encMembers x.1, .agg (encMember x.2)] [] (sideA (sideP x.1 x.2 1)) [] := by
 refine conH ((behind_eq x.1 x.2).trans ?_)
 rw [gIdxR_eq h]
 have hb := idx_le x.1 x.2
 have hl : x.1.length <= 1000000 := h
 simp only [wrap64 (x := idx x.1 x.2 + 1) (by omega)]
 unfold sideP
 by_cases h1 : idx x.1 x.2 < 0
 ·rw [decide_eq_true h1, if_pos (Or.inl h1)]; rfl
 ·by_cases h2 : (x.1.length : Int) <= idx x.1 x.2 + 1
  ·rw [decide_eq_false h1, decide_eq_true h2, if_pos (Or.inr (Or.inr h2))]; rfl
  ·rw [decide_eq_false h1, decide_eq_false h2, if_neg (by omega), rg_int (by omega)]; rfl
theorem ahead'_con (x : LM) (h : preLM x) : Contract PG F_view_Ahead [encMembers x.1, .agg (encMember x.2)] [] (sideA (sideP x.1 x.2 (-1))) [] := by
 refine conH ((ahead'_eq x.1 x.2).trans ?_)
 rw [gIdxR_eq h]
 have hb := idx_le x.1 x.2
 have hl : x.1.length <= 1000000 := h
 simp only [wrap64 (x := idx x.1 x.2 - 1) (by omega)]
 unfold sideP
 by_cases h1 : idx x.1 x.2 < 1
 ·rw [decide_eq_true h1, if_pos (by omega)]; rfl
 ·rw [decide_eq_false h1, if_neg (by omega), rg_int (by omega)]; rfl
def kBehind : Known := .spec F_view_Behind decLM preLM encLM (fun x => sideA (sideP x.1 x.2 1))
theorem kBehind_ok : kBehind.Ok PG := Known.spec_ok behind_con
def kAheadV : Known := .spec F_view_Ahead decLM preLM encLM (fun x => sideA (sideP x.1 x.2 (-1)))
theorem kAheadV_ok : kAheadV.Ok PG := Known.spec_ok ahead'_con
def kns10 : List Known := [kAhead, kLater, kRAhead, kNum, kRNum, kBehind, kAheadV, kTo, kHead]
theorem kns10_ok : ∀ k ∈ kns10, k.Ok PG := ak kAhead_ok (ak kLater_ok (ak kRAhead_ok (ak kNum_ok (ak kRNum_ok (ak kBehind_ok (ak kAheadV_ok (ak kTo_ok (ak kHead_ok ank))))))))
def envT : Env := envO kns10
theorem conT {n f : Nat} {xs : List AV} {r : AV} (e : callT envT n f xs = some r) : Contract PG f xs [] r [] := con_of (md := fun _ => none) kns10_ok e
theorem acked_eq (r : Rep) (m : Member) : callT envT 6 F_chain_acked [.agg (encRep r), .agg (encMember m)] = gC dTo pTo eTo [.agg (encRep r), .agg (encMember m), .int .i64 14] fun y => gIdxR r.view.chain r.self fun z =>
  bif (sideP z.1 z.2 1).isSome then some (.agg (encMsg { toM y.1 y.2.1 y.2.2 with ver := r.got })) else some (.agg (encMsg { toM y.1 y.2.1 y.2.2 with ver := r.tail.last })) := by kernel_rfl
theorem acked_con (p : Rep × Member) (h : p.1.view.chain.length <= LB) : Contract PG F_chain_acked [.agg (encRep p.1), .agg (encMember p.2)] [] (.agg (encMsg { toM p.1 p.2 14 with ver := haveP p.1 })) [] := by
 refine conT ((acked_eq p.1 p.2).trans ?_)
 rw [qTo, gIdxR_eq h]
 unfold haveP
 cases (sideP p.1.view.chain p.1.self 1).isSome <;> rfl
def dRM (a : List AV) : Rep × Member := (decRep (argC a 0), decMember (argC a 1))
def pRM (p : Rep × Member) : Prop := p.1.view.chain.length <= LB
def eRM (p : Rep × Member) : List AV := [.agg (encRep p.1), .agg (encMember p.2)]
theorem qRM {R : Type} {r : Rep} {x : Member} {P : Rep × Member -> Prop} {k : Rep × Member -> Option R} (h : P (r, x)) : gC dRM P eRM [.agg (encRep r), .agg (encMember x)] k = k (r, x) := gC_eq (r, x) (Prod.ext (dec_encRep r) rfl) h (.refl _)
def kAcked : Known := .spec F_chain_acked dRM pRM eRM (fun p => .agg (encMsg { toM p.1 p.2 14 with ver := haveP p.1 }))
theorem kAcked_ok : kAcked.Ok PG := Known.spec_ok acked_con
end Go.Wk
end
noncomputable section
open Go Go.AM Go.Md
namespace Go.Wk
set_option maxRecDepth 100000
set_option maxHeartbeats 2000000
def kns21 : List Known := [kAhead, kToN, kCloneMember, kCloneEntry, kCloneSeen]
theorem kns21_ok : ∀ k ∈ kns21, k.Ok PG := ak kAhead_ok (ak kToN_ok (ak kCloneMember_ok (ak kCloneEntry_ok (ak kCloneSeen_ok ank))))
def env21 : Env := envO kns21
theorem con21 {n f : Nat} {xs : List AV} {r : AV} (e : callT env21 n f xs = some r) : Contract PG f xs [] r [] := con_of (md := fun _ => none) kns21_ok e
def z31 : List AV := [.int .i64 0, .int .i64 0, .int .i64 0, .int .i64 0, .int .i64 0, .int .i64 0, .int .i64 0, .int .i64 0, .int .i64 0, .int .i64 0, .int .i64 0, .int .i64 0, .bool false, .bool false, .str [], .str [], .cplx .f64 0 0, .cplx .f64 0 0, .int .i64 0, .str [], .str [], .str [], .bool false, .nils, .nils, .nils, .cplx .f64 0 0, .cplx .f64 0 0, .int .i64 0, .nils, .nils]
def toNs (r : Rep) (x : Member) (k : Int) (fl : Ver) (a : AV) : List AV := [.int .i64 k, .int .i64 r.self.node, .int .i64 x.node, .int .i64 x.boot, .int .i64 r.self.boot, .int .i64 r.shard, .int .i64 r.view.epoch, .int .i64 0, .int .i64 0, .int .i64 0, .int .i64 0, .int .i64 0, .bool false, .bool false, .str [], .str [], .cplx .f64 0 0, eV fl, .int .i64 0, .str [], .str [], .str [], .bool false, a, .nils, .nils, .cplx .f64 0 0, .cplx .f64 0 0, .int .i64 0, .nils, .nils]
theorem inst_eq (r : Rep) (m : Member) : callT env21 6 F_chain_install [AV.agg (encRep r), AV.agg (encMember m)] =
 gC (dTo) (pTo) (eTo) ([AV.agg (encRep r), AV.agg (encMember m), AV.int IntKind.i64 11]) fun y0 =>
 gC (dL decMember) (shortL) (eMems) ([encMembers r.view.chain]) fun y1 =>
 gC (dL decEntry) (shortL) (eEnts) ([encEntrys r.tail.log]) fun y2 =>
 gC (dL decSeen) (shortL) (eSeens) ([encSeens r.seen]) fun y3 =>
 some (AV.agg [AV.int IntKind.i64 y0.snd.snd, AV.int IntKind.i64 y0.fst.self.node, AV.int IntKind.i64 y0.snd.fst.node, AV.int IntKind.i64 y0.snd.fst.boot, AV.int IntKind.i64 y0.fst.self.boot, AV.int IntKind.i64 y0.fst.shard, AV.int IntKind.i64 y0.fst.view.epoch, AV.int IntKind.i64 r.view.gen, AV.int IntKind.i64 0, AV.int IntKind.i64 0, AV.int IntKind.i64 0, AV.int IntKind.i64 0, AV.bool false, AV.bool false, AV.str [], AV.str [], AV.cplx FloatKind.f64 0 0, AV.cplx FloatKind.f64 0 0, AV.int IntKind.i64 0, AV.str [], AV.str [], AV.str [], AV.bool false, AV.nils, encMembers y1, AV.nils, AV.cplx FloatKind.f64 r.tail.floor.re r.tail.floor.im, AV.cplx FloatKind.f64 r.tail.last.re r.tail.last.im, AV.int IntKind.i64 r.view.gen, encEntrys y2, encSeens y3]) := by kernel_rfl
theorem inst_con (p : Rep × Member) (h : RepShort p.1) : Contract PG F_chain_install [.agg (encRep p.1), .agg (encMember p.2)] [] (.agg (encMsg (instM p.1 p.2))) [] := by
 obtain ⟨r, m⟩ := p
 have e := inst_eq r m
 rw [qTo, qMems h.1, qEnts h.2.1, qSeens h.2.2.1] at e
 exact (con21 e).res (.agg (subC_all (by repeat' (first | exact trivial | exact nilsL | exact SubV.refl _ | refine ⟨?_, ?_⟩))))
def pRS (p : Rep × Member) : Prop := RepShort p.1
def kInst : Known := .spec F_chain_install dRM pRS eRM (fun p => .agg (encMsg (instM p.1 p.2)))
theorem kInst_ok : kInst.Ok PG := Known.spec_ok inst_con
def SFw (r : Rep) (x : Member) (i : Int) (a : AV) (rest : Heap) : St := { fr := [(2, .ptr 0 0 0), (4, .ptr 1 0 0), (5, .ptr 2 0 0), (17, encEntrys r.tail.log), (18, .int .i64 r.tail.log.length), (19, .int .i64 i), (1003, .undef)], hp := .arr true 15 [encRep r] :: .arr true 31 [z31] :: .arr true 31 [toNs r x 13 r.tail.floor a] :: rest }
theorem forw_in (N : Nat) (r : Rep) (m : Member) : callT env21 (N + 1) F_chain_forward [AV.agg (encRep r), AV.agg (encMember m)] =
 gC dTo pTo eTo [AV.agg (encRep r), AV.agg (encMember m), AV.int IntKind.i64 13] fun y0 => LP env21 N 0 F_chain_forward snK 0 [] N { fr := [(2, .ptr 0 0 0), (4, .ptr 1 0 0), (5, .ptr 2 0 0), (17, encEntrys r.tail.log), (18, .int .i64 r.tail.log.length), (19, .int .i64 0), (1003, .undef)], hp := [.arr true 15 [encRep r], .arr true 31 [z31], .arr true 31 [((toN y0.1 y0.2.1 y0.2.2).set 17 (eV r.tail.floor))]] } := by kernel_rfl
theorem forw_step0 (N : Nat) (m : Nat) (r : Rep) (x : Member) (i : Int) : LP env21 N 0 F_chain_forward snK 0 [] (m + 1) (SFw r x i AV.nils []) =
 bif decide (i < (↑r.tail.log.length : Int)) then
  bif decide (0 <= i) && decide (i < (↑r.tail.log.length : Int)) then
   gC (dV2) (V2) (eV2) ([AV.cplx FloatKind.f64 r.got.re r.got.im, AV.cplx FloatKind.f64 (r.tail.log.getD i.toNat default).ver.re (r.tail.log.getD i.toNat default).ver.im]) fun y4 =>
   bif vlt y4.fst y4.snd then
    LP (env21) (N) (0) (F_chain_forward) (snK) 0 ([]) (m) (SFw r x (IntKind.i64.wrap (i + 1)) (AV.sl 11 3 0 1 1) [BS.seq true 11 1 fun i_1 => [encEntry (r.tail.log.getD i.toNat default)].getD i_1 (encEntry (r.tail.log.getD i.toNat default))])
   else
    LP (env21) (N) (0) (F_chain_forward) (snK) 0 ([]) (m) (SFw r x (IntKind.i64.wrap (i + 1)) AV.nils [])
  else none
 else
  some (AV.agg [AV.int IntKind.i64 13, AV.int IntKind.i64 r.self.node, AV.int IntKind.i64 x.node, AV.int IntKind.i64 x.boot, AV.int IntKind.i64 r.self.boot, AV.int IntKind.i64 r.shard, AV.int IntKind.i64 r.view.epoch, AV.int IntKind.i64 0, AV.int IntKind.i64 0, AV.int IntKind.i64 0, AV.int IntKind.i64 0, AV.int IntKind.i64 0, AV.bool false, AV.bool false, AV.str [], AV.str [], AV.cplx FloatKind.f64 0 0, AV.cplx FloatKind.f64 r.tail.floor.re r.tail.floor.im, AV.int IntKind.i64 0, AV.str [], AV.str [], AV.str [], AV.bool false, AV.nils, AV.nils, AV.nils, AV.cplx FloatKind.f64 0 0, AV.cplx FloatKind.f64 0 0, AV.int IntKind.i64 0, AV.nils, AV.nils]) := by kernel_rfl
theorem forw_step1 (N : Nat) (m : Nat) (r : Rep) (x : Member) (i : Int) (f : Nat -> List AV) : LP env21 N 0 F_chain_forward snK 0 [] (m + 1) (SFw r x i (AV.sl 11 3 0 1 1) [BS.seq true 11 1 f]) =
 bif decide (i < (↑r.tail.log.length : Int)) then
  bif decide (0 <= i) && decide (i < (↑r.tail.log.length : Int)) then
   gC (dV2) (V2) (eV2) ([AV.cplx FloatKind.f64 r.got.re r.got.im, AV.cplx FloatKind.f64 (r.tail.log.getD i.toNat default).ver.re (r.tail.log.getD i.toNat default).ver.im]) fun y5 =>
   bif vlt y5.fst y5.snd then
    LP (env21) (N) (0) (F_chain_forward) (snK) 0 ([]) (m) (SFw r x (IntKind.i64.wrap (i + 1)) (AV.sl 11 3 0 2 0) [BS.seq true 11 2 fun i_1 => bif i_1.blt 1 then f i_1 else bif i_1.blt 2 then [encEntry (r.tail.log.getD i.toNat default)].getD (i_1 - 1) [] else f 1])
   else
    LP (env21) (N) (0) (F_chain_forward) (snK) 0 ([]) (m) (SFw r x (IntKind.i64.wrap (i + 1)) (AV.sl 11 3 0 1 1) [BS.seq true 11 1 f])
  else none
 else
  some (AV.agg [AV.int IntKind.i64 13, AV.int IntKind.i64 r.self.node, AV.int IntKind.i64 x.node, AV.int IntKind.i64 x.boot, AV.int IntKind.i64 r.self.boot, AV.int IntKind.i64 r.shard, AV.int IntKind.i64 r.view.epoch, AV.int IntKind.i64 0, AV.int IntKind.i64 0, AV.int IntKind.i64 0, AV.int IntKind.i64 0, AV.int IntKind.i64 0, AV.bool false, AV.bool false, AV.str [], AV.str [], AV.cplx FloatKind.f64 0 0, AV.cplx FloatKind.f64 r.tail.floor.re r.tail.floor.im, AV.int IntKind.i64 0, AV.str [], AV.str [], AV.str [], AV.bool false, AV.tr 11 1 fun i => f i, AV.nils, AV.nils, AV.cplx FloatKind.f64 0 0, AV.cplx FloatKind.f64 0 0, AV.int IntKind.i64 0, AV.nils, AV.nils]) := by kernel_rfl
theorem forw_step2 (N : Nat) (m : Nat) (r : Rep) (x : Member) (i : Int) (n : Nat) (f : Nat -> List AV) : LP env21 N 0 F_chain_forward snK 0 [] (m + 1) (SFw r x i (AV.sl 11 3 0 n 0) [BS.seq true 11 n f]) =
 bif decide (i < (↑r.tail.log.length : Int)) then
  bif decide (0 <= i) && decide (i < (↑r.tail.log.length : Int)) then
   gC (dV2) (V2) (eV2) ([AV.cplx FloatKind.f64 r.got.re r.got.im, AV.cplx FloatKind.f64 (r.tail.log.getD i.toNat default).ver.re (r.tail.log.getD i.toNat default).ver.im]) fun y6 =>
   bif vlt y6.fst y6.snd then
    bif n.beq 0 || n.ble n then
     bif ((n + 1) * 112).ble 140737488355328 && (n + 1).ble 140737488355328 then
      LP (env21) (N) (0) (F_chain_forward) (snK) 0 ([]) (m) (SFw r x (IntKind.i64.wrap (i + 1)) (AV.sl 11 3 0 (n + 1) 0) [BS.seq true 11 (n + 1) fun i_1 => bif i_1.blt n then f i_1 else bif i_1.blt (n + 1) then [encEntry (r.tail.log.getD i.toNat default)].getD (i_1 - n) [] else f n])
     else none
    else none
   else
    LP (env21) (N) (0) (F_chain_forward) (snK) 0 ([]) (m) (SFw r x (IntKind.i64.wrap (i + 1)) (AV.sl 11 3 0 n 0) [BS.seq true 11 n f])
  else none
 else
  bif (n.beq 0 || n.ble n) && true then
   some (AV.agg [AV.int IntKind.i64 13, AV.int IntKind.i64 r.self.node, AV.int IntKind.i64 x.node, AV.int IntKind.i64 x.boot, AV.int IntKind.i64 r.self.boot, AV.int IntKind.i64 r.shard, AV.int IntKind.i64 r.view.epoch, AV.int IntKind.i64 0, AV.int IntKind.i64 0, AV.int IntKind.i64 0, AV.int IntKind.i64 0, AV.int IntKind.i64 0, AV.bool false, AV.bool false, AV.str [], AV.str [], AV.cplx FloatKind.f64 0 0, AV.cplx FloatKind.f64 r.tail.floor.re r.tail.floor.im, AV.int IntKind.i64 0, AV.str [], AV.str [], AV.str [], AV.bool false, AV.tr 11 n fun i => f i, AV.nils, AV.nils, AV.cplx FloatKind.f64 0 0, AV.cplx FloatKind.f64 0 0, AV.int IntKind.i64 0, AV.nils, AV.nils])
  else none := by kernel_rfl
def SFg (r : Rep) (x : Member) (i : Int) (l : List Entry) : St := SFw r x i (gSl 11 3 l) (gBl 11 encEntry default l)
theorem forw_step (N m : Nat) (r : Rep) (x : Member) (i : Int) (l : List Entry) (hl : l.length <= LB) : LP env21 N 0 F_chain_forward snK 0 [] (m + 1) (SFg r x i l) =
  bif decide (i < (r.tail.log.length : Int)) then rg i r.tail.log.length <| gC dV2 V2 eV2 [eV r.got, eV (r.tail.log.getD i.toNat default).ver] fun y =>
   bif vlt y.1 y.2 then LP env21 N 0 F_chain_forward snK 0 [] m (SFg r x (IntKind.i64.wrap (i + 1)) (l ++ [r.tail.log.getD i.toNat default]))
   else LP env21 N 0 F_chain_forward snK 0 [] m (SFg r x (IntKind.i64.wrap (i + 1)) l)
  else some (.agg (toNs r x 13 r.tail.floor (gTr 11 encEntry default l))) := by
 unfold LB at hl
 match l, hl with
 | [], _ => exact (forw_step0 N m r x i).trans (by rw [canF_oneS (z := default)]; rfl)
 | [a], _ => exact (forw_step1 N m r x i _).trans (by rw [canF_app1 (z := default)]; rfl)
 | a :: b :: l, hl =>
  refine (forw_step2 N m r x i (l.length + 2) _).trans ?_
  have h := canF_app (e := encEntry) (z := default) (l := a :: b :: l) (by simp) (r.tail.log.getD i.toNat default)
  simp only [List.length_cons] at h hl
  rw [h, SFg, gSl_app (by simp), gBl_app (by simp)]
  simp only [roomU (b := 112) (n := l.length + 2) (by omega) (by omega), Bool.and_true, orU, cond_true]
  rfl
theorem forw_con (p : Rep × Member) (h : p.1.tail.log.length <= LB /\ VNum p.1.got /\ ∀ e ∈ p.1.tail.log, VNum e.ver) : Contract PG F_chain_forward [.agg (encRep p.1), .agg (encMember p.2)] [] (.agg (encMsg (forwM p.1 p.2))) [] := by
 obtain ⟨r, m⟩ := p
 obtain ⟨h1, h2, h3⟩ := h
 simp only at h1 h2 h3
 have e := forw_in (r.tail.log.length + 1) r m
 rw [qTo] at e
 have key := pick_loop (l := r.tail.log) (z := default) (keep := fun e => vlt r.got e.ver) (G := fun k i l => LP env21 (r.tail.log.length + 1) 0 F_chain_forward snK 0 [] k (SFg r m i l)) (fin := fun l => some (.agg (toNs r m 13 r.tail.floor (gTr 11 encEntry default l))))
  (fun k acc ha => by rw [forw_step _ _ _ _ _ _ (by omega), dec_nat, decide_eq_false (by omega), cond_false])
  (fun k i acc hi ha => by
   rw [forw_step _ _ _ _ _ _ (by omega), dec_nat, decide_eq_true hi, cond_true, rg_eq hi, Int.toNat_natCast]
   show gC dV2 V2 eV2 [.cplx .f64 _ _, .cplx .f64 _ _] _ = _
   rw [qV2 h2 (h3 _ (getD_mem hi)), wrapS (by unfold LB at h1; omega)])
  r.tail.log.length 0 (r.tail.log.length + 1) [] (by omega) (by omega) (by simp)
 rw [List.drop_zero, List.nil_append] at key
 exact (con21 (e.trans key)).res (.agg (subC_all (by repeat' (first | exact trivial | exact nilsL | exact gTr_sub _ | exact SubV.refl _ | refine ⟨?_, ?_⟩))))
def pFw (p : Rep × Member) : Prop := p.1.tail.log.length <= LB /\ VNum p.1.got /\ ∀ e ∈ p.1.tail.log, VNum e.ver
def kForw : Known := .spec F_chain_forward dRM pFw eRM (fun p => .agg (encMsg (forwM p.1 p.2)))
theorem kForw_ok : kForw.Ok PG := Known.spec_ok forw_con
def kns22 : List Known := [kInst, kForw, kAcked, kBehind, kAheadV]
theorem kns22_ok : ∀ k ∈ kns22, k.Ok PG := ak kInst_ok (ak kForw_ok (ak kAcked_ok (ak kBehind_ok (ak kAheadV_ok ank))))
def env22 : Env := envO kns22
theorem con22 {n f : Nat} {xs : List AV} {r : AV} (e : callT env22 n f xs = some r) : Contract PG f xs [] r [] := con_of (md := fun _ => none) kns22_ok e
def inPh (r : Rep) (ph : Int) : Rep := { r with view := { r.view with phase := ph } }
def inSy (r : Rep) (ch : List Member) (sy : List Bool) : Rep := { r with view := { r.view with phase := 2, chain := ch }, synced := sy }
theorem inPh_eq {r : Rep} {ph : Int} (h : r.view.phase = ph) : r = inPh r ph := by
 cases r; rename_i v _ _ _ _ _; cases v; simp only at h; subst h; rfl
theorem inSy_eq {r : Rep} (h : r.view.phase = 2) : r = inSy r r.view.chain r.synced := by
 cases r; rename_i v _ _ _ _ _; cases v; simp only at h; subst h; rfl
def instK (r : Rep) (fin : List (Rep × Member) -> Option AV) : List Member -> List Bool -> List (Rep × Member) -> Option AV
 | m :: ms, s :: ss, acc => bif !s then gC dRM pRS eRM [.agg (encRep r), .agg (encMember m)] fun y => instK r fin ms ss (acc ++ [y]) else instK r fin ms ss acc
 | _, _, acc => fin acc
def finI : List (Rep × Member) -> Option AV
 | [] => some .nils
 | l => some (.trl 31 (l.map fun y => encMsg (instM y.1 y.2)))
def liveN (r : Rep) : Option AV := bif decide (r.frozen <= r.view.epoch) then some .nils else some .nils
theorem again_s1 (r : Rep) (a : Member) (s : Bool) : callT env22 9 F_chain_Again [.agg (encRep (inSy r [a] [s]))] =
  bif decide (r.frozen <= r.view.epoch) then bif chF [a] r.self then instK (inSy r [a] [s]) finI [a] [s] [] else liveN r else liveN r := by kernel_rfl
theorem again_s2 (r : Rep) (a b : Member) (s t : Bool) : callT env22 9 F_chain_Again [.agg (encRep (inSy r [a, b] [s, t]))] =
  bif decide (r.frozen <= r.view.epoch) then bif chF [a, b] r.self then instK (inSy r [a, b] [s, t]) finI [a, b] [s, t] [] else liveN r else liveN r := by kernel_rfl
theorem again_s3 (r : Rep) (a b c : Member) (s t u : Bool) : callT env22 9 F_chain_Again [.agg (encRep (inSy r [a, b, c] [s, t, u]))] =
  bif decide (r.frozen <= r.view.epoch) then bif chF [a, b, c] r.self then instK (inSy r [a, b, c] [s, t, u]) finI [a, b, c] [s, t, u] [] else liveN r else liveN r := by kernel_rfl
theorem again_s4 (r : Rep) (a b c d : Member) (s t u v : Bool) : callT env22 9 F_chain_Again [.agg (encRep (inSy r [a, b, c, d] [s, t, u, v]))] =
  bif decide (r.frozen <= r.view.epoch) then bif chF [a, b, c, d] r.self then instK (inSy r [a, b, c, d] [s, t, u, v]) finI [a, b, c, d] [s, t, u, v] [] else liveN r else liveN r := by kernel_rfl
theorem again_0 (r : Rep) : callT env22 9 F_chain_Again [.agg (encRep (inPh r 0))] = some .nils := by kernel_rfl
def ackK (r : Rep) (l : List (List AV)) : Option AV := gC decLM preLM encLM [encMembers r.view.chain, .agg (encMember r.self)] fun z =>
 bif (sideP z.1 z.2 (-1)).isSome then gC dRM pRM eRM [.agg (encRep r), .agg (encMember ((sideP z.1 z.2 (-1)).getD default))] fun a => some (.trl 31 (l ++ [encMsg { toM a.1 a.2 14 with ver := haveP a.1 }]))
 else match l with
  | [] => some .nils
  | l => some (.trl 31 l)
def workK (r : Rep) : Option AV := bif decide (r.frozen <= r.view.epoch) then gC decLM preLM encLM [encMembers r.view.chain, .agg (encMember r.self)] fun y =>
   bif (sideP y.1 y.2 1).isSome then gC dRM pFw eRM [.agg (encRep (inPh r 3)), .agg (encMember ((sideP y.1 y.2 1).getD default))] fun f => ackK (inPh r 3) [encMsg (forwM f.1 f.2)]
   else ackK (inPh r 3) []
  else some .nils
theorem again_3 (r : Rep) : callT env22 9 F_chain_Again [.agg (encRep (inPh r 3))] = bif decide (r.frozen <= r.view.epoch) then workK r else workK r := by kernel_rfl
theorem instK_eq {r : Rep} (h : RepShort r) {fin : List (Rep × Member) -> Option AV} : ∀ (l : List Member) (s : List Bool) (acc : List (Rep × Member)), ∃ k, instK r fin l s acc = fin (acc ++ k) /\ k.map (fun y => instM y.1 y.2) = instsP r l s
 | [], _, acc => ⟨[], by simp [instK], rfl⟩
 | _ :: _, [], acc => ⟨[], by simp [instK], rfl⟩
 | m :: ms, s :: ss, acc => by
  cases s with
  | true =>
   obtain ⟨k, h1, h2⟩ := instK_eq h (fin := fin) ms ss acc
   exact ⟨k, h1, h2⟩
  | false =>
   obtain ⟨k, h1, h2⟩ := instK_eq h (fin := fin) ms ss (acc ++ [(r, m)])
   refine ⟨(r, m) :: k, ?_, by simp [instsP, h2]⟩
   show (gC dRM pRS eRM [.agg (encRep r), .agg (encMember m)] fun y => instK r fin ms ss (acc ++ [y])) = _
   rw [qRM (P := pRS) h, h1, List.append_assoc]; rfl
theorem trl_out (l : List Msg) : ∀ v, (match l with | [] => AV.nils | l => .trl 31 (l.map encMsg)) = v -> SubV v (encMsgs l) := by
 intro v hv
 subst hv
 match l with
 | [] => exact nilsL
 | a :: l => exact SubV.trl_encL (e := encMsg) (z := default) (a :: l)
structure RepAg (r : Rep) : Prop where
 short : RepShort r
 ph : r.view.phase = 0 \/ r.view.phase = 2 \/ r.view.phase = 3
 sync : r.view.phase = 2 -> isFirst r.view.chain r.self = true /\ r.synced.length = r.view.chain.length
 len : r.view.chain.length <= 4
 got : VNum r.got
 log : ∀ e ∈ r.tail.log, VNum e.ver
theorem RepIs.ag {E : Int} {N : Nat} {r : Rep} (h : RepIs E N r) (hN : N <= 1000) : RepAg r where
 short := by
  have h1 := h.chain.1
  have h2 := Nat.le_trans h.tail.len (h.tail.la.le hN).2
  have h3 := h.seen.1
  have h4 := h.synl
  unfold RepShort shortL LB
  exact ⟨by omega, by omega, by omega, by omega⟩
 ph := h.ph
 sync := h.sync
 len := h.chain.1
 got := h.got.num hN
 log := fun e he => (h.tail.ent e he).1.num hN
theorem chF_first {l : List Member} {m : Member} (hl : l ≠ []) : chF l m = isFirst l m := by
 cases l with
 | nil => exact absurd rfl hl
 | cons x r =>
  unfold chF isFirst
  rw [Bool.and_true]
  exact mem_eq x m
theorem ackK_eq {r : Rep} (h : r.view.chain.length <= LB) (l : List Msg) : ackK r (l.map encMsg) = some (match l ++ acksP r with | [] => AV.nils | l => .trl 31 (l.map encMsg)) := by
 unfold ackK acksP
 rw [qLM h]
 cases hs : sideP r.view.chain r.self (-1) with
 | none =>
  cases l with
  | nil => rfl
  | cons a l => simp
 | some m =>
  simp only [Option.isSome_some, cond_true, Option.getD_some]
  rw [qRM (P := pRM) h]
  cases l with
  | nil => rfl
  | cons a l => simp
theorem again_con (r : Rep) (h : RepAg r) : Contract PG F_chain_Again [.agg (encRep r)] [] (encMsgs (againP r)) [] := by
 have hLB : r.view.chain.length <= LB := h.short.1
 rcases h.ph with hp | hp | hp
 ·have ha : againP r = [] := by
   unfold againP syncsP worksP liveP
   rw [hp]; rfl
  rw [ha]
  have := con22 (again_0 r)
  rw [<- inPh_eq hp] at this
  exact this.res nilsL
 ·obtain ⟨hf, hl⟩ := h.sync hp
  have hs : syncsP r = decide (r.frozen <= r.view.epoch) := by
   unfold syncsP liveP
   rw [hp]; cases decide (r.frozen <= r.view.epoch) <;> rfl
  have hw : worksP r = false := by
   unfold worksP
   rw [hp]; cases liveP r <;> rfl
  have key : callT env22 9 F_chain_Again [.agg (encRep r)] = bif decide (r.frozen <= r.view.epoch) then instK r finI r.view.chain r.synced [] else liveN r := by
   have he := inSy_eq hp
   have hch : chF r.view.chain r.self = true := by
    rw [chF_first (by obtain ⟨x, hx⟩ := isFirst_cons hf; rw [hx]; simp)]; exact hf
   have hlen := h.len
   generalize r.view.chain = ch at *
   generalize r.synced = sy at *
   match ch, sy, hl, hlen with
   | [a], [s], _, _ => have := again_s1 r a s; rw [<- he, hch] at this; exact this
   | [a, b], [s, t], _, _ => have := again_s2 r a b s t; rw [<- he, hch] at this; exact this
   | [a, b, c], [s, t, u], _, _ => have := again_s3 r a b c s t u; rw [<- he, hch] at this; exact this
   | [a, b, c, d], [s, t, u, v], _, _ => have := again_s4 r a b c d s t u v; rw [<- he, hch] at this; exact this
   | [], _, _, _ => simp [isFirst] at hf
  unfold againP
  rw [hs, hw]
  cases hd : decide (r.frozen <= r.view.epoch) with
  | false => unfold liveN at key; rw [hd] at key; exact (con22 key).res nilsL
  | true =>
   rw [hd, cond_true] at key
   obtain ⟨k, h1, h2⟩ := instK_eq h.short (fin := finI) r.view.chain r.synced []
   rw [h1, List.nil_append] at key
   simp only [cond_true]
   rw [<- h2]
   refine (con22 (r := match k.map (fun y => instM y.1 y.2) with | [] => AV.nils | l => .trl 31 (l.map encMsg)) (key.trans ?_)).res (trl_out _ _ rfl)
   cases k with
   | nil => rfl
   | cons a k => simp [finI, List.map_map, Function.comp_def]
 ·have hs : syncsP r = false := by
   unfold syncsP
   rw [hp]; cases liveP r <;> rfl
  have hw : worksP r = decide (r.frozen <= r.view.epoch) := by
   unfold worksP liveP
   rw [hp]; cases decide (r.frozen <= r.view.epoch) <;> rfl
  have key := again_3 r
  unfold workK at key
  rw [<- inPh_eq hp, qLM hLB] at key
  unfold againP
  rw [hs, hw]
  cases hd : decide (r.frozen <= r.view.epoch) with
  | false => rw [hd] at key; exact (con22 key).res nilsL
  | true =>
   rw [hd] at key
   simp only [cond_true, cond_false] at key ⊢
   unfold forwsP
   cases hsd : sideP r.view.chain r.self 1 with
   | none =>
    rw [hsd] at key
    have := ackK_eq hLB []
    simp only [Option.isSome_none, cond_false] at key
    exact (con22 (key.trans this)).res (trl_out _ _ rfl)
   | some m =>
    rw [hsd] at key
    simp only [Option.isSome_some, cond_true, Option.getD_some] at key
    rw [qRM (P := pFw) ⟨h.short.2.1, h.got, h.log⟩] at key
    have := ackK_eq hLB [forwM r m]
    exact (con22 (key.trans this)).res (trl_out _ _ rfl)
def kAgain : Known := .spec F_chain_Again dRep1 RepAg eRep1 (fun r => encMsgs (againP r))
theorem kAgain_ok : kAgain.Ok PG := Known.spec_ok again_con
def envL (lv : List (Nat × Nat × List Nat)) (md : Nat -> Option Nat) (l : List Known) : Env := { envM md (orcOf l) with live := fun f b => liveOf f b (lv ++ liveTab) }
theorem envL_ok {lv : List (Nat × Nat × List Nat)} {md : Nat -> Option Nat} {l : List Known} (h : ∀ k ∈ l, k.Ok PG) : EnvOk PG (envL lv md l) := ⟨tt_ok rfl, orc_ok h⟩
theorem envL_code {lv : List (Nat × Nat × List Nat)} {md : Nat -> Option Nat} {l : List Known} : CodeOk PG (envL lv md l) := codeOf_ok rfl
theorem conL {lv : List (Nat × Nat × List Nat)} {md : Nat -> Option Nat} {l : List Known} (h : ∀ k ∈ l, k.Ok PG) {n f : Nat} {args : List AV} {r : AV} (e : callT (envL lv md l) n f args = some r) : Contract PG f args [] r [] :=
 callT_ok (envL_ok h) envL_code mixed e
end Go.Wk
end
noncomputable section
open Go Go.AM Go.Md
namespace Go.Wk
set_option maxRecDepth 100000
set_option maxHeartbeats 400000
theorem SubC.trl {sz : Nat} : ∀ {a b : List (List AV)}, a.length = b.length -> (∀ i, i < a.length -> SubC (a.getD i []) (b.getD i [])) -> SubV (.trl sz a) (.trl sz b) := by
 intro a b hl h w I u hv
 cases hv with
 | trl _ _ _ h1 hz =>
  refine .trl _ _ _ ?_ hz
  rw [<- hl]
  exact SubV.trs h w I u h1
theorem trl_map {X : Type} {sz : Nat} {f g : X -> List AV} (h : ∀ x, SubC (f x) (g x)) (l : List X) : SubV (.trl sz (l.map f)) (.trl sz (l.map g)) := by
 refine SubC.trl (by simp) fun i hi => ?_
 have hi : i < l.length := by simpa using hi
 have e1 : (l.map f).getD i [] = f l[i] := by simp [List.getD, List.getElem?_eq_getElem hi]
 have e2 : (l.map g).getD i [] = g l[i] := by simp [List.getD, List.getElem?_eq_getElem hi]
 rw [e1, e2]; exact h _
def kns25 : List Known := [kAhead, kRAhead, kRNum, kNum]
theorem kns25_ok : ∀ k ∈ kns25, k.Ok PG := ak kAhead_ok (ak kRAhead_ok (ak kRNum_ok (ak kNum_ok ank)))
def env25 : Env := envO kns25
theorem tpush_n (f : Ver) (l : Ver) (e : Entry) : callT env25 9 F_tail_Push [AV.agg [eV f, eV l, AV.nils], AV.agg (encEntry e)] =
 gC (dV2) (V2) (eV2) ([AV.cplx FloatKind.f64 l.re l.im, AV.cplx FloatKind.f64 e.ver.re e.ver.im]) fun y0 =>
 bif !vlt y0.fst y0.snd then
  some (AV.tup [AV.agg [AV.cplx FloatKind.f64 f.re f.im, AV.cplx FloatKind.f64 l.re l.im, AV.nils], AV.bool false])
 else
  some (AV.tup [AV.agg [AV.cplx FloatKind.f64 f.re f.im, AV.cplx FloatKind.f64 e.ver.re e.ver.im, AV.trl 11 [encEntry e]], AV.bool true]) := by kernel_rfl
theorem tpush_e (f : Ver) (l : Ver) (e : Entry) : callT env25 9 F_tail_Push [AV.agg [eV f, eV l, AV.trl 11 []], AV.agg (encEntry e)] =
 gC (dV2) (V2) (eV2) ([AV.cplx FloatKind.f64 l.re l.im, AV.cplx FloatKind.f64 e.ver.re e.ver.im]) fun y1 =>
 bif !vlt y1.fst y1.snd then
  some (AV.tup [AV.agg [AV.cplx FloatKind.f64 f.re f.im, AV.cplx FloatKind.f64 l.re l.im, AV.trl 11 []], AV.bool false])
 else
  some (AV.tup [AV.agg [AV.cplx FloatKind.f64 f.re f.im, AV.cplx FloatKind.f64 e.ver.re e.ver.im, AV.trl 11 [encEntry e]], AV.bool true]) := by kernel_rfl
theorem tpush_c (f : Ver) (l : Ver) (e : Entry) (n : Nat) (g : Nat -> List AV) : callT env25 9 F_tail_Push [AV.agg [eV f, eV l, AV.tr 11 (n + 1) g], AV.agg (encEntry e)] =
 bif ((0 + (n + 1)) * 112).ble 140737488355328 && (0 + (n + 1)).ble 140737488355328 then
  gC (dV2) (V2) (eV2) ([AV.cplx FloatKind.f64 l.re l.im, AV.cplx FloatKind.f64 e.ver.re e.ver.im]) fun y2 =>
  bif !vlt y2.fst y2.snd then
   bif (n + 1).ble (n + 1) && true && true then
    some (AV.tup [AV.agg [AV.cplx FloatKind.f64 f.re f.im, AV.cplx FloatKind.f64 l.re l.im, AV.tr 11 (n + 1) fun i => g i], AV.bool false])
   else none
  else
   bif (n + 1).ble (n + 1) then
    bif ((n + 1 + 1) * 112).ble 140737488355328 && (n + 1 + 1).ble 140737488355328 then
     bif (n + 1 + 1).ble (n + 1 + 1) && true && true then
      some (AV.tup [AV.agg [AV.cplx FloatKind.f64 f.re f.im, AV.cplx FloatKind.f64 e.ver.re e.ver.im, AV.tr 11 (n + 1 + 1) fun i => bif i.blt (n + 1) then g i else bif i.blt (n + 1 + 1) then [encEntry e].getD (i - (n + 1)) [] else g (n + 1)], AV.bool true])
     else none
    else none
   else none
 else none := by kernel_rfl
def at1 (a : Seen) : Seen := ⟨1, a.num, a.ver, a.kind, a.code, a.res, a.hasRes⟩
theorem sput_n (s : Seen) : callT env25 20 F_seen_Put [AV.nils, AV.agg (encSeen s)] =
 some (AV.trl 7 [encSeen s]) := by kernel_rfl
theorem sput_e (s : Seen) : callT env25 20 F_seen_Put [AV.trl 7 [], AV.agg (encSeen s)] =
 some (AV.trl 7 [encSeen s]) := by kernel_rfl
theorem sput_1 (a : Seen) (s : Seen) : callT env25 20 F_seen_Put [AV.trl 7 [encSeen (at1 a)], AV.agg (encSeen (at1 s))] =
 bif decide ((at1 a).num < (at1 s).num) then
  some (AV.trl 7 [[AV.int IntKind.i64 1, AV.int IntKind.i64 s.num, AV.cplx FloatKind.f64 s.ver.re s.ver.im, AV.int IntKind.i64 s.kind, AV.int IntKind.i64 s.code, AV.str s.res, AV.bool s.hasRes]])
 else
  some (AV.trl 7 [[AV.int IntKind.i64 1, AV.int IntKind.i64 a.num, AV.cplx FloatKind.f64 a.ver.re a.ver.im, AV.int IntKind.i64 a.kind, AV.int IntKind.i64 a.code, AV.str a.res, AV.bool a.hasRes]]) := by kernel_rfl
def pushT (t : Tail) (e : Entry) : Tail × Bool := bif vlt t.last e.ver then (⟨t.floor, e.ver, t.log ++ [e]⟩, true) else (t, false)
abbrev TE := Tail × Entry
def dTE (a : List AV) : TE := (decTail (argC a 0), decEntry (argC a 1))
def pTE (p : TE) : Prop := p.1.log.length <= 10000 /\ VNum p.1.last /\ VNum p.2.ver
def eTE (p : TE) : List AV := [.agg (encTail p.1), .agg (encEntry p.2)]
def oTE (p : TE) : AV := .tup [.agg (encTail (pushT p.1 p.2).1), .bool (pushT p.1 p.2).2]
theorem con25 {n f : Nat} {xs : List AV} {r : AV} (e : callT env25 n f xs = some r) : Contract PG f xs [] r [] := con_of (md := fun _ => none) kns25_ok e
theorem tail_sub {f l : Ver} {a b : AV} (h : SubV a b) : SubV (.agg [eV f, eV l, a]) (.agg [eV f, eV l, b]) := .agg (.cons (.refl _) (.cons (.refl _) (.cons h .nil)))
theorem tail_or {f l : Ver} {g : Nat -> List AV} {x : AV} : OrC [.agg [eV f, eV l, .tr 11 0 g], x] [.agg [eV f, eV l, .nils], x] [.agg [eV f, eV l, .trl 11 []], x] := OrC.of [] [x] (.agg (OrC.of [eV f, eV l] [] .nil))
theorem tup2 {a b : AV} {c : Bool} (h : SubV a b) : SubV (.tup [a, .bool c]) (.tup [b, .bool c]) := .tup (.cons h (.cons (.refl _) .nil))
theorem one_sub (e : Entry) : SubV (.trl 11 [encEntry e]) (encEntrys [e]) := SubV.trl_of [e] rfl
theorem emp_sub : SubV (.trl 11 []) (encEntrys []) := SubV.trl_of [] rfl
theorem push_con {F : Nat}
  (hn : ∀ (f l : Ver) (e : Entry), callT env25 9 F [.agg [eV f, eV l, .nils], .agg (encEntry e)] = gC dV2 V2 eV2 [.cplx .f64 l.re l.im, .cplx .f64 e.ver.re e.ver.im] fun y => bif !vlt y.1 y.2 then some (.tup [.agg [eV f, eV l, .nils], .bool false]) else some (.tup [.agg [eV f, eV e.ver, .trl 11 [encEntry e]], .bool true]))
  (he : ∀ (f l : Ver) (e : Entry), callT env25 9 F [.agg [eV f, eV l, .trl 11 []], .agg (encEntry e)] = gC dV2 V2 eV2 [.cplx .f64 l.re l.im, .cplx .f64 e.ver.re e.ver.im] fun y => bif !vlt y.1 y.2 then some (.tup [.agg [eV f, eV l, .trl 11 []], .bool false]) else some (.tup [.agg [eV f, eV e.ver, .trl 11 [encEntry e]], .bool true]))
  (hc : ∀ (f l : Ver) (e : Entry) (n : Nat) (g : Nat -> List AV), n <= 10000 -> VNum l -> VNum e.ver -> callT env25 9 F [.agg [eV f, eV l, .tr 11 (n + 1) g], .agg (encEntry e)] =
   bif vlt l e.ver then some (.tup [.agg [eV f, eV e.ver, .tr 11 (n + 1 + 1) fun i => bif i.blt (n + 1) then g i else bif i.blt (n + 1 + 1) then [encEntry e].getD (i - (n + 1)) [] else g (n + 1)], .bool true]) else some (.tup [.agg [eV f, eV l, .tr 11 (n + 1) fun i => g i], .bool false]))
  (p : TE) (h : pTE p) : Contract PG F (eTE p) [] (oTE p) [] := by
 obtain ⟨⟨f, l, log⟩, e⟩ := p
 obtain ⟨h1, h2, h3⟩ := h
 simp only at h1 h2 h3
 cases log with
 | nil =>
  refine Contract.split tail_or ?_ ?_
  ·have k := hn f l e
   rw [qV2 h2 h3] at k
   unfold oTE pushT
   simp only at k ⊢
   cases hv : vlt l e.ver with
   | false => rw [hv] at k; exact (con25 k).res (tup2 (tail_sub nilsL))
   | true => rw [hv] at k; exact (con25 k).res (tup2 (tail_sub (one_sub e)))
  ·have k := he f l e
   rw [qV2 h2 h3] at k
   unfold oTE pushT
   simp only at k ⊢
   cases hv : vlt l e.ver with
   | false => rw [hv] at k; exact (con25 k).res (tup2 (tail_sub emp_sub))
   | true => rw [hv] at k; exact (con25 k).res (tup2 (tail_sub (one_sub e)))
 | cons a log =>
  have k := hc f l e log.length (fun i => encEntry ((a :: log).getD i default)) (by simp only [List.length_cons] at h1; omega) h2 h3
  unfold oTE pushT
  simp only
  cases hv : vlt l e.ver with
  | false => rw [hv] at k; exact con25 k
  | true =>
   rw [hv] at k
   refine (con25 k).res (tup2 (tail_sub ?_))
   have := appF_lit encEntry default (a :: log) [e]
   have e2 : (a :: log ++ [e]).length = log.length + 1 + 1 := by simp
   have e3 : encEntrys (a :: log ++ [e]) = .tr 11 (log.length + 1 + 1) fun i => encEntry ((a :: log ++ [e]).getD i default) := by unfold encEntrys encL; rw [e2]
   show SubV _ (encEntrys (a :: log ++ [e]))
   rw [e3, <- this]
   exact .refl _
theorem roomV {n b : Nat} (hb : b <= 1000) (h : n <= 1000000) : (Nat.ble (n * b) 140737488355328 && Nat.ble n 140737488355328) = true := by
 have h1 : n * b <= 140737488355328 := by
  have : n * b <= 1000000 * 1000 := Nat.mul_le_mul (by omega) hb
  omega
 rw [ble_true h1, ble_true (by omega : n <= 140737488355328)]; rfl
theorem tpush_con (p : TE) (h : pTE p) : Contract PG F_tail_Push (eTE p) [] (oTE p) [] :=
 push_con tpush_n tpush_e (fun f l e n g hn h2 h3 => by
  refine (tpush_c f l e n g).trans ?_
  rw [roomV (n := 0 + (n + 1)) (by omega) (by omega), cond_true, qV2 h2 h3]
  simp only [ble_self, Bool.and_true, cond_true, roomV (n := n + 1 + 1) (b := 112) (by omega) (by omega)]
  cases vlt l e.ver <;> rfl) p h
def kTPush : Known := .spec F_tail_Push dTE pTE eTE oTE
theorem kTPush_ok : kTPush.Ok PG := Known.spec_ok tpush_con
theorem qTE {R : Type} {t : Tail} {e : Entry} {k : TE -> Option R} (h : pTE (t, e)) : gC dTE pTE eTE [.agg (encTail t), .agg (encEntry e)] k = k (t, e) := gC_eq (t, e) (Prod.ext (dec_encTail t) (dec_encEntry e)) h (.refl _)
abbrev SS := List Seen × Seen
def dSS (a : List AV) : SS := (decL decSeen (a.getD 0 .nils), decSeen (argC a 1))
def pSS (p : SS) : Prop := (p.1.length <= 1 /\ ∀ a ∈ p.1, a.sess = 1) /\ p.2.sess = 1
def eSS (p : SS) : List AV := [encSeens p.1, .agg (encSeen p.2)]
def oSS (p : SS) : AV := encSeens (putP p.1 p.2)
theorem seen1 {a : Seen} (h : a.sess = 1) : a = at1 a := by cases a; simp only at h; subst h; rfl
theorem put_con {F : Nat} (hn : ∀ s, callT env25 20 F [.nils, .agg (encSeen s)] = some (.trl 7 [encSeen s])) (he : ∀ s, callT env25 20 F [.trl 7 [], .agg (encSeen s)] = some (.trl 7 [encSeen s]))
  (h1 : ∀ a s : Seen, callT env25 20 F [.trl 7 [encSeen (at1 a)], .agg (encSeen (at1 s))] = bif decide (a.num < s.num) then some (.trl 7 [encSeen (at1 s)]) else some (.trl 7 [encSeen (at1 a)]))
  (p : SS) (h : pSS p) : Contract PG F (eSS p) [] (oSS p) [] := by
 obtain ⟨l, s⟩ := p
 obtain ⟨⟨g1, g2⟩, g3⟩ := h
 simp only at g1 g2 g3
 have one : ∀ s, SubV (.trl 7 [encSeen s]) (encSeens [s]) := fun s => SubV.trl_of [s] rfl
 cases l with
 | nil => exact Contract.split (OrC.of [] [.agg (encSeen s)] .nil) ((con25 (hn s)).res (one s)) ((con25 (he s)).res (one s))
 | cons a l =>
  have : l = [] := by cases l with
   | nil => rfl
   | cons b c => simp at g1
  subst this
  have k := h1 a s
  rw [<- seen1 (g2 a (by simp)), <- seen1 g3] at k
  have key : Contract PG F [.trl 7 [encSeen a], .agg (encSeen s)] [] (encSeens (bif decide (a.num < s.num) then [s] else [a])) [] := by
   cases hd : decide (a.num < s.num) with
   | true => rw [hd] at k; exact (con25 k).res (one s)
   | false => rw [hd] at k; exact (con25 k).res (one a)
  exact key.args (.cons (SubV.encL_trl [a] (by simp)) (.refl _))
theorem sput_con (p : SS) (h : pSS p) : Contract PG F_seen_Put (eSS p) [] (oSS p) [] := put_con sput_n sput_e (fun a s => (sput_1 a s).trans rfl) p h
def kSPut : Known := .spec F_seen_Put dSS pSS eSS oSS
theorem kSPut_ok : kSPut.Ok PG := Known.spec_ok sput_con
theorem qSS {R : Type} {l : List Seen} {s : Seen} {k : SS -> Option R} (h : pSS (l, s)) : gC dSS pSS eSS [encSeens l, .agg (encSeen s)] k = k (l, s) := gC_eq (l, s) (Prod.ext (decSeens l) (dec_encSeen s)) h (.refl _)
def kns26 : List Known := [kTPush, kSPut, kOf]
theorem kns26_ok : ∀ k ∈ kns26, k.Ok PG := ak kTPush_ok (ak kSPut_ok (ak kOf_ok ank))
def env26 : Env := envO kns26
theorem con26 {n f : Nat} {xs : List AV} {r : AV} (e : callT env26 n f xs = some r) : Contract PG f xs [] r [] := con_of (md := fun _ => none) kns26_ok e
theorem cpush_eq (r : Rep) (e : Entry) : callT env26 9 F_chain_push [AV.agg (encRep r), AV.agg (encEntry e)] =
 gC (dTE) (pTE) (eTE) ([AV.agg (encTail r.tail), AV.agg (encEntry e)]) fun y0 =>
 bif !(pushT y0.fst y0.snd).snd then
  some (AV.tup [AV.agg (encRep r), AV.bool false])
 else
  gC (dEnt1) (pEnt1) (eEnt1) ([AV.agg (encEntry e)]) fun y1 =>
  gC (dSS) (pSS) (eSS) ([encSeens r.seen, AV.agg [AV.int IntKind.i64 y1.sess, AV.int IntKind.i64 y1.num, AV.cplx FloatKind.f64 y1.ver.re y1.ver.im, AV.int IntKind.i64 y1.kind, AV.int IntKind.i64 y1.code, AV.str y1.res, AV.bool y1.hasRes]]) fun y2 =>
  some (AV.tup [AV.agg [AV.int IntKind.i64 r.shard, AV.int IntKind.i64 r.self.node, AV.int IntKind.i64 r.self.boot, AV.int IntKind.i64 r.view.shard, AV.int IntKind.i64 r.view.epoch, AV.int IntKind.i64 r.view.gen, AV.int IntKind.i64 r.view.phase, encMembers r.view.chain, AV.int IntKind.i64 r.frozen, AV.cplx FloatKind.f64 (pushT y0.fst y0.snd).fst.floor.re (pushT y0.fst y0.snd).fst.floor.im, AV.cplx FloatKind.f64 (pushT y0.fst y0.snd).fst.last.re (pushT y0.fst y0.snd).fst.last.im, encEntrys (pushT y0.fst y0.snd).fst.log, encSeens (putP y2.fst y2.snd), AV.cplx FloatKind.f64 r.got.re r.got.im, encBools r.synced], AV.bool true]) := by kernel_rfl
structure PushOk (r : Rep) (e : Entry) : Prop where
 log : r.tail.log.length <= 10000
 last : VNum r.tail.last
 ver : VNum e.ver
 seen : r.seen.length <= 1 /\ ∀ a ∈ r.seen, a.sess = 1
 sess : e.sess = 1
abbrev RE := Rep × Entry
def dRE (a : List AV) : RE := (decRep (argC a 0), decEntry (argC a 1))
def pRE (p : RE) : Prop := PushOk p.1 p.2
def eRE (p : RE) : List AV := [.agg (encRep p.1), .agg (encEntry p.2)]
def oRE (p : RE) : AV := .tup [.agg (encRep (pushP p.1 p.2).1), .bool (pushP p.1 p.2).2]
theorem qRE {R : Type} {r : Rep} {e : Entry} {P : RE -> Prop} {k : RE -> Option R} (h : P (r, e)) : gC dRE P eRE [.agg (encRep r), .agg (encEntry e)] k = k (r, e) := gC_eq (r, e) (Prod.ext (dec_encRep r) (dec_encEntry e)) h (.refl _)
theorem push_run {r : Rep} {e : Entry} (h : PushOk r e) {x : Option AV} (hx : x = gC dTE pTE eTE [.agg (encTail r.tail), .agg (encEntry e)] fun y0 => bif !(pushT y0.1 y0.2).2 then some (.tup [.agg (encRep r), .bool false]) else gC dEnt1 pEnt1 eEnt1 [.agg (encEntry e)] fun y1 =>
  gC dSS pSS eSS [encSeens r.seen, .agg (encSeen (ofP y1))] fun y2 => some (.tup [.agg (encRep { r with tail := (pushT y0.1 y0.2).1, seen := putP y2.1 y2.2 }), .bool true])) : x = some (oRE (r, e)) := by
 subst hx
 rw [qTE ⟨h.log, h.last, h.ver⟩]
 unfold oRE pushP pushT
 simp only
 cases hv : vlt r.tail.last e.ver with
 | false => rfl
 | true =>
  simp only [cond_true, Bool.not_true, cond_false]
  rw [qEnt1, qSS ⟨h.seen, h.sess⟩]
  rfl
theorem cpush_con (p : RE) (h : pRE p) : Contract PG F_chain_push (eRE p) [] (oRE p) [] := con26 (push_run h (cpush_eq p.1 p.2))
def kPush : Known := .spec F_chain_push dRE pRE eRE oRE
theorem kPush_ok : kPush.Ok PG := Known.spec_ok cpush_con
structure LiftOk (t : Tail) (v : Ver) : Prop where
 len : t.log.length <= 10000
 fl : VNum t.floor
 la : VNum t.last
 v : VNum v
 log : ∀ e ∈ t.log, VNum e.ver
 le : vle t.floor t.last
abbrev TV := Tail × Ver
def dTV (a : List AV) : TV := (decTail (argC a 0), ⟨(getC a 1).1, (getC a 1).2⟩)
def pTV (p : TV) : Prop := LiftOk p.1 p.2
def eTV (p : TV) : List AV := [.agg (encTail p.1), eV p.2]
def oTV (p : TV) : AV := .agg (encTail (liftP p.1 p.2))
theorem qTV {R : Type} {t : Tail} {v : Ver} {k : TV -> Option R} (h : LiftOk t v) : gC dTV pTV eTV [.agg (encTail t), eV v] k = k (t, v) := gC_eq (t, v) (Prod.ext (dec_encTail t) rfl) h (.refl _)
def mdL (f : Nat) : Option Nat := bif Nat.beq f F_slices_DeleteFunc_api_Entry then some 5 else bif Nat.beq f F_slices_IndexFunc_api_Entry then some 5 else bif Nat.beq f F_tail_Lift_c1 then some 0 else none
abbrev EV := Entry × Ver
def dEV (a : List AV) : EV := (decEntry (argC a 0), match a.getD 1 .nils with
 | .tp cs _ => ⟨(getC cs 0).1, (getC cs 0).2⟩
 | _ => ⟨0, 0⟩)
def pEV (p : EV) : Prop := VNum p.1.ver /\ VNum p.2
def eEV (p : EV) : List AV := [.agg (encEntry p.1), .tp [eV p.2] 0]
def oEV (p : EV) : AV := .bool (!vlt p.2 p.1.ver)
def env27a : Env := envL [] mdL [kAhead]
theorem con27a {n f : Nat} {xs : List AV} {r : AV} (e : callT env27a n f xs = some r) : Contract PG f xs [] r [] := conL (ak kAhead_ok ank) e
theorem c1_eq (e : Entry) (v : Ver) : callT env27a 5 F_tail_Lift_c1 [AV.agg (encEntry e), AV.tp [eV v] 0] =
 gC (dV2) (V2) (eV2) ([AV.cplx FloatKind.f64 v.re v.im, AV.cplx FloatKind.f64 e.ver.re e.ver.im]) fun y0 =>
 some (AV.bool !vlt y0.fst y0.snd) := by kernel_rfl
theorem c1_con (p : EV) (h : pEV p) : Contract PG F_tail_Lift_c1 (eEV p) [] (oEV p) [] := con27a ((c1_eq p.1 p.2).trans (by rw [qV2 h.2 h.1]; rfl))
def kC1 : Known := .spec F_tail_Lift_c1 dEV pEV eEV oEV
theorem kC1_ok : kC1.Ok PG := Known.spec_ok c1_con
theorem qEV {R : Type} {e : Entry} {v : Ver} {k : EV -> Option R} (h : VNum e.ver) (h' : VNum v) : gC dEV pEV eEV [.agg (encEntry e), .tp [.cplx .f64 v.re v.im] 0] k = k (e, v) := gC_eq (e, v) (Prod.ext (dec_encEntry e) rfl) ⟨h, h'⟩ (.refl _)
abbrev LV := List Entry × Ver
def hLV (p : LV) : Heap := [.seq true 11 p.1.length fun i => encEntry (p.1.getD i default), .arr true 1 [[eV p.2]]]
def eLV (p : LV) : List AV × Heap := ([.sl 11 0 0 p.1.length 0, .fn (.func F_tail_Lift_c1) [] [.ptr 1 0 0]], hLV p)
def env27b : Env := envL [] mdL [kC1]
def SIx (p : LV) (i : Int) : St := { fr := [(0, .sl 11 0 0 p.1.length 0), (1, .fn (.func F_tail_Lift_c1) [] [.ptr 1 0 0]), (7, .int .i64 p.1.length), (8, .int .i64 i)], hp := hLV p }
theorem ix_in (N : Nat) (p : LV) : callH env27b (N + 1) F_slices_IndexFunc_api_Entry (eLV p).1 (eLV p).2 = LP env27b N 2 F_slices_IndexFunc_api_Entry (hnK 2) 0 [] N (SIx p 0) := by kernel_rfl
theorem ix_step (N : Nat) (m : Nat) (p : LV) (i : Int) : LP env27b N 2 F_slices_IndexFunc_api_Entry (hnK 2) 0 [] (m + 1) (SIx p i) =
 bif decide (i < (↑p.fst.length : Int)) then
  bif decide (0 <= i) && decide (i < (↑p.fst.length : Int)) then
   bif (0 + i.toNat).blt p.fst.length then
    gC (dEV) (pEV) (eEV) ([AV.agg (encEntry (p.fst.getD (0 + i.toNat) default)), AV.tp [AV.cplx FloatKind.f64 p.snd.re p.snd.im] 0]) fun y1 =>
    bif !vlt y1.snd y1.fst.ver then
     some ((AV.int IntKind.i64 i, [BS.seq true 11 p.fst.length fun i => encEntry (p.fst.getD i default), BS.arr true 1 [[AV.cplx FloatKind.f64 p.snd.re p.snd.im]]]))
    else
     LP (env27b) (N) (2) (F_slices_IndexFunc_api_Entry) (hnK 2) 0 ([]) (m) (SIx p (IntKind.i64.wrap (i + 1)))
   else none
  else none
 else
  some ((AV.int IntKind.i64 (-1), [BS.seq true 11 p.fst.length fun i => encEntry (p.fst.getD i default), BS.arr true 1 [[AV.cplx FloatKind.f64 p.snd.re p.snd.im]]])) := by kernel_rfl
def delFrom (v : Ver) : List Entry -> Nat -> Int
 | [], _ => -1
 | e :: r, i => if vlt v e.ver = true then delFrom v r (i + 1) else i
def decLV (_ : List AV) (h : Heap) : LV := (match hget h 0 with
 | .seq _ _ n f => (List.range n).map fun i => decEntry (f i)
 | _ => [], match hget h 1 with
 | .arr _ _ [[.cplx _ a b]] => ⟨a, b⟩
 | _ => ⟨0, 0⟩)
def pLV (p : LV) : Prop := p.1.length <= 10000 /\ VNum p.2 /\ ∀ e ∈ p.1, VNum e.ver
def oIx (p : LV) : AV × Heap := (.int .i64 (delFrom p.2 p.1 0), hLV p)
def kIx : Known := .specH F_slices_IndexFunc_api_Entry decLV pLV eLV oIx
def env27c : Env := envL [] mdL [kC1, kIx]
def SDl (p : LV) (i j : Int) (F : Nat -> Entry) : St := { fr := [(0, .sl 11 0 0 p.1.length 0), (1, .fn (.func F_tail_Lift_c1) [] [.ptr 1 0 0]), (5, .int .i64 i), (6, .int .i64 j)], hp := [.seq true 11 p.1.length fun x => encEntry (F x), .arr true 1 [[eV p.2]]] }
theorem del_in (N : Nat) (p : LV) : callH env27c (N + 1) F_slices_DeleteFunc_api_Entry (eLV p).1 (eLV p).2 = gCH decLV pLV eLV (eLV p).1 (eLV p).2 fun y2 =>
 bif decide (delFrom y2.2 y2.1 0 = -1) then some (.sl 11 0 0 p.1.length 0, hLV y2)
 else LP env27c N 2 F_slices_DeleteFunc_api_Entry (hnK 2) 0 [] N { fr := [(0, .sl 11 0 0 p.1.length 0), (1, .fn (.func F_tail_Lift_c1) [] [.ptr 1 0 0]), (5, .int .i64 (delFrom y2.2 y2.1 0)), (6, .int .i64 (IntKind.i64.wrap (delFrom y2.2 y2.1 0 + 1)))], hp := hLV y2 } := by kernel_rfl
theorem del_step (N : Nat) (m : Nat) (p : LV) (i : Int) (j : Int) (F : Nat -> Entry) : LP env27c N 2 F_slices_DeleteFunc_api_Entry (hnK 2) 0 [] (m + 1) (SDl p i j F) =
 bif decide (j < (↑p.fst.length : Int)) then
  bif decide (0 <= j) && decide (j < (↑p.fst.length : Int)) then
   bif (0 + j.toNat).blt p.fst.length then
    gC (dEV) (pEV) (eEV) ([AV.agg (encEntry (F (0 + j.toNat))), AV.tp [AV.cplx FloatKind.f64 p.snd.re p.snd.im] 0]) fun y2 =>
    bif !!vlt y2.snd y2.fst.ver then
     bif decide (0 <= i) && decide (i < (↑p.fst.length : Int)) then
      bif (0 + i.toNat).blt p.fst.length && true then
       LP (env27c) (N) (2) (F_slices_DeleteFunc_api_Entry) (hnK 2) 0 ([]) (m) ({ fr := [(0, AV.sl 11 0 0 p.fst.length 0), (1, AV.fn (Fn.func F_tail_Lift_c1) [] [AV.ptr 1 0 0]), (5, AV.int IntKind.i64 (IntKind.i64.wrap (i + 1))), (6, AV.int IntKind.i64 (IntKind.i64.wrap (j + 1)))], hp := [BS.seq true 11 p.fst.length fun i' => bif i'.beq (0 + i.toNat) then encEntry (F (0 + j.toNat)) else encEntry (F i'), BS.arr true 1 [[AV.cplx FloatKind.f64 p.snd.re p.snd.im]]] })
      else none
     else none
    else
     LP (env27c) (N) (2) (F_slices_DeleteFunc_api_Entry) (hnK 2) 0 ([]) (m) (SDl p i (IntKind.i64.wrap (j + 1)) F)
   else none
  else none
 else
  bif decide (0 <= i) && decide (i <= (↑p.fst.length : Int)) then
   bif (p.fst.length - i.toNat).beq 0 then
    bif decide (0 <= i) && decide (i <= (↑(capOf p.fst.length 0) : Int)) then
     some ((AV.sl 11 0 0 i.toNat 0, [BS.seq true 11 p.fst.length fun x => encEntry (F x), BS.arr true 1 [[AV.cplx FloatKind.f64 p.snd.re p.snd.im]]]))
    else none
   else
    bif (0 + i.toNat + (p.fst.length - i.toNat)).ble p.fst.length then
     bif decide (0 <= i) && decide (i <= (↑(capOf p.fst.length 0) : Int)) then
      some ((AV.sl 11 0 0 i.toNat 0, [BS.seq true 11 p.fst.length fun i_1 => bif i_1.blt (0 + i.toNat) then encEntry (F i_1) else bif i_1.blt (0 + i.toNat + (p.fst.length - i.toNat)) then [AV.cplx FloatKind.f64 0 0, AV.int IntKind.i64 0, AV.str [], AV.str [], AV.bool false, AV.bool false, AV.int IntKind.i64 0, AV.int IntKind.i64 0, AV.int IntKind.i64 0, AV.str [], AV.bool false] else encEntry (F i_1), BS.arr true 1 [[AV.cplx FloatKind.f64 p.snd.re p.snd.im]]]))
     else none
    else none
  else none := by kernel_rfl
theorem con27b {p : LV} {N : Nat} {r : AV} {h : Heap} (e : callH env27b N F_slices_IndexFunc_api_Entry (eLV p).1 (eLV p).2 = some (r, h)) : Contract PG F_slices_IndexFunc_api_Entry (eLV p).1 (eLV p).2 r h /\ (eLV p).2.length <= h.length :=
 callH_ok (envL_ok (ak kC1_ok ank)) envL_code mixed e
theorem ix_con (p : LV) (h : pLV p) : Contract PG F_slices_IndexFunc_api_Entry (eLV p).1 (eLV p).2 (oIx p).1 (oIx p).2 /\ (eLV p).2.length <= (oIx p).2.length := by
 obtain ⟨h1, h2, h3⟩ := h
 have run : ∀ d i m, i + d = p.1.length -> d < m -> LP env27b (p.1.length + 1) 2 F_slices_IndexFunc_api_Entry (hnK 2) 0 [] m (SIx p (i : Nat)) = some (.int .i64 (delFrom p.2 (p.1.drop i) i), hLV p) := by
  intro d
  induction d with
  | zero =>
   intro i m hi hm
   obtain ⟨m, rfl⟩ : ∃ k, m = k + 1 := ⟨m - 1, by omega⟩
   rw [ix_step, dec_nat, decide_eq_false (by omega), cond_false, List.drop_eq_nil_of_le (by omega)]
   rfl
  | succ d ih =>
   intro i m hi hm
   obtain ⟨m, rfl⟩ : ∃ k, m = k + 1 := ⟨m - 1, by omega⟩
   have hil : i < p.1.length := by omega
   rw [ix_step, dec_nat, decide_eq_true hil, dec_nonneg, drop_cons (z := default) hil]
   simp only [cond_true, Bool.and_true, Int.toNat_natCast, Nat.zero_add, blt_true hil]
   rw [qEV (h3 _ (getD_mem hil)) h2, wrapS (by omega)]
   unfold delFrom
   cases hv : vlt p.2 (p.1.getD i default).ver with
   | true =>
    simp only [Bool.not_true, cond_false, if_true]
    exact ih (i + 1) m (by omega) (by omega)
   | false =>
    simp only [Bool.not_false, cond_true]
    rfl
 exact con27b ((ix_in (p.1.length + 1) p).trans (run p.1.length 0 (p.1.length + 1) (by omega) (by omega)))
theorem kIx_ok : kIx.Ok PG := Known.specH_ok ix_con
theorem decLV_eq (p : LV) : decLV (eLV p).1 (eLV p).2 = p := by
 show ((List.range p.1.length).map (fun i => decEntry (encEntry (p.1.getD i default))), (⟨p.2.re, p.2.im⟩ : Ver)) = p
 refine Prod.ext ?_ rfl
 refine List.ext_getElem (by simp) fun i g1 g2 => ?_
 simp [dec_encEntry, List.getD, List.getElem?_eq_getElem g2]
theorem qLV {R : Type} {p : LV} {P : LV -> Prop} {k : LV -> Option R} (h : P p) : gCH decLV P eLV (eLV p).1 (eLV p).2 k = k p := gCH_eq p (decLV_eq p) h rfl
def dlG (v : Ver) : Nat -> Nat -> Nat -> (Nat -> Entry) -> Nat × (Nat -> Entry)
 | 0, _, i, F => (i, F)
 | d + 1, j, i, F => bif vlt v (F j).ver then dlG v d (j + 1) (i + 1) (fun x => bif Nat.beq x i then F j else F x) else dlG v d (j + 1) i F
def outG (n : Nat) (r : Nat × (Nat -> Entry)) : Nat -> Entry := fun x => bif Nat.blt x r.1 then r.2 x else bif Nat.blt x (r.1 + (n - r.1)) then default else r.2 x
theorem del_run {p : LV} (h : pLV p) {N : Nat} : ∀ d i j m F, j + d = p.1.length -> d < m -> i < j -> (∀ x, j <= x -> x < p.1.length -> F x = p.1.getD x default) ->
  LP env27c N 2 F_slices_DeleteFunc_api_Entry (hnK 2) 0 [] m (SDl p (i : Nat) (j : Nat) F) = some (.sl 11 0 0 (dlG p.2 d j i F).1 0, [.seq true 11 p.1.length fun x => encEntry (outG p.1.length (dlG p.2 d j i F) x), .arr true 1 [[eV p.2]]]) := by
 obtain ⟨h1, h2, h3⟩ := h
 intro d
 induction d with
 | zero =>
  intro i j m F hj hm hij hF
  obtain ⟨m, rfl⟩ : ∃ k, m = k + 1 := ⟨m - 1, by omega⟩
  have hc : capOf p.1.length 0 = p.1.length := rfl
  rw [del_step, dec_nat, decide_eq_false (by omega), cond_false, hc]
  have hle : decide ((i : Int) <= (p.1.length : Int)) = true := decide_eq_true (by omega)
  simp only [dec_nonneg, hle, Bool.and_true, cond_true, Int.toNat_natCast, beq_false (by omega : p.1.length - i ≠ 0), cond_false, Nat.zero_add, ble_true (by omega : i + (p.1.length - i) <= p.1.length)]
  congr 5
  funext x
  unfold outG dlG
  cases Nat.blt x i <;> cases Nat.blt x (i + (p.1.length - i)) <;> rfl
 | succ d ih =>
  intro i j m F hj hm hij hF
  obtain ⟨m, rfl⟩ : ∃ k, m = k + 1 := ⟨m - 1, by omega⟩
  have hjl : j < p.1.length := by omega
  have hil : i < p.1.length := by omega
  rw [del_step, dec_nat, dec_nat, decide_eq_true hjl, decide_eq_true hil, dec_nonneg, dec_nonneg]
  simp only [cond_true, Bool.and_true, Int.toNat_natCast, Nat.zero_add, blt_true hjl, blt_true hil]
  have hFj := hF j (Nat.le_refl _) hjl
  rw [qEV (by rw [hFj]; exact h3 _ (getD_mem hjl)) h2, wrapS (by omega), wrapS (by omega)]
  unfold dlG
  cases hv : vlt p.2 (F j).ver with
  | true =>
   simp only [Bool.not_true, Bool.not_false, cond_true]
   have e : (fun i' => bif Nat.beq i' i then encEntry (F j) else encEntry (F i')) = fun x => encEntry (bif Nat.beq x i then F j else F x) := by
    funext x; cases Nat.beq x i <;> rfl
   rw [e]
   exact ih (i + 1) (j + 1) m _ (by omega) (by omega) (by omega) fun x hx hxl => by
    rw [beq_false (by omega : x ≠ i), cond_false]; exact hF x (by omega) hxl
  | false =>
   simp only [Bool.not_true, Bool.not_false, cond_false]
   exact ih i (j + 1) m F (by omega) (by omega) (by omega) fun x hx hxl => hF x (by omega) hxl
def rD (p : LV) : Nat × (Nat -> Entry) := dlG p.2 (p.1.length - ((delFrom p.2 p.1 0).toNat + 1)) ((delFrom p.2 p.1 0).toNat + 1) (delFrom p.2 p.1 0).toNat fun x => p.1.getD x default
def kD (p : LV) : Nat := if delFrom p.2 p.1 0 = -1 then p.1.length else (rD p).1
def gD (p : LV) : Nat -> Entry := if delFrom p.2 p.1 0 = -1 then fun x => p.1.getD x default else outG p.1.length (rD p)
def oDl (p : LV) : AV × Heap := (.sl 11 0 0 (kD p) 0, [.seq true 11 p.1.length fun x => encEntry (gD p x), .arr true 1 [[eV p.2]]])
theorem delFrom_cases (v : Ver) : ∀ (l : List Entry) (i : Nat), (delFrom v l i = -1 /\ l.filter (fun e => vlt v e.ver) = l) \/ ∃ k : Nat, k < l.length /\ delFrom v l i = ((i + k : Nat) : Int) /\ (l.take (k + 1)).filter (fun e => vlt v e.ver) = l.take k
 | [], i => .inl ⟨rfl, rfl⟩
 | e :: l, i => by
  unfold delFrom
  cases hv : vlt v e.ver with
  | true =>
   rw [if_pos rfl]
   rcases delFrom_cases v l (i + 1) with ⟨h1, h2⟩ | ⟨k, h1, h2, h3⟩
   ·exact .inl ⟨h1, by rw [List.filter_cons, if_pos hv, h2]⟩
   ·refine .inr ⟨k + 1, by simp; omega, by rw [h2]; congr 1; omega, ?_⟩
    rw [List.take_succ_cons, List.filter_cons, if_pos hv, h3, List.take_succ_cons]
  | false =>
   rw [if_neg (by simp)]
   refine .inr ⟨0, by simp, by simp, ?_⟩
   simp [hv]
theorem con27c {p : LV} {N : Nat} {r : AV} {h : Heap} (e : callH env27c N F_slices_DeleteFunc_api_Entry (eLV p).1 (eLV p).2 = some (r, h)) : Contract PG F_slices_DeleteFunc_api_Entry (eLV p).1 (eLV p).2 r h /\ (eLV p).2.length <= h.length :=
 callH_ok (envL_ok (ak kC1_ok (ak kIx_ok ank))) envL_code mixed e
theorem dl_con (p : LV) (h : pLV p) : Contract PG F_slices_DeleteFunc_api_Entry (eLV p).1 (eLV p).2 (oDl p).1 (oDl p).2 /\ (eLV p).2.length <= (oDl p).2.length := by
 have key := del_in (p.1.length + 1) p
 rw [qLV h] at key
 rcases delFrom_cases p.2 p.1 0 with ⟨e1, e2⟩ | ⟨k, e1, e2, e3⟩
 ·rw [e1] at key
  have : oDl p = (.sl 11 0 0 p.1.length 0, hLV p) := by unfold oDl kD gD; rw [if_pos e1, if_pos e1]; rfl
  rw [this]
  exact con27c key
 ·rw [Nat.zero_add] at e2
  have hne : ¬ (delFrom p.2 p.1 0 = -1) := by rw [e2]; omega
  have h1 := h.1
  rw [decide_eq_false hne, cond_false, e2, wrapS (by omega)] at key
  have run := del_run h (N := p.1.length + 1) (p.1.length - (k + 1)) k (k + 1) (p.1.length + 1) (fun x => p.1.getD x default) (by omega) (by omega) (by omega) (fun x _ _ => rfl)
  have : oDl p = (.sl 11 0 0 (dlG p.2 (p.1.length - (k + 1)) (k + 1) k fun x => p.1.getD x default).1 0, [.seq true 11 p.1.length fun x => encEntry (outG p.1.length (dlG p.2 (p.1.length - (k + 1)) (k + 1) k fun x => p.1.getD x default) x), .arr true 1 [[eV p.2]]]) := by
   unfold oDl kD gD
   rw [if_neg hne, if_neg hne]
   unfold rD
   rw [e2, Int.toNat_natCast]
  rw [this]
  exact con27c (key.trans run)
def kDel : Known := .specH F_slices_DeleteFunc_api_Entry decLV pLV eLV oDl
theorem kDel_ok : kDel.Ok PG := Known.specH_ok dl_con
theorem dlG_ok {v : Ver} {l : List Entry} : ∀ (d j i : Nat) (F : Nat -> Entry), j + d = l.length -> i = ((l.take j).filter fun e => vlt v e.ver).length -> (∀ x, x < i -> F x = ((l.take j).filter fun e => vlt v e.ver).getD x default) ->
  (∀ x, j <= x -> x < l.length -> F x = l.getD x default) -> i <= j -> (dlG v d j i F).1 = (l.filter fun e => vlt v e.ver).length /\ ∀ x, x < (dlG v d j i F).1 -> (dlG v d j i F).2 x = (l.filter fun e => vlt v e.ver).getD x default
 | 0, j, i, F, hj, hi, h1, _, _ => by
  have : l.take j = l := List.take_of_length_le (by omega)
  rw [this] at hi h1
  exact ⟨hi, h1⟩
 | d + 1, j, i, F, hj, hi, h1, h2, hij => by
  have hjl : j < l.length := by omega
  have hFj := h2 j (Nat.le_refl _) hjl
  have htk : l.take (j + 1) = l.take j ++ [l.getD j default] := by
   rw [List.take_add_one, List.getElem?_eq_getElem hjl]
   simp [List.getD, List.getElem?_eq_getElem hjl]
  unfold dlG
  cases hv : vlt v (F j).ver with
  | true =>
   simp only [cond_true]
   have hf : (l.take (j + 1)).filter (fun e => vlt v e.ver) = (l.take j).filter (fun e => vlt v e.ver) ++ [l.getD j default] := by
    rw [htk, List.filter_append]
    congr 1
    rw [hFj] at hv
    rw [List.filter_cons, if_pos hv, List.filter_nil]
   refine dlG_ok d (j + 1) (i + 1) _ (by omega) (by rw [hf, List.length_append, <- hi]; rfl) (fun x hx => ?_) (fun x hx hxl => ?_) (by omega)
   ·rw [hf]
    by_cases e : x = i
    ·subst e
     rw [beq_true rfl, cond_true, hFj]
     rw [hi]; simp [List.getD]
    ·rw [beq_false e, cond_false, h1 x (by omega)]
     unfold List.getD
     rw [List.getElem?_append_left (by omega)]
   ·rw [beq_false (by omega : x ≠ i), cond_false]; exact h2 x (by omega) hxl
  | false =>
   simp only [cond_false]
   have hf : (l.take (j + 1)).filter (fun e => vlt v e.ver) = (l.take j).filter (fun e => vlt v e.ver) := by
    rw [htk, List.filter_append]
    rw [hFj] at hv
    rw [List.filter_cons, if_neg (by rw [hv]; simp), List.filter_nil, List.append_nil]
   exact dlG_ok d (j + 1) i F (by omega) (by rw [hf]; exact hi) (by rw [hf]; exact h1) (fun x hx hxl => h2 x (by omega) hxl) (by omega)
theorem kD_ok (p : LV) : kD p = (p.1.filter fun e => vlt p.2 e.ver).length /\ ∀ x, x < kD p -> gD p x = (p.1.filter fun e => vlt p.2 e.ver).getD x default := by
 unfold kD gD
 rcases delFrom_cases p.2 p.1 0 with ⟨e1, e2⟩ | ⟨k, e1, e2, e3⟩
 ·rw [if_pos e1, if_pos e1, e2]
  exact ⟨rfl, fun x _ => rfl⟩
 ·rw [Nat.zero_add] at e2
  have hne : ¬ (delFrom p.2 p.1 0 = -1) := by rw [e2]; omega
  rw [if_neg hne, if_neg hne]
  unfold rD
  rw [e2, Int.toNat_natCast]
  obtain ⟨h1, h2⟩ := dlG_ok (v := p.2) (l := p.1) (p.1.length - (k + 1)) (k + 1) k (fun x => p.1.getD x default) (by omega) (by rw [e3, List.length_take]; omega) (fun x hx => by
   rw [e3]
   unfold List.getD
   rw [List.getElem?_take, if_pos hx]) (fun x _ _ => rfl) (by omega)
  refine ⟨h1, fun x hx => ?_⟩
  unfold outG
  rw [blt_true hx, cond_true]
  exact h2 x hx
theorem cloneEB (n : Nat) (f : Nat -> List AV) : callH env0 2 F_slices_Clone_api_Entry [AV.tr 11 (n + 1) f] [] =
 bif ((0 + (n + 1)) * 112).ble 140737488355328 && (0 + (n + 1)).ble 140737488355328 then
  some ((AV.sl 11 0 0 (n + 1) 0, [BS.seq true 11 (n + 1) f]))
 else none := by kernel_rfl
def pNe (l : List Entry) : Prop := l.length <= 10000 /\ l ≠ []
theorem cloneEB_con (l : List Entry) (h : pNe l) : Contract PG F_slices_Clone_api_Entry [encEntrys l] [] (outBlk 11 encEntry default l).1 (outBlk 11 encEntry default l).2 := by
 obtain ⟨h1, h2⟩ := h
 cases l with
 | nil => exact absurd rfl h2
 | cons a r =>
  have k := cloneEB r.length fun i => encEntry ((a :: r).getD i default)
  simp only [List.length_cons] at h1
  simp only [roomV (n := 0 + (r.length + 1)) (b := 112) (by omega) (by omega), ble_self, Bool.and_true, cond_true] at k
  exact (callH_ok (envM_ok (md := fun _ => none) (l := []) fun k hk => by cases hk) envM_code mixed k).1
def kCloneEB : Known := .specB F_slices_Clone_api_Entry (dL decEntry) pNe eEnts (fun l => outBlk 11 encEntry default l)
theorem kCloneEB_ok : kCloneEB.Ok PG := Known.specB_ok cloneEB_con
def env28 : Env := envL [] mdL [kLater, kCloneEB, kDel]
theorem con28 {n f : Nat} {xs : List AV} {r : AV} (e : callT env28 n f xs = some r) : Contract PG f xs [] r [] := conL (ak kLater_ok (ak kCloneEB_ok (ak kDel_ok ank))) e
def env28n : Env := envO [kLater]
theorem con28n {n f : Nat} {xs : List AV} {r : AV} (e : callT env28n n f xs = some r) : Contract PG f xs [] r [] := con_of (md := fun _ => none) (ak kLater_ok ank) e
theorem lift_n (f : Ver) (l : Ver) (v : Ver) : callT env28n 9 F_tail_Lift [AV.agg [eV f, eV l, AV.nils], eV v] =
 gC (dV2) (V2) (eV2) ([AV.cplx FloatKind.f64 f.re f.im, AV.cplx FloatKind.f64 v.re v.im]) fun y0 =>
 gC (dV2) (V2) (eV2) ([AV.cplx FloatKind.f64 l.re l.im, AV.cplx FloatKind.f64 v.re v.im]) fun y1 =>
 some (AV.agg [AV.cplx FloatKind.f64 (vmax y0.fst y0.snd).re (vmax y0.fst y0.snd).im, AV.cplx FloatKind.f64 (vmax y1.fst y1.snd).re (vmax y1.fst y1.snd).im, AV.nils]) := by kernel_rfl
theorem lift_e (f : Ver) (l : Ver) (v : Ver) : callT env28n 9 F_tail_Lift [AV.agg [eV f, eV l, AV.trl 11 []], eV v] =
 gC (dV2) (V2) (eV2) ([AV.cplx FloatKind.f64 f.re f.im, AV.cplx FloatKind.f64 v.re v.im]) fun y2 =>
 gC (dV2) (V2) (eV2) ([AV.cplx FloatKind.f64 l.re l.im, AV.cplx FloatKind.f64 v.re v.im]) fun y3 =>
 some (AV.agg [AV.cplx FloatKind.f64 (vmax y2.fst y2.snd).re (vmax y2.fst y2.snd).im, AV.cplx FloatKind.f64 (vmax y3.fst y3.snd).re (vmax y3.fst y3.snd).im, AV.trl 11 []]) := by kernel_rfl
theorem lift_c (f : Ver) (l : Ver) (v : Ver) (lg : List Entry) : callT env28 9 F_tail_Lift [AV.agg [eV f, eV l, encEntrys lg], eV v] =
 gC (dL decEntry) (pNe) (eEnts) ([encEntrys lg]) fun y4 =>
 gCH (decLV) (pLV) (eLV) ([AV.sl 11 0 0 y4.length 0, AV.fn (Fn.func F_tail_Lift_c1) [] [AV.ptr 1 0 0]]) ([BS.seq true 11 y4.length fun i => encEntry (y4.getD i default), BS.arr true 1 [[AV.cplx FloatKind.f64 v.re v.im]]]) fun y5 =>
 gC (dV2) (V2) (eV2) ([AV.cplx FloatKind.f64 f.re f.im, AV.cplx FloatKind.f64 y5.snd.re y5.snd.im]) fun y6 =>
 gC (dV2) (V2) (eV2) ([AV.cplx FloatKind.f64 l.re l.im, AV.cplx FloatKind.f64 y5.snd.re y5.snd.im]) fun y7 =>
 bif ((kD y5).beq 0 || (kD y5).ble y5.fst.length) && true then
  some (AV.agg [AV.cplx FloatKind.f64 (vmax y6.fst y6.snd).re (vmax y6.fst y6.snd).im, AV.cplx FloatKind.f64 (vmax y7.fst y7.snd).re (vmax y7.fst y7.snd).im, AV.tr 11 (kD y5) fun i => encEntry (gD y5 i)])
 else none := by kernel_rfl
theorem lift_con (p : TV) (h : pTV p) : Contract PG F_tail_Lift (eTV p) [] (oTV p) [] := by
 obtain ⟨⟨f, l, lg⟩, v⟩ := p
 have h : LiftOk ⟨f, l, lg⟩ v := h
 have hf := h.fl
 have hla := h.la
 have hv := h.v
 simp only at hf hla
 cases lg with
 | nil =>
  refine Contract.split (OrC.of [] [eV v] (.agg (OrC.of [eV f, eV l] [] .nil))) ?_ ?_
  ·have k := lift_n f l v
   rw [qV2 hf hv, qV2 hla hv] at k
   exact (con28n k).res (tail_sub nilsL)
  ·have k := lift_e f l v
   rw [qV2 hf hv, qV2 hla hv] at k
   exact (con28n k).res (tail_sub emp_sub)
 | cons a r =>
  have k := lift_c f l v (a :: r)
  have hp : pLV (a :: r, v) := ⟨h.len, hv, h.log⟩
  have e0 : gC (R := AV) (dL decEntry) pNe eEnts [encEntrys (a :: r)] = fun k => k (a :: r) := by funext k; exact gC_eq _ (decEntrys _) ⟨h.len, by simp⟩ (.refl _)
  rw [e0] at k
  have k : callT env28 9 F_tail_Lift [.agg [eV f, eV l, encEntrys (a :: r)], eV v] = gCH decLV pLV eLV (eLV (a :: r, v)).1 (eLV (a :: r, v)).2 fun y5 => gC dV2 V2 eV2 [.cplx .f64 f.re f.im, .cplx .f64 y5.2.re y5.2.im] fun y6 => gC dV2 V2 eV2 [.cplx .f64 l.re l.im, .cplx .f64 y5.2.re y5.2.im] fun y7 =>
   bif ((kD y5).beq 0 || (kD y5).ble y5.1.length) && true then some (.agg [eV (vmax y6.1 y6.2), eV (vmax y7.1 y7.2), .tr 11 (kD y5) fun i => encEntry (gD y5 i)]) else none := k
  rw [qLV hp, qV2 hf hv, qV2 hla hv] at k
  obtain ⟨g1, g2⟩ := kD_ok (a :: r, v)
  have hle : (kD (a :: r, v)).ble (a :: r).length = true := ble_true (by rw [g1]; exact List.length_filter_le _ _)
  simp only [hle, Bool.or_true, Bool.and_true, cond_true] at k
  refine (con28 k).res (tail_sub ?_)
  show SubV _ (encEntrys ((a :: r).filter fun e => vlt v e.ver))
  unfold encEntrys encL
  rw [<- g1]
  exact SubV.trs fun i hi => by rw [g2 i hi]; exact .refl _
def kLift : Known := .spec F_tail_Lift dTV pTV eTV oTV
theorem kLift_ok : kLift.Ok PG := Known.spec_ok lift_con
def kns28c : List Known := [kOwn, kLift, kHead, kPush]
theorem kns28c_ok : ∀ k ∈ kns28c, k.Ok PG := ak kOwn_ok (ak kLift_ok (ak kHead_ok (ak kPush_ok ank)))
def env28c : Env := envO kns28c
theorem con28c {n f : Nat} {xs : List AV} {r : AV} (e : callT env28c n f xs = some r) : Contract PG f xs [] r [] := con_of (md := fun _ => none) kns28c_ok e
theorem cpush2_eq (r : Rep) (e : Entry) : callT env28c 9 F_chain_Push [AV.agg (encRep r), AV.agg (encEntry e)] =
 gC (dRep1) (RepShort) (eRep1) ([AV.agg (encRep r)]) fun y10 =>
 gC (dRep1) (pRep1) (eRep1) ([AV.agg (encRep y10)]) fun y11 =>
 bif !headP y11 then
  some (AV.tup [AV.agg (encRep y10), AV.bool false])
 else
  gC (dRE) (pRE) (eRE) ([AV.agg (encRep y10), AV.agg (encEntry e)]) fun y12 =>
  some (AV.tup [AV.agg (encRep (pushP y12.fst y12.snd).fst), AV.bool (pushP y12.fst y12.snd).snd]) := by kernel_rfl
def headPush (p : RE) : Rep × Bool := bif headP p.1 then pushP p.1 p.2 else (p.1, false)
def oRE2 (p : RE) : AV := .tup [.agg (encRep (headPush p).1), .bool (headPush p).2]
def pRE2 (p : RE) : Prop := RepShort p.1 /\ PushOk p.1 p.2
theorem cpush2_con (p : RE) (h : pRE2 p) : Contract PG F_chain_Push (eRE p) [] (oRE2 p) [] := by
 obtain ⟨r, e⟩ := p
 have k := cpush2_eq r e
 rw [qRep1 (P := RepShort) h.1, qRep1 (P := pRep1) trivial] at k
 unfold oRE2 headPush
 simp only
 cases hh : headP r with
 | false => rw [hh] at k; exact con28c k
 | true =>
  rw [hh] at k
  simp only [Bool.not_true, cond_false] at k
  rw [qRE (P := pRE) h.2] at k
  exact con28c k
def kPush2 : Known := .spec F_chain_Push dRE pRE2 eRE oRE2
theorem kPush2_ok : kPush2.Ok PG := Known.spec_ok cpush2_con
def kns29 : List Known := [kNum, kPush]
theorem kns29_ok : ∀ k ∈ kns29, k.Ok PG := ak kNum_ok (ak kPush_ok ank)
def env29 : Env := envL [] (fun f => bif Nat.beq f F_chain_push then some 0 else none) kns29
theorem con29 {n f : Nat} {xs : List AV} {r : AV} (e : callT env29 n f xs = some r) : Contract PG f xs [] r [] := conL kns29_ok e
def z15 : List AV := [.int .i64 0, .int .i64 0, .int .i64 0, .int .i64 0, .int .i64 0, .int .i64 0, .int .i64 0, .nils, .int .i64 0, .cplx .f64 0 0, .cplx .f64 0 0, .nils, .nils, .cplx .f64 0 0, .nils]
def STk (l : List Entry) (r : Rep) (i : Int) : St := { fr := [(1, encEntrys l), (2, .ptr 0 0 0), (4, .ptr 1 0 0), (5, .int .i64 i)], hp := [.arr true 15 [encRep r], .arr true 15 [z15]] }
def takK (l : List Entry) (r : Rep) (i : Int) (K : Rep -> Int -> Option AV) : Option AV :=
 bif decide (i = (l.length : Int)) then some (.agg (encRep r)) else rg i l.length <|
  gC dV1 VNum eV1 [eV (l.getD i.toNat default).ver] fun y0 => gC dV1 VNum eV1 [eV r.tail.last] fun y1 =>
  bif decide ((nu y0 : Int) = IntKind.i64.wrap ((nu y1 : Int) + 1)) then rg i l.length <| gC dRE pRE eRE [.agg (encRep r), .agg (encEntry (l.getD i.toNat default))] fun y2 => K (pushP y2.1 y2.2).1 (IntKind.i64.wrap (i + 1))
  else K r (IntKind.i64.wrap (i + 1))
theorem take_in' (N : Nat) (r : Rep) (l : List Entry) : callT env29 (N + 1) F_chain_takeUp [.agg (encRep r), encEntrys l] = takK l r 0 fun r i => JP env29 N 0 F_chain_takeUp snK 0 N (STk l r i) := by kernel_rfl
theorem take_step (N m : Nat) (r : Rep) (l : List Entry) (i : Int) : JP env29 N 0 F_chain_takeUp snK 0 (m + 1) (STk l r i) = takK l r i fun r i => JP env29 N 0 F_chain_takeUp snK 0 m (STk l r i) := by kernel_rfl
structure TakeOk (r : Rep) (l : List Entry) : Prop where
 log : r.tail.log.length + l.length <= 10000
 last : VNum r.tail.last
 seen : r.seen.length <= 1 /\ ∀ a ∈ r.seen, a.sess = 1
 ent : ∀ e ∈ l, VNum e.ver /\ e.sess = 1
theorem TakeOk.push {r : Rep} {e : Entry} {l : List Entry} (h : TakeOk r (e :: l)) : PushOk r e := ⟨by have := h.log; simp only [List.length_cons] at this; omega, h.last, (h.ent e (by simp)).1, h.seen, (h.ent e (by simp)).2⟩
theorem putP_one {l : List Seen} {s : Seen} (h : l.length <= 1 /\ ∀ a ∈ l, a.sess = 1) (hs : s.sess = 1) : (putP l s).length <= 1 /\ ∀ a ∈ putP l s, a.sess = 1 := by
 cases l with
 | nil => exact ⟨by simp [putP], fun a ha => by simp [putP] at ha; rw [ha]; exact hs⟩
 | cons b l =>
  have : l = [] := by cases l with
   | nil => rfl
   | cons c d => simp at h
  subst this
  show (bif decide (b.num < s.num) then [s] else [b]).length <= 1 /\ ∀ a ∈ (bif decide (b.num < s.num) then [s] else [b]), a.sess = 1
  cases decide (b.num < s.num) with
  | true => exact ⟨by simp, fun a ha => by simp at ha; rw [ha]; exact hs⟩
  | false => exact h
theorem TakeOk.next {r : Rep} {e : Entry} {l : List Entry} (h : TakeOk r (e :: l)) : TakeOk r l /\ TakeOk (pushP r e).1 l := by
 have h1 := h.log
 simp only [List.length_cons] at h1
 refine ⟨⟨by omega, h.last, h.seen, fun x hx => h.ent x (by simp [hx])⟩, ?_⟩
 unfold pushP
 cases vlt r.tail.last e.ver with
 | false => exact ⟨by simp only [cond_false]; omega, h.last, h.seen, fun x hx => h.ent x (by simp [hx])⟩
 | true => exact ⟨by simp only [cond_true, pushR, List.length_append, List.length_cons, List.length_nil]; omega, (h.ent e (by simp)).1, putP_one h.seen (h.ent e (by simp)).2, fun x hx => h.ent x (by simp [hx])⟩
theorem takK_step {l : List Entry} {K : Rep -> Int -> Option AV} {r : Rep} {i : Nat} (h : TakeOk r (l.drop i)) (hl : l.length <= 10000) (hi : i <= l.length) (hK : ∀ r', i < l.length -> TakeOk r' (l.drop (i + 1)) -> K r' ((i + 1 : Nat) : Int) = some (.agg (encRep (takeP r' (l.drop (i + 1)))))) :
  takK l r (i : Int) K = some (.agg (encRep (takeP r (l.drop i)))) := by
 unfold takK
 by_cases e : i = l.length
 ·rw [decide_eq_true (by rw [e]), cond_true, List.drop_eq_nil_of_le (by omega)]; rfl
 ·have hil : i < l.length := by omega
  rw [decide_eq_false (by omega), cond_false, rg_eq hil, Int.toNat_natCast]
  rw [drop_cons (z := default) hil] at h ⊢
  obtain ⟨n1, n2⟩ := h.next
  have hpush : PushOk r (l.getD i default) := h.push
  have hver : VNum (l.getD i default).ver := (h.ent _ (List.mem_cons_self)).1
  rw [show (fun y0 => gC dV1 VNum eV1 [eV r.tail.last] fun y1 => bif decide ((nu y0 : Int) = IntKind.i64.wrap ((nu y1 : Int) + 1)) then rg (i : Int) l.length <| gC dRE pRE eRE [.agg (encRep r), .agg (encEntry (l.getD i default))] fun y2 => K (pushP y2.1 y2.2).1 (IntKind.i64.wrap ((i : Int) + 1)) else K r (IntKind.i64.wrap ((i : Int) + 1))) =
   fun y0 => bif decide ((nu y0 : Int) = IntKind.i64.wrap ((nu r.tail.last : Int) + 1)) then K (pushP r (l.getD i default)).1 (IntKind.i64.wrap ((i : Int) + 1)) else K r (IntKind.i64.wrap ((i : Int) + 1)) from by
    funext y0
    have q1 := qV1 (R := AV) h.last (k := fun y1 => bif decide ((nu y0 : Int) = IntKind.i64.wrap ((nu y1 : Int) + 1)) then rg (i : Int) l.length <| gC dRE pRE eRE [.agg (encRep r), .agg (encEntry (l.getD i default))] fun y2 => K (pushP y2.1 y2.2).1 (IntKind.i64.wrap ((i : Int) + 1)) else K r (IntKind.i64.wrap ((i : Int) + 1)))
    refine q1.trans ?_
    rw [rg_eq hil, qRE (r := r) (e := l.getD i default) (P := pRE) hpush]]
  have q0 := qV1 (R := AV) hver (k := fun y0 => bif decide ((nu y0 : Int) = IntKind.i64.wrap ((nu r.tail.last : Int) + 1)) then K (pushP r (l.getD i default)).1 (IntKind.i64.wrap ((i : Int) + 1)) else K r (IntKind.i64.wrap ((i : Int) + 1)))
  refine q0.trans ?_
  have hnl := h.last.lt.2
  have hw : IntKind.i64.wrap ((nu r.tail.last : Int) + 1) = ((nu r.tail.last + 1 : Nat) : Int) := wrap64 (by omega)
  rw [hw, wrapS (by omega), dec_int]
  unfold takeP
  cases decide (nu (l.getD i default).ver = nu r.tail.last + 1) with
  | true => exact hK _ hil n2
  | false => exact hK _ hil n1
theorem take_con (p : Rep × List Entry) (h : TakeOk p.1 p.2) : Contract PG F_chain_takeUp [.agg (encRep p.1), encEntrys p.2] [] (.agg (encRep (takeP p.1 p.2))) [] := by
 obtain ⟨r, l⟩ := p
 have h : TakeOk r l := h
 have hl : l.length <= 10000 := by have := h.log; omega
 have run : ∀ d i m r, i + d = l.length -> d < m -> TakeOk r (l.drop i) -> JP env29 (l.length + 1) 0 F_chain_takeUp snK 0 m (STk l r (i : Nat)) = some (.agg (encRep (takeP r (l.drop i)))) := by
  intro d
  induction d with
  | zero =>
   intro i m r hi hm h
   obtain ⟨m, rfl⟩ : ∃ k, m = k + 1 := ⟨m - 1, by omega⟩
   rw [take_step]
   exact takK_step h hl (by omega) fun r' hlt _ => by omega
  | succ d ih =>
   intro i m r hi hm h
   obtain ⟨m, rfl⟩ : ∃ k, m = k + 1 := ⟨m - 1, by omega⟩
   rw [take_step]
   exact takK_step h hl (by omega) fun r' _ h' => ih (i + 1) m r' (by omega) (by omega) h'
 refine con29 ((take_in' (l.length + 1) r l).trans ?_)
 have := takK_step (l := l) (K := fun r i => JP env29 (l.length + 1) 0 F_chain_takeUp snK 0 (l.length + 1) (STk l r i)) (r := r) (i := 0) (by rw [List.drop_zero]; exact h) hl (by omega) fun r' hlt h' => run (l.length - 1) 1 (l.length + 1) r' (by omega) (by omega) h'
 rw [List.drop_zero] at this
 exact this
def dRL (a : List AV) : Rep × List Entry := (decRep (argC a 0), decL decEntry (a.getD 1 .nils))
def pRL (p : Rep × List Entry) : Prop := TakeOk p.1 p.2
def eRL (p : Rep × List Entry) : List AV := [.agg (encRep p.1), encEntrys p.2]
theorem qRL {R : Type} {r : Rep} {l : List Entry} {k : Rep × List Entry -> Option R} (h : TakeOk r l) : gC dRL pRL eRL [.agg (encRep r), encEntrys l] k = k (r, l) := gC_eq (r, l) (Prod.ext (dec_encRep r) (decEntrys l)) h (.refl _)
def kTake : Known := .spec F_chain_takeUp dRL pRL eRL (fun p => .agg (encRep (takeP p.1 p.2)))
theorem kTake_ok : kTake.Ok PG := Known.spec_ok take_con
def inKd (m : Msg) (k : Int) : Msg := ⟨k, m.src, m.dst, m.boot, m.sboot, m.shard, m.epoch, m.gen, m.sess, m.num, m.a, m.code, m.has, m.fresh, m.key, m.val, m.ver, m.floor, m.op, m.entries, m.chain, m.views, m.image⟩
def kns30 : List Known := [kOwn, kAgain, kAcked, kTake, kLift, kAhead, kLater, kIndex, kAheadV, kBehind, kTo, kMake, kCloneMember, kCloneEntry, kCloneSeen]
theorem kns30_ok : ∀ k ∈ kns30, k.Ok PG := ak kOwn_ok (ak kAgain_ok (ak kAcked_ok (ak kTake_ok (ak kLift_ok (ak kAhead_ok (ak kLater_ok (ak kIndex_ok (ak kAheadV_ok (ak kBehind_ok (ak kTo_ok (ak kMake_ok (ak kCloneMember_ok (ak kCloneEntry_ok (ak kCloneSeen_ok ank))))))))))))))
def env30 : Env := envO kns30
theorem con30 {n f : Nat} {xs : List AV} {r : AV} (e : callT env30 n f xs = some r) : Contract PG f xs [] r [] := con_of (md := fun _ => none) kns30_ok e
theorem h8 (r : Rep) (m : Msg) : callT env30 9 F_chain_Handle [AV.agg (encRep r), AV.agg (encMsg (inKd m 8))] =
 gC (dRep1) (RepShort) (eRep1) ([AV.agg (encRep r)]) fun y0 =>
 bif !decide ((inKd m 8).dst = y0.self.node) then
  some (AV.tup [AV.agg (encRep y0), AV.nils])
 else
  bif !decide ((inKd m 8).boot = y0.self.boot) then
   some (AV.tup [AV.agg (encRep y0), AV.nils])
  else
   bif !decide ((inKd m 8).shard = y0.shard) then
    some (AV.tup [AV.agg (encRep y0), AV.nils])
   else
    bif decide ((inKd m 8).epoch <= y0.view.epoch) then
     some (AV.tup [AV.agg (encRep y0), AV.nils])
    else
     bif decide ((inKd m 8).epoch < y0.frozen) then
      some (AV.tup [AV.agg (encRep y0), AV.nils])
     else
      some (AV.tup [AV.agg [AV.int IntKind.i64 y0.shard, AV.int IntKind.i64 y0.self.node, AV.int IntKind.i64 y0.self.boot, AV.int IntKind.i64 y0.view.shard, AV.int IntKind.i64 y0.view.epoch, AV.int IntKind.i64 y0.view.gen, AV.int IntKind.i64 y0.view.phase, encMembers y0.view.chain, AV.int IntKind.i64 m.epoch, AV.cplx FloatKind.f64 y0.tail.floor.re y0.tail.floor.im, AV.cplx FloatKind.f64 y0.tail.last.re y0.tail.last.im, encEntrys y0.tail.log, encSeens y0.seen, AV.cplx FloatKind.f64 y0.got.re y0.got.im, encBools y0.synced], AV.trl 31 [[AV.int IntKind.i64 9, AV.int IntKind.i64 y0.self.node, AV.int IntKind.i64 m.src, AV.int IntKind.i64 0, AV.int IntKind.i64 y0.self.boot, AV.int IntKind.i64 y0.shard, AV.int IntKind.i64 m.epoch, AV.int IntKind.i64 0, AV.int IntKind.i64 0, AV.int IntKind.i64 0, AV.int IntKind.i64 y0.view.epoch, AV.int IntKind.i64 0, AV.bool !decide (y0.view.phase = 0), AV.bool false, AV.str [], AV.str [], AV.cplx FloatKind.f64 y0.tail.last.re y0.tail.last.im, AV.cplx FloatKind.f64 0 0, AV.int IntKind.i64 0, AV.str [], AV.str [], AV.str [], AV.bool false, AV.nils, AV.nils, AV.nils, AV.cplx FloatKind.f64 0 0, AV.cplx FloatKind.f64 0 0, AV.int IntKind.i64 0, AV.nils, AV.nils]]]) := by kernel_rfl
theorem h13 (r : Rep) (m : Msg) : callT env30 9 F_chain_Handle [AV.agg (encRep r), AV.agg (encMsg (inKd m 13))] =
 gC (dRep1) (RepShort) (eRep1) ([AV.agg (encRep r)]) fun y1 =>
 bif !decide ((inKd m 13).dst = y1.self.node) then
  some (AV.tup [AV.agg (encRep y1), AV.nils])
 else
  bif !decide ((inKd m 13).boot = y1.self.boot) then
   some (AV.tup [AV.agg (encRep y1), AV.nils])
  else
   bif !decide ((inKd m 13).shard = y1.shard) then
    some (AV.tup [AV.agg (encRep y1), AV.nils])
   else
    gC (decLM) (preLM) (encLM) ([encMembers y1.view.chain, AV.agg (encMember y1.self)]) fun y2 =>
    bif !(sideP y2.fst y2.snd (-1)).isSome then
     some (AV.tup [AV.agg (encRep y1), AV.nils])
    else
     bif !decide (y1.view.phase = 0) then
      bif decide (y1.frozen <= y1.view.epoch) then
       bif !decide (y1.view.phase = 3) then
        some (AV.tup [AV.agg (encRep y1), AV.nils])
       else
        bif !decide ((inKd m 13).epoch = y1.view.epoch) then
         some (AV.tup [AV.agg (encRep y1), AV.nils])
        else
         bif decide ((inKd m 13).src = ((sideP y2.fst y2.snd (-1)).getD default).node) then
          bif !decide ((inKd m 13).sboot = ((sideP y2.fst y2.snd (-1)).getD default).boot) then
           some (AV.tup [AV.agg (encRep y1), AV.nils])
          else
           gC (dRL) (pRL) (eRL) ([AV.agg (encRep y1), encEntrys m.entries]) fun y3 =>
           gC (dV2) (V2) (eV2) ([AV.cplx FloatKind.f64 (takeP y3.fst y3.snd).tail.last.re (takeP y3.fst y3.snd).tail.last.im, AV.cplx FloatKind.f64 m.floor.re m.floor.im]) fun y4 =>
           bif !vlt y4.fst y4.snd then
            gC (dTV) (pTV) (eTV) ([AV.agg (encTail (takeP y3.fst y3.snd).tail), AV.cplx FloatKind.f64 m.floor.re m.floor.im]) fun y5 =>
            gC (dRep1) (RepAg) (eRep1) ([AV.agg [AV.int IntKind.i64 (takeP y3.fst y3.snd).shard, AV.int IntKind.i64 (takeP y3.fst y3.snd).self.node, AV.int IntKind.i64 (takeP y3.fst y3.snd).self.boot, AV.int IntKind.i64 (takeP y3.fst y3.snd).view.shard, AV.int IntKind.i64 (takeP y3.fst y3.snd).view.epoch, AV.int IntKind.i64 (takeP y3.fst y3.snd).view.gen, AV.int IntKind.i64 (takeP y3.fst y3.snd).view.phase, encMembers (takeP y3.fst y3.snd).view.chain, AV.int IntKind.i64 (takeP y3.fst y3.snd).frozen, AV.cplx FloatKind.f64 (vmax y5.fst.floor y5.snd).re (vmax y5.fst.floor y5.snd).im, AV.cplx FloatKind.f64 (vmax y5.fst.last y5.snd).re (vmax y5.fst.last y5.snd).im, encEntrys (List.filter (fun e => vlt y5.snd e.ver) y5.fst.log), encSeens (takeP y3.fst y3.snd).seen, AV.cplx FloatKind.f64 (takeP y3.fst y3.snd).got.re (takeP y3.fst y3.snd).got.im, encBools (takeP y3.fst y3.snd).synced]]) fun y6 =>
            some (AV.tup [AV.agg [AV.int IntKind.i64 (takeP y3.fst y3.snd).shard, AV.int IntKind.i64 (takeP y3.fst y3.snd).self.node, AV.int IntKind.i64 (takeP y3.fst y3.snd).self.boot, AV.int IntKind.i64 (takeP y3.fst y3.snd).view.shard, AV.int IntKind.i64 (takeP y3.fst y3.snd).view.epoch, AV.int IntKind.i64 (takeP y3.fst y3.snd).view.gen, AV.int IntKind.i64 (takeP y3.fst y3.snd).view.phase, encMembers (takeP y3.fst y3.snd).view.chain, AV.int IntKind.i64 (takeP y3.fst y3.snd).frozen, AV.cplx FloatKind.f64 (vmax y5.fst.floor y5.snd).re (vmax y5.fst.floor y5.snd).im, AV.cplx FloatKind.f64 (vmax y5.fst.last y5.snd).re (vmax y5.fst.last y5.snd).im, encEntrys (List.filter (fun e => vlt y5.snd e.ver) y5.fst.log), encSeens (takeP y3.fst y3.snd).seen, AV.cplx FloatKind.f64 (takeP y3.fst y3.snd).got.re (takeP y3.fst y3.snd).got.im, encBools (takeP y3.fst y3.snd).synced], encMsgs (againP y6)])
           else
            gC (dRep1) (RepAg) (eRep1) ([AV.agg (encRep (takeP y3.fst y3.snd))]) fun y7 =>
            some (AV.tup [AV.agg (encRep (takeP y3.fst y3.snd)), encMsgs (againP y7)])
         else
          some (AV.tup [AV.agg (encRep y1), AV.nils])
      else
       some (AV.tup [AV.agg (encRep y1), AV.nils])
     else
      some (AV.tup [AV.agg (encRep y1), AV.nils]) := by kernel_rfl
theorem h14 (r : Rep) (m : Msg) : callT env30 9 F_chain_Handle [AV.agg (encRep r), AV.agg (encMsg (inKd m 14))] =
 gC (dRep1) (RepShort) (eRep1) ([AV.agg (encRep r)]) fun y8 =>
 bif !decide ((inKd m 14).dst = y8.self.node) then
  some (AV.tup [AV.agg (encRep y8), AV.nils])
 else
  bif !decide ((inKd m 14).boot = y8.self.boot) then
   some (AV.tup [AV.agg (encRep y8), AV.nils])
  else
   bif !decide ((inKd m 14).shard = y8.shard) then
    some (AV.tup [AV.agg (encRep y8), AV.nils])
   else
    gC (decLM) (preLM) (encLM) ([encMembers y8.view.chain, AV.agg (encMember y8.self)]) fun y9 =>
    bif !(sideP y9.fst y9.snd 1).isSome then
     some (AV.tup [AV.agg (encRep y8), AV.nils])
    else
     bif !decide (y8.view.phase = 0) then
      bif decide (y8.frozen <= y8.view.epoch) then
       bif !decide (y8.view.phase = 3) then
        some (AV.tup [AV.agg (encRep y8), AV.nils])
       else
        bif !decide ((inKd m 14).epoch = y8.view.epoch) then
         some (AV.tup [AV.agg (encRep y8), AV.nils])
        else
         bif decide ((inKd m 14).src = ((sideP y9.fst y9.snd 1).getD default).node) then
          bif !decide ((inKd m 14).sboot = ((sideP y9.fst y9.snd 1).getD default).boot) then
           some (AV.tup [AV.agg (encRep y8), AV.nils])
          else
           gC (dV2) (V2) (eV2) ([AV.cplx FloatKind.f64 y8.tail.last.re y8.tail.last.im, AV.cplx FloatKind.f64 m.ver.re m.ver.im]) fun y10 =>
           bif !vlt y10.fst y10.snd then
            gC (dV2) (V2) (eV2) ([AV.cplx FloatKind.f64 y8.got.re y8.got.im, AV.cplx FloatKind.f64 m.ver.re m.ver.im]) fun y11 =>
            gC (decLM) (preLM) (encLM) ([encMembers y8.view.chain, AV.agg (encMember y8.self)]) fun y12 =>
            bif (sideP y12.fst y12.snd (-1)).isSome then
             gC (dRM) (pRM) (eRM) ([AV.agg [AV.int IntKind.i64 y8.shard, AV.int IntKind.i64 y8.self.node, AV.int IntKind.i64 y8.self.boot, AV.int IntKind.i64 y8.view.shard, AV.int IntKind.i64 y8.view.epoch, AV.int IntKind.i64 y8.view.gen, AV.int IntKind.i64 y8.view.phase, encMembers y8.view.chain, AV.int IntKind.i64 y8.frozen, AV.cplx FloatKind.f64 y8.tail.floor.re y8.tail.floor.im, AV.cplx FloatKind.f64 y8.tail.last.re y8.tail.last.im, encEntrys y8.tail.log, encSeens y8.seen, AV.cplx FloatKind.f64 (vmax y11.fst y11.snd).re (vmax y11.fst y11.snd).im, encBools y8.synced], AV.agg (encMember ((sideP y12.fst y12.snd (-1)).getD default))]) fun y13 =>
             some (AV.tup [AV.agg [AV.int IntKind.i64 y8.shard, AV.int IntKind.i64 y8.self.node, AV.int IntKind.i64 y8.self.boot, AV.int IntKind.i64 y8.view.shard, AV.int IntKind.i64 y8.view.epoch, AV.int IntKind.i64 y8.view.gen, AV.int IntKind.i64 y8.view.phase, encMembers y8.view.chain, AV.int IntKind.i64 y8.frozen, AV.cplx FloatKind.f64 y8.tail.floor.re y8.tail.floor.im, AV.cplx FloatKind.f64 y8.tail.last.re y8.tail.last.im, encEntrys y8.tail.log, encSeens y8.seen, AV.cplx FloatKind.f64 (vmax y11.fst y11.snd).re (vmax y11.fst y11.snd).im, encBools y8.synced], AV.trl 31 [[AV.int IntKind.i64 14, AV.int IntKind.i64 y13.fst.self.node, AV.int IntKind.i64 y13.snd.node, AV.int IntKind.i64 y13.snd.boot, AV.int IntKind.i64 y13.fst.self.boot, AV.int IntKind.i64 y13.fst.shard, AV.int IntKind.i64 y13.fst.view.epoch, AV.int IntKind.i64 0, AV.int IntKind.i64 0, AV.int IntKind.i64 0, AV.int IntKind.i64 0, AV.int IntKind.i64 0, AV.bool false, AV.bool false, AV.str [], AV.str [], AV.cplx FloatKind.f64 (haveP y13.fst).re (haveP y13.fst).im, AV.cplx FloatKind.f64 0 0, AV.int IntKind.i64 0, AV.str [], AV.str [], AV.str [], AV.bool false, encEntrys [], encMembers [], encViews [], AV.cplx FloatKind.f64 0 0, AV.cplx FloatKind.f64 0 0, AV.int IntKind.i64 0, encEntrys [], encSeens []]]])
            else
             some (AV.tup [AV.agg [AV.int IntKind.i64 y8.shard, AV.int IntKind.i64 y8.self.node, AV.int IntKind.i64 y8.self.boot, AV.int IntKind.i64 y8.view.shard, AV.int IntKind.i64 y8.view.epoch, AV.int IntKind.i64 y8.view.gen, AV.int IntKind.i64 y8.view.phase, encMembers y8.view.chain, AV.int IntKind.i64 y8.frozen, AV.cplx FloatKind.f64 y8.tail.floor.re y8.tail.floor.im, AV.cplx FloatKind.f64 y8.tail.last.re y8.tail.last.im, encEntrys y8.tail.log, encSeens y8.seen, AV.cplx FloatKind.f64 (vmax y11.fst y11.snd).re (vmax y11.fst y11.snd).im, encBools y8.synced], AV.nils])
           else
            gC (decLM) (preLM) (encLM) ([encMembers y8.view.chain, AV.agg (encMember y8.self)]) fun y14 =>
            bif (sideP y14.fst y14.snd (-1)).isSome then
             gC (dRM) (pRM) (eRM) ([AV.agg (encRep y8), AV.agg (encMember ((sideP y14.fst y14.snd (-1)).getD default))]) fun y15 =>
             some (AV.tup [AV.agg (encRep y8), AV.trl 31 [[AV.int IntKind.i64 14, AV.int IntKind.i64 y15.fst.self.node, AV.int IntKind.i64 y15.snd.node, AV.int IntKind.i64 y15.snd.boot, AV.int IntKind.i64 y15.fst.self.boot, AV.int IntKind.i64 y15.fst.shard, AV.int IntKind.i64 y15.fst.view.epoch, AV.int IntKind.i64 0, AV.int IntKind.i64 0, AV.int IntKind.i64 0, AV.int IntKind.i64 0, AV.int IntKind.i64 0, AV.bool false, AV.bool false, AV.str [], AV.str [], AV.cplx FloatKind.f64 (haveP y15.fst).re (haveP y15.fst).im, AV.cplx FloatKind.f64 0 0, AV.int IntKind.i64 0, AV.str [], AV.str [], AV.str [], AV.bool false, encEntrys [], encMembers [], encViews [], AV.cplx FloatKind.f64 0 0, AV.cplx FloatKind.f64 0 0, AV.int IntKind.i64 0, encEntrys [], encSeens []]]])
            else
             some (AV.tup [AV.agg (encRep y8), AV.nils])
         else
          some (AV.tup [AV.agg (encRep y8), AV.nils])
      else
       some (AV.tup [AV.agg (encRep y8), AV.nils])
     else
      some (AV.tup [AV.agg (encRep y8), AV.nils]) := by kernel_rfl
structure HandOk (r : Rep) (m : Msg) : Prop where
 ex : ∃ (E : Int) (N : Nat), N <= 1000 /\ E <= N /\ RepIs E N r /\ MsgIs E N m
def oHd (o : Rep × List Msg) : AV := .tup [.agg (encRep o.1), encMsgs o.2]
def nilA (r : Rep) : Option AV := some (.tup [.agg (encRep r), .nils])
theorem gate {R : Type} {a b c : Bool} {X K : Option R} : (bif !a then X else bif !b then X else bif !c then X else K) = bif a && (b && c) then K else X := by cases a <;> cases b <;> cases c <;> rfl
theorem gate2 {R : Type} {a b : Bool} {X K : Option R} : (bif a then X else bif b then X else K) = bif !a && !b then K else X := by cases a <;> cases b <;> rfl
theorem gateN {R : Type} {s p q t u v w : Bool} {X K : Option R} : (bif !s then X else bif !p then bif q then bif !t then X else bif !u then X else bif v then bif !w then X else K else X else X else X) = bif s && (((!p && q) && t) && (u && (v && w))) then K else X := by
 cases s <;> cases p <;> cases q <;> cases t <;> cases u <;> cases v <;> cases w <;> rfl
theorem out_nil {r : Rep} : SubV (.tup [.agg (encRep r), .nils]) (oHd (r, [])) := .tup (.cons (.refl _) (.cons nilsL .nil))
theorem TailIs.lift {N : Nat} {t : Tail} {v : Ver} (h : TailIs N t) (hv : VB N v) (hN : N <= 1000) : LiftOk t v :=
 ⟨by have := h.len; have := (h.la.le hN).2; omega, h.fl.num hN, h.la.num hN, hv.num hN, fun e he => (h.ent e he).1.num hN, h.le⟩
theorem SeenIs.one {N : Nat} {l : List Seen} (h : SeenIs N l) : l.length <= 1 /\ ∀ a ∈ l, a.sess = 1 := ⟨h.1, fun a ha => by obtain ⟨v, _, e⟩ := h.2 a ha; rw [e]; rfl⟩
theorem EntIs.one {N : Nat} {e : Entry} (h : EntIs N e) : e.sess = 1 := by rw [h.2]; rfl
theorem RepIs.take {E : Int} {N : Nat} {r : Rep} {l : List Entry} (h : RepIs E N r) (hl : l.length <= N) (he : ∀ e ∈ l, EntIs N e) (hN : N <= 1000) : TakeOk r l :=
 ⟨by have := h.tail.len; have := (h.tail.la.le hN).2; omega, h.tail.la.num hN, h.seen.one, fun e hx => ⟨(he e hx).1.num hN, (he e hx).one⟩⟩
theorem side_who {l : List Member} {x : Member} {d : Int} {m : Msg} : ((sideP l x d).isSome && (decide (m.src = ((sideP l x d).getD default).node) && decide (m.sboot = ((sideP l x d).getD default).boot))) = decide (sideP l x d = some (who m)) := by
 cases sideP l x d with
 | none => rfl
 | some a =>
  have e := mem_eq (who m) a
  have e2 : (decide (m.src = a.node) && decide (m.sboot = a.boot)) = decide (who m = a) := e
  show (true && (decide (m.src = a.node) && decide (m.sboot = a.boot))) = _
  rw [e2, Bool.true_and]
  by_cases h : who m = a
  ·rw [decide_eq_true h, decide_eq_true (by rw [h])]
  ·rw [decide_eq_false h, decide_eq_false fun h' => h (Option.some.inj h').symm]
theorem bool7 {s p q t u v w : Bool} : (s && (((!p && q) && t) && (u && (v && w)))) = (((!p && q) && t) && (u && (s && (v && w)))) := by
 cases s <;> cases p <;> cases q <;> cases t <;> cases u <;> cases v <;> cases w <;> rfl
theorem nextG_eq (r : Rep) (m : Msg) (d : Int) : ((sideP r.view.chain r.self d).isSome && (((!decide (r.view.phase = 0) && decide (r.frozen <= r.view.epoch)) && decide (r.view.phase = 3)) && (decide (m.epoch = r.view.epoch) && (decide (m.src = ((sideP r.view.chain r.self d).getD default).node) && decide (m.sboot = ((sideP r.view.chain r.self d).getD default).boot))))) = nextG r m d := by
 rw [bool7, side_who]; rfl
theorem inKd_eq {m : Msg} {k : Int} (h : m.kind = k) : inKd m k = m := by cases m; simp only at h; subst h; rfl
theorem h8_con {r : Rep} {m : Msg} (h : HandOk r m) (hk : m.kind = 8) : Contract PG F_chain_Handle [.agg (encRep r), .agg (encMsg m)] [] (oHd (handP r m)) [] := by
 obtain ⟨E, N, hN, hEN, hr, hm⟩ := h.ex
 have k := h8 r m
 rw [inKd_eq hk, qRep1 (P := RepShort) (hr.ag hN).short, gate, gate2] at k
 unfold handP handK
 rw [hk]
 show Contract PG _ _ [] (oHd (bif toMe r m then freezeP r m else (r, []))) []
 have e1 : (decide (m.dst = r.self.node) && (decide (m.boot = r.self.boot) && decide (m.shard = r.shard))) = toMe r m := rfl
 have e2 : (!decide (m.epoch <= r.view.epoch) && !decide (m.epoch < r.frozen)) = aboveP r m := by
  unfold aboveP
  by_cases h1 : m.epoch <= r.view.epoch <;> by_cases h2 : m.epoch < r.frozen <;> simp [h1, h2] <;> omega
 rw [e1, e2] at k
 cases ht : toMe r m with
 | false => rw [ht] at k; exact (con30 k).res out_nil
 | true =>
  rw [ht] at k
  unfold freezeP
  cases ha : aboveP r m with
  | false => rw [ha] at k; exact (con30 k).res out_nil
  | true =>
   rw [ha] at k
   refine (con30 k).res (.tup (.cons (.refl _) (.cons ?_ .nil)))
   exact SubV.trans (trl_map (X := Unit) (f := fun _ => _) (g := fun _ => encMsg (frozeM r m)) (fun _ => subC_all (by repeat' (first | exact trivial | exact nilsL | exact SubV.refl _ | refine ⟨?_, ?_⟩))) [()]) (SubV.trl_of [frozeM r m] rfl)
theorem h13_con {r : Rep} {m : Msg} (h : HandOk r m) (hk : m.kind = 13) : Contract PG F_chain_Handle [.agg (encRep r), .agg (encMsg m)] [] (oHd (handP r m)) [] := by
 obtain ⟨E, N, hN, hEN, hr, hm⟩ := h.ex
 have k := h13 r m
 rw [inKd_eq hk, qRep1 (P := RepShort) (hr.ag hN).short, gate, qLM (hr.ag hN).short.1, gateN] at k
 unfold handP handK
 rw [hk]
 show Contract PG _ _ [] (oHd (bif toMe r m then fwdP r m else (r, []))) []
 have e1 : (decide (m.dst = r.self.node) && (decide (m.boot = r.self.boot) && decide (m.shard = r.shard))) = toMe r m := rfl
 rw [e1, nextG_eq] at k
 cases ht : toMe r m with
 | false => rw [ht] at k; exact (con30 k).res out_nil
 | true =>
  rw [ht] at k
  simp only [cond_true] at k ⊢
  unfold fwdP
  cases ha : nextG r m (-1) with
  | false => rw [ha] at k; exact (con30 k).res out_nil
  | true =>
   rw [ha] at k
   simp only [cond_true] at k ⊢
   have htk := takeP_is hr hm.ent
   have hfw := fwdR_is hr hm
   rw [qRL (hr.take hm.elen hm.ent hN), qV2 (htk.tail.la.num hN) (hm.floor.num hN)] at k
   unfold fwdR at hfw ⊢
   cases hv : vlt (takeP r m.entries).tail.last m.floor with
   | true =>
    rw [hv] at k hfw
    simp only [Bool.not_true, cond_false, cond_true] at k hfw ⊢
    rw [qRep1 (P := RepAg) (hfw.ag hN)] at k
    exact con30 k
   | false =>
    rw [hv] at k hfw
    simp only [Bool.not_false, cond_false, cond_true] at k hfw ⊢
    have qt : ∀ K : TV -> Option AV, gC dTV pTV eTV [.agg (encTail (takeP r m.entries).tail), .cplx .f64 m.floor.re m.floor.im] K = K ((takeP r m.entries).tail, m.floor) := fun K => qTV (htk.tail.lift hm.floor hN)
    rw [qt] at k
    have k : callT env30 9 F_chain_Handle [.agg (encRep r), .agg (encMsg m)] = gC dRep1 RepAg eRep1 [.agg (encRep (liftR (takeP r m.entries) m.floor))] fun y => some (.tup [.agg (encRep (liftR (takeP r m.entries) m.floor)), encMsgs (againP y)]) := k
    rw [qRep1 (P := RepAg) (hfw.ag hN)] at k
    exact con30 k
theorem acks_out {r : Rep} (hc : r.view.chain.length <= LB) {X : Option AV} {cs : AV} (hcs : cs = .agg (encRep r)) {f : Rep × Member -> AV} (hf : ∀ y, f y = .tup [cs, .trl 31 [encMsg { toM y.1 y.2 14 with ver := haveP y.1 }]])
  (hX : X = gC decLM preLM encLM [encMembers r.view.chain, .agg (encMember r.self)] fun y12 => bif (sideP y12.1 y12.2 (-1)).isSome then gC dRM pRM eRM [cs, .agg (encMember ((sideP y12.1 y12.2 (-1)).getD default))] fun y => some (f y) else some (.tup [cs, .nils])) :
  ∃ v, X = some v /\ SubV v (oHd (r, acksP r)) := by
 subst hcs
 rw [qLM hc] at hX
 unfold oHd acksP
 cases hs : sideP r.view.chain r.self (-1) with
 | none => rw [hs] at hX; exact ⟨_, hX, .tup (.cons (.refl _) (.cons nilsL .nil))⟩
 | some a =>
  rw [hs] at hX
  simp only [Option.isSome_some, cond_true, Option.getD_some] at hX
  rw [qRM (P := pRM) hc, hf] at hX
  exact ⟨_, hX, .tup (.cons (.refl _) (.cons (SubV.trl_of [_] rfl) .nil))⟩
theorem h14_con {r : Rep} {m : Msg} (h : HandOk r m) (hk : m.kind = 14) : Contract PG F_chain_Handle [.agg (encRep r), .agg (encMsg m)] [] (oHd (handP r m)) [] := by
 obtain ⟨E, N, hN, hEN, hr, hm⟩ := h.ex
 have k := h14 r m
 rw [inKd_eq hk, qRep1 (P := RepShort) (hr.ag hN).short, gate, qLM (hr.ag hN).short.1, gateN] at k
 unfold handP handK
 rw [hk]
 show Contract PG _ _ [] (oHd (bif toMe r m then ackP r m else (r, []))) []
 have e1 : (decide (m.dst = r.self.node) && (decide (m.boot = r.self.boot) && decide (m.shard = r.shard))) = toMe r m := rfl
 rw [e1, nextG_eq] at k
 cases ht : toMe r m with
 | false => rw [ht] at k; exact (con30 k).res out_nil
 | true =>
  rw [ht] at k
  simp only [cond_true] at k ⊢
  unfold ackP
  cases ha : nextG r m 1 with
  | false => rw [ha] at k; exact (con30 k).res out_nil
  | true =>
   rw [ha] at k
   simp only [cond_true] at k ⊢
   rw [qV2 (hr.tail.la.num hN) (hm.ver.num hN)] at k
   unfold ackR
   cases hv : vlt r.tail.last m.ver with
   | true =>
    rw [hv] at k
    simp only [Bool.not_true, cond_false, cond_true] at k ⊢
    obtain ⟨v, h1, h2⟩ := acks_out (hr.ag hN).short.1 (cs := .agg (encRep r)) rfl (f := fun y => .tup [.agg (encRep r), .trl 31 [encMsg { toM y.1 y.2 14 with ver := haveP y.1 }]]) (fun _ => rfl) k
    exact (con30 h1).res h2
   | false =>
    rw [hv] at k
    simp only [Bool.not_false, cond_false, cond_true] at k ⊢
    rw [qV2 (hr.got.num hN) (hm.ver.num hN)] at k
    obtain ⟨v, h1, h2⟩ := acks_out (r := { r with got := vmax r.got m.ver }) (hr.ag hN).short.1 (cs := .agg (encRep { r with got := vmax r.got m.ver })) rfl (f := fun y => .tup [.agg (encRep { r with got := vmax r.got m.ver }), .trl 31 [encMsg { toM y.1 y.2 14 with ver := haveP y.1 }]]) (fun _ => rfl) k
    exact (con30 h1).res h2
def repN (r : Rep) (m : Msg) (l : List Member) (ph : Int) (fl la : Ver) (lg se : AV) (go : Ver) (sy : AV) : List AV :=
 [.int .i64 r.shard, .int .i64 r.self.node, .int .i64 r.self.boot, .int .i64 m.shard, .int .i64 m.epoch, .int .i64 m.gen, .int .i64 ph, encMembers l, .int .i64 r.frozen, eV fl, eV la, lg, se, eV go, sy]
def gt {R : Type} (y : Rep) (m : Msg) (X K : Option R) : Option R := bif !decide (m.dst = y.self.node) then X else bif !decide (m.boot = y.self.boot) then X else bif !decide (m.shard = y.shard) then X else K
theorem gt_eq {R : Type} {y : Rep} {m : Msg} {X K : Option R} : gt y m X K = bif toMe y m then K else X := gate
def oldK (y : Rep) (m : Msg) : Option AV := bif !decide (y.view.phase = 0) then bif !decide (y.frozen <= y.view.epoch) then nilA y else bif !decide (m.epoch = y.view.epoch) then nilA y else
 gC dTo pTo eTo [.agg (encRep y), .agg (encMember (who m)), .int .i64 12] fun z => some (.tup [.agg (encRep y), .trl 31 [encMsg (toM z.1 z.2.1 z.2.2)]]) else nilA y
def newK (y : Rep) (m : Msg) : Option AV := gC (dL decMember) shortL eMems [encMembers m.chain] fun a => gC (dL decEntry) shortL eEnts [encEntrys m.image.log] fun b => gC (dL decSeen) shortL eSeens [encSeens m.image.seen] fun c =>
 bif !decide (y.frozen <= m.epoch) then some (.tup [.agg (repN y m a 3 m.image.floor m.image.last (encEntrys b) (encSeens c) m.image.last .nils), .nils]) else bif !decide (m.epoch = m.epoch) then some (.tup [.agg (repN y m a 3 m.image.floor m.image.last (encEntrys b) (encSeens c) m.image.last .nils), .nils]) else
 gC dTo pTo eTo [.agg (repN y m a 3 m.image.floor m.image.last (encEntrys b) (encSeens c) m.image.last .nils), .agg (encMember (who m)), .int .i64 12] fun z => some (.tup [.agg (repN y m a 3 m.image.floor m.image.last (encEntrys b) (encSeens c) m.image.last .nils), .trl 31 [encMsg (toM z.1 z.2.1 z.2.2)]])
theorem h11 (r : Rep) (m : Msg) : callT env30 9 F_chain_Handle [.agg (encRep r), .agg (encMsg (inKd m 11))] = gC dRep1 RepShort eRep1 [.agg (encRep r)] fun y => gt y m (nilA y) <|
  gC decLM preLM encLM [encMembers m.chain, .agg (encMember y.self)] fun z => bif decide (idx z.1 z.2 < 1) then nilA y else
  bif decide (y.view.epoch < m.epoch) then bif decide (y.frozen <= m.epoch) then newK y m else oldK y m else oldK y m := by kernel_rfl
theorem old_out (r : Rep) (m : Msg) : ∃ v, oldK r m = some v /\ SubV v (oHd (r, bif liveP r && decide (m.epoch = r.view.epoch) then [toM r (who m) 12] else [])) := by
 unfold oldK liveP
 rw [qTo]
 cases decide (r.view.phase = 0) with
 | true => exact ⟨_, rfl, out_nil⟩
 | false =>
  cases decide (r.frozen <= r.view.epoch) with
  | false => exact ⟨_, rfl, out_nil⟩
  | true =>
   cases decide (m.epoch = r.view.epoch) with
   | false => exact ⟨_, rfl, out_nil⟩
   | true => exact ⟨_, rfl, .tup (.cons (.refl _) (.cons (SubV.trl_of [_] rfl) .nil))⟩
theorem h11_con {r : Rep} {m : Msg} (h : HandOk r m) (hk : m.kind = 11) : Contract PG F_chain_Handle [.agg (encRep r), .agg (encMsg m)] [] (oHd (handP r m)) [] := by
 obtain ⟨E, N, hN, hEN, hr, hm⟩ := h.ex
 have k := h11 r m
 have hLB : ∀ n, n <= 1000 -> n <= LB := fun n h => by unfold LB; omega
 have hch : m.chain.length <= LB := hLB _ (by have := hm.chain.1; omega)
 rw [inKd_eq hk, qRep1 (P := RepShort) (hr.ag hN).short, gt_eq, qLM hch] at k
 unfold handP handK
 rw [hk]
 show Contract PG _ _ [] (oHd (bif toMe r m then insP r m else (r, []))) []
 cases ht : toMe r m with
 | false => rw [ht] at k; exact (con30 k).res out_nil
 | true =>
  rw [ht] at k
  simp only [cond_true] at k ⊢
  unfold insP
  by_cases hi : 0 < idx m.chain r.self
  ·rw [decide_eq_false (by omega : ¬ idx m.chain r.self < 1), cond_false] at k
   rw [decide_eq_true hi, cond_true]
   obtain ⟨v, o1, o2⟩ := old_out r m
   have e : (bif decide (r.view.epoch < m.epoch) then bif decide (r.frozen <= m.epoch) then newK r m else oldK r m else oldK r m) = bif aboveP r m then newK r m else oldK r m := by
    unfold aboveP; cases decide (r.view.epoch < m.epoch) <;> cases decide (r.frozen <= m.epoch) <;> rfl
   rw [e] at k
   unfold insR
   cases ha : aboveP r m with
   | false => rw [ha] at k; exact (con30 (k.trans o1)).res o2
   | true =>
    rw [ha] at k
    simp only [cond_true] at k ⊢
    obtain ⟨a1, a2⟩ := above_iff.1 ha
    unfold newK at k
    have hlg : shortL m.image.log := hLB _ (Nat.le_trans hm.img.len (Nat.le_trans (hm.img.la.le hN).2 hN))
    have hsn : shortL m.image.seen := hLB _ (by have := hm.iseen.1; omega)
    rw [qMems hch, qEnts hlg, qSeens hsn, decide_eq_true a2, decide_eq_true rfl] at k
    simp only [Bool.not_true, cond_false] at k
    have hsub : SubC (repN r m m.chain 3 m.image.floor m.image.last (encEntrys m.image.log) (encSeens m.image.seen) m.image.last .nils) (encRep { r with view := ⟨m.shard, m.epoch, m.gen, 3, m.chain⟩, tail := ⟨m.image.floor, m.image.last, m.image.log⟩, seen := m.image.seen, got := m.image.last, synced := [] }) :=
     subC_all (by repeat' (first | exact trivial | exact nilsL | exact SubV.refl _ | refine ⟨?_, ?_⟩))
    have hdec : decRep (repN r m m.chain 3 m.image.floor m.image.last (encEntrys m.image.log) (encSeens m.image.seen) m.image.last .nils) = { r with view := ⟨m.shard, m.epoch, m.gen, 3, m.chain⟩, tail := ⟨m.image.floor, m.image.last, m.image.log⟩, seen := m.image.seen, got := m.image.last, synced := [] } := by
     show (⟨r.shard, ⟨r.self.node, r.self.boot⟩, ⟨m.shard, m.epoch, m.gen, 3, decL decMember (encMembers m.chain)⟩, r.frozen, ⟨m.image.floor, m.image.last, decL decEntry (encEntrys m.image.log)⟩, decL decSeen (encSeens m.image.seen), m.image.last, []⟩ : Rep) = _
     rw [decMembers, decEntrys, decSeens]
    have q := gC_eq (R := AV) (dec := dTo) (pre := pTo) (enc := eTo) (A := [.agg (repN r m m.chain 3 m.image.floor m.image.last (encEntrys m.image.log) (encSeens m.image.seen) m.image.last .nils), .agg (encMember (who m)), .int .i64 12])
     (k := fun z => some (.tup [.agg (repN r m m.chain 3 m.image.floor m.image.last (encEntrys m.image.log) (encSeens m.image.seen) m.image.last .nils), .trl 31 [encMsg (toM z.1 z.2.1 z.2.2)]]))
     (_, who m, 12) (Prod.ext hdec rfl) trivial (.cons (.agg hsub) (.refl _))
    rw [q] at k
    have hlive : ∀ e, m.epoch = e -> (liveP { r with view := ⟨m.shard, m.epoch, m.gen, 3, m.chain⟩, tail := ⟨m.image.floor, m.image.last, m.image.log⟩, seen := m.image.seen, got := m.image.last, synced := [] } && decide (m.epoch = e)) = true := by
     intro e he
     rw [decide_eq_true he, Bool.and_true]
     show (true && decide (r.frozen <= m.epoch)) = true
     rw [decide_eq_true a2]; rfl
    have key : ∀ (b : Bool) (R' : Rep), b = true -> SubC (repN r m m.chain 3 m.image.floor m.image.last (encEntrys m.image.log) (encSeens m.image.seen) m.image.last .nils) (encRep R') ->
      SubV (.tup [.agg (repN r m m.chain 3 m.image.floor m.image.last (encEntrys m.image.log) (encSeens m.image.seen) m.image.last .nils), .trl 31 [encMsg (toM R' (who m) 12)]]) (oHd (R', bif b then [toM R' (who m) 12] else [])) := by
     intro b R' hb hs
     subst hb
     exact .tup (.cons (.agg hs) (.cons (SubV.trl_of [_] rfl) .nil))
    exact (con30 k).res (key _ _ (by have := hlive _ rfl; simpa using this) hsub)
  ·rw [decide_eq_true (by omega : idx m.chain r.self < 1), cond_true] at k
   rw [decide_eq_false hi, cond_false]
   exact (con30 k).res out_nil
def inAc (m : Msg) (l : List Member) : Msg := ⟨10, m.src, m.dst, m.boot, m.sboot, m.shard, m.epoch, m.gen, m.sess, m.num, m.a, m.code, m.has, m.fresh, m.key, m.val, m.ver, m.floor, m.op, m.entries, l, m.views, m.image⟩
theorem inAc_eq {m : Msg} (h : m.kind = 10) : inAc m m.chain = m := by cases m; simp only at h; subst h; rfl
def agK (cs : List AV) : Option AV := gC dRep1 RepAg eRep1 [.agg cs] fun y => some (.tup [.agg cs, encMsgs (againP y)])
def actK (y : Rep) (m : Msg) (l : List Member) (ph : Int) (sy : AV) : Option AV := gC (dL decMember) shortL eMems [encMembers l] fun a =>
 bif m.fresh then gC dI2 pI2 eI2 [.int .i64 m.epoch, .int .i64 0] fun b => agK (repN y m a ph (vr b.1 b.2) (vr b.1 b.2) .nils .nils (vr b.1 b.2) sy)
 else agK (repN y m a ph y.tail.floor y.tail.last (encEntrys y.tail.log) (encSeens y.seen) y.tail.last sy)
def whenK (y : Rep) (m : Msg) (K : Option AV) : Option AV :=
 bif m.fresh then bif !decide (y.view.phase = 0) then bif !decide (y.frozen <= m.epoch) then bif !decide (m.epoch = y.frozen) then nilA y else K else K else bif !decide (y.frozen <= m.epoch) then nilA y else K
 else bif !decide (y.view.phase = 0) then bif !decide (m.epoch = y.frozen) then nilA y else K else nilA y
def H10 (m : Msg) (K : Rep -> Option AV) : Rep -> Option AV := fun y => gt y m (nilA y) <| bif decide (m.epoch < 0) then nilA y else bif decide (1099511627776 < m.epoch) then nilA y else bif decide (m.epoch <= y.view.epoch) then nilA y else K y
theorem h10_0 (r : Rep) (m : Msg) : callT env30 9 F_chain_Handle [.agg (encRep r), .agg (encMsg (inAc m []))] = gC dRep1 RepShort eRep1 [.agg (encRep r)] (H10 m nilA) := by kernel_rfl
theorem h10_1 (r : Rep) (m : Msg) (a : Member) : callT env30 9 F_chain_Handle [.agg (encRep r), .agg (encMsg (inAc m [a]))] =
  gC dRep1 RepShort eRep1 [.agg (encRep r)] (H10 m fun y => bif !(chF [a] y.self) then nilA y else whenK y m (actK y m [a] 3 (.trl 1 [[.bool true]]))) := by kernel_rfl
theorem h10_2 (r : Rep) (m : Msg) (a b : Member) : callT env30 9 F_chain_Handle [.agg (encRep r), .agg (encMsg (inAc m [a, b]))] =
  gC dRep1 RepShort eRep1 [.agg (encRep r)] (H10 m fun y => bif !(chF [a, b] y.self) then nilA y else whenK y m (actK y m [a, b] 2 (.trl 1 [[.bool true], [.bool false]]))) := by kernel_rfl
theorem h10_3 (r : Rep) (m : Msg) (a b c : Member) : callT env30 9 F_chain_Handle [.agg (encRep r), .agg (encMsg (inAc m [a, b, c]))] =
  gC dRep1 RepShort eRep1 [.agg (encRep r)] (H10 m fun y => bif !(chF [a, b, c] y.self) then nilA y else whenK y m (actK y m [a, b, c] 2 (.trl 1 [[.bool true], [.bool false], [.bool false]]))) := by kernel_rfl
theorem h10_4 (r : Rep) (m : Msg) (a b c d : Member) : callT env30 9 F_chain_Handle [.agg (encRep r), .agg (encMsg (inAc m [a, b, c, d]))] =
  gC dRep1 RepShort eRep1 [.agg (encRep r)] (H10 m fun y => bif !(chF [a, b, c, d] y.self) then nilA y else whenK y m (actK y m [a, b, c, d] 2 (.trl 1 [[.bool true], [.bool false], [.bool false], [.bool false]]))) := by kernel_rfl
theorem H10_eq {m : Msg} {K : Rep -> Option AV} {r : Rep} (h0 : 0 <= m.epoch) (h1 : m.epoch <= 1099511627776) : H10 m K r = bif toMe r m then bif decide (m.epoch <= r.view.epoch) then nilA r else K r else nilA r := by
 unfold H10
 rw [gt_eq, decide_eq_false (by omega : ¬ m.epoch < 0), decide_eq_false (by omega : ¬ 1099511627776 < m.epoch)]
 rfl
theorem whenK_eq {r : Rep} {m : Msg} {K : Option AV} : whenK r m K = bif (m.fresh && decide (r.frozen <= m.epoch)) || (!decide (r.view.phase = 0) && decide (m.epoch = r.frozen)) then K else nilA r := by
 unfold whenK
 cases m.fresh <;> cases decide (r.view.phase = 0) <;> cases decide (r.frozen <= m.epoch) <;> cases decide (m.epoch = r.frozen) <;> rfl
theorem qI2 {R : Type} {a b : Int} {k : Nat × Nat -> Option R} (ha : 0 <= a) (hb : 0 <= b) : gC dI2 pI2 eI2 [.int .i64 a, .int .i64 b] k = k (a.toNat, b.toNat) := by
 refine gC_eq (a.toNat, b.toNat) rfl trivial ?_
 show SubC _ [.int .i64 (a.toNat : Int), .int .i64 (b.toNat : Int)]
 rw [Int.toNat_of_nonneg ha, Int.toNat_of_nonneg hb]
 exact .refl _
theorem agK_eq {cs : List AV} {R' : Rep} (hd : decRep cs = R') (hs : SubC cs (encRep R')) (h : RepAg R') : agK cs = some (.tup [.agg cs, encMsgs (againP R')]) := by
 unfold agK
 exact gC_eq (dec := dRep1) (pre := RepAg) (enc := eRep1) R' hd h (.cons (.agg hs) .nil)
theorem actK_eq {r : Rep} {m : Msg} {l : List Member} {sy : AV} {bs : List Bool} (hl : shortL l) (hml : m.chain = l) (h0 : 0 <= m.epoch) (hsy : decL decBool sy = bs) (hsb : SubV sy (encBools bs)) (hbs : bs = true :: List.replicate (m.chain.length - 1) false) (hR : RepAg (actR r m)) :
  ∃ v, actK r m l (bif decide (m.chain.length = 1) then 3 else 2) sy = some v /\ SubV v (oHd (actR r m, againP (actR r m))) := by
 unfold actK
 rw [qMems hl]
 have dR : ∀ (fl la go : Ver) (lg se : AV), decRep (repN r m l (bif decide (m.chain.length = 1) then 3 else 2) fl la lg se go sy) = ⟨r.shard, ⟨r.self.node, r.self.boot⟩, ⟨m.shard, m.epoch, m.gen, bif decide (m.chain.length = 1) then 3 else 2, l⟩, r.frozen, ⟨fl, la, decL decEntry lg⟩, decL decSeen se, go, bs⟩ := by
  intro fl la go lg se
  show (⟨r.shard, ⟨r.self.node, r.self.boot⟩, ⟨m.shard, m.epoch, m.gen, bif decide (m.chain.length = 1) then 3 else 2, decL decMember (encMembers l)⟩, r.frozen, ⟨fl, la, decL decEntry lg⟩, decL decSeen se, go, decL decBool sy⟩ : Rep) = _
  rw [decMembers, hsy]
 cases hf : m.fresh with
 | true =>
  rw [cond_true, qI2 h0 (by decide)]
  have e : actR r m = ⟨r.shard, ⟨r.self.node, r.self.boot⟩, ⟨m.shard, m.epoch, m.gen, bif decide (m.chain.length = 1) then 3 else 2, l⟩, r.frozen, tail0 m.epoch, [], vr m.epoch.toNat 0, bs⟩ := by
   unfold actR actT
   rw [hf, hbs, hml]; rfl
  have hd := dR (vr m.epoch.toNat 0) (vr m.epoch.toNat 0) (vr m.epoch.toNat 0) .nils .nils
  rw [e] at hR ⊢
  have hs : SubC (repN r m l (bif decide (m.chain.length = 1) then 3 else 2) (vr m.epoch.toNat 0) (vr m.epoch.toNat 0) .nils .nils (vr m.epoch.toNat 0) sy) (encRep ⟨r.shard, ⟨r.self.node, r.self.boot⟩, ⟨m.shard, m.epoch, m.gen, bif decide (m.chain.length = 1) then 3 else 2, l⟩, r.frozen, tail0 m.epoch, [], vr m.epoch.toNat 0, bs⟩) :=
   subC_all (by repeat' (first | exact trivial | exact nilsL | exact hsb | exact SubV.refl _ | refine ⟨?_, ?_⟩))
  exact ⟨_, agK_eq hd hs hR, .tup (.cons (.agg hs) (.refl _))⟩
 | false =>
  rw [cond_false]
  have e : actR r m = ⟨r.shard, ⟨r.self.node, r.self.boot⟩, ⟨m.shard, m.epoch, m.gen, bif decide (m.chain.length = 1) then 3 else 2, l⟩, r.frozen, r.tail, r.seen, r.tail.last, bs⟩ := by
   unfold actR actT
   rw [hf, hbs, hml]; rfl
  have hd := dR r.tail.floor r.tail.last r.tail.last (encEntrys r.tail.log) (encSeens r.seen)
  rw [decEntrys, decSeens] at hd
  rw [e] at hR ⊢
  have hs : SubC (repN r m l (bif decide (m.chain.length = 1) then 3 else 2) r.tail.floor r.tail.last (encEntrys r.tail.log) (encSeens r.seen) r.tail.last sy) (encRep ⟨r.shard, ⟨r.self.node, r.self.boot⟩, ⟨m.shard, m.epoch, m.gen, bif decide (m.chain.length = 1) then 3 else 2, l⟩, r.frozen, r.tail, r.seen, r.tail.last, bs⟩) :=
   subC_all (by repeat' (first | exact trivial | exact hsb | exact SubV.refl _ | refine ⟨?_, ?_⟩))
  exact ⟨_, agK_eq hd hs hR, .tup (.cons (.agg hs) (.refl _))⟩
theorem h10_con {r : Rep} {m : Msg} (h : HandOk r m) (hk : m.kind = 10) : Contract PG F_chain_Handle [.agg (encRep r), .agg (encMsg m)] [] (oHd (handP r m)) [] := by
 obtain ⟨E, N, hN, hEN, hr, hm⟩ := h.ex
 have hep := hm.ep
 have hep0 := hm.ep0
 have key : ∃ v, callT env30 9 F_chain_Handle [.agg (encRep r), .agg (encMsg m)] = some v /\ SubV v (oHd (handP r m)) := by
  have hgen : ∀ {K : Rep -> Option AV}, callT env30 9 F_chain_Handle [.agg (encRep r), .agg (encMsg m)] = gC dRep1 RepShort eRep1 [.agg (encRep r)] (H10 m K) ->
    (actG r m = true -> ∃ v, K r = some v /\ SubV v (oHd (actR r m, againP (actR r m)))) -> (actG r m = false -> m.epoch <= r.view.epoch \/ K r = nilA r) -> ∃ v, callT env30 9 F_chain_Handle [.agg (encRep r), .agg (encMsg m)] = some v /\ SubV v (oHd (handP r m)) := by
   intro K hK h1 h2
   rw [qRep1 (P := RepShort) (hr.ag hN).short, H10_eq hep0 (by omega)] at hK
   rw [hK]
   unfold handP handK
   rw [hk]
   show ∃ v, _ /\ SubV v (oHd (bif toMe r m then actP r m else (r, [])))
   cases ht : toMe r m with
   | false => exact ⟨_, rfl, out_nil⟩
   | true =>
    simp only [cond_true]
    unfold actP
    cases hg : actG r m with
    | false =>
     rcases h2 hg with h3 | h3
     ·rw [decide_eq_true h3]; exact ⟨_, rfl, out_nil⟩
     ·rw [h3]; cases decide (m.epoch <= r.view.epoch) <;> exact ⟨_, rfl, out_nil⟩
    | true =>
     have ha := (and_true' hg).1
     obtain ⟨a1, _⟩ := above_iff.1 ha
     rw [decide_eq_false (by omega : ¬ m.epoch <= r.view.epoch)]
     exact h1 hg
  have hact : ∀ {l : List Member} {sy : AV} {ph : Int}, m.chain = l -> l ≠ [] -> ph = (bif decide (m.chain.length = 1) then 3 else 2) -> decL decBool sy = true :: List.replicate (l.length - 1) false -> SubV sy (encBools (true :: List.replicate (l.length - 1) false)) ->
    callT env30 9 F_chain_Handle [.agg (encRep r), .agg (encMsg m)] = gC dRep1 RepShort eRep1 [.agg (encRep r)] (H10 m fun y => bif !(chF l y.self) then nilA y else whenK y m (actK y m l ph sy)) -> ∃ v, callT env30 9 F_chain_Handle [.agg (encRep r), .agg (encMsg m)] = some v /\ SubV v (oHd (handP r m)) := by
   intro l sy ph hml hne hph hd hs hK
   have hwn : actG r m = (aboveP r m && (chF l r.self && ((m.fresh && decide (r.frozen <= m.epoch)) || (!decide (r.view.phase = 0) && decide (m.epoch = r.frozen))))) := by
    unfold actG aboveP
    rw [hml, chF_first hne]
    by_cases hq : r.frozen <= m.epoch
    ·rw [decide_eq_true hq, Bool.and_true m.fresh]
    ·rw [decide_eq_false hq]; simp
   refine hgen hK (fun hg => ?_) fun hg => ?_
   ·have hf : isFirst m.chain r.self = true := by unfold actG at hg; exact (and_true' (and_true' hg).2).1
    rw [hwn] at hg
    obtain ⟨_, g2⟩ := and_true' hg
    obtain ⟨g2, g3⟩ := and_true' g2
    have hR := (actR_is hr hm hEN hf).ag hN
    obtain ⟨v, v1, v2⟩ := actK_eq (r := r) (m := m) (l := l) (sy := sy) (bs := true :: List.replicate (l.length - 1) false) (by have := hm.chain.1; rw [hml] at this; unfold shortL LB; omega) hml hep0 hd hs (by rw [hml]) hR
    refine ⟨v, ?_, v2⟩
    simp only [g2, Bool.not_true, cond_false]
    rw [whenK_eq, g3, cond_true, hph]
    exact v1
   ·rw [hwn] at hg
    by_cases he : m.epoch <= r.view.epoch
    ·exact .inl he
    ·right
     show (bif !(chF l r.self) then nilA r else whenK r m (actK r m l ph sy)) = nilA r
     cases hc : chF l r.self with
     | false => rfl
     | true =>
      simp only [Bool.not_true, cond_false]
      rw [whenK_eq]
      cases hw : (m.fresh && decide (r.frozen <= m.epoch)) || (!decide (r.view.phase = 0) && decide (m.epoch = r.frozen)) with
      | false => rfl
      | true =>
       rw [hc, hw] at hg
       unfold aboveP at hg
       rw [decide_eq_true (by omega : r.view.epoch < m.epoch)] at hg
       simp only [Bool.true_and, Bool.and_true] at hg
       have hg := of_decide_eq_false hg
       rw [decide_eq_false hg] at hw
       simp at hw
       omega
  have hme := inAc_eq hk
  have hlen := hm.chain.1
  cases hc : m.chain with
  | nil =>
   have k := h10_0 r m
   rw [<- hc, hme] at k
   refine hgen k (fun hg => ?_) fun _ => .inr rfl
   have hf : isFirst m.chain r.self = true := by unfold actG at hg; exact (and_true' (and_true' hg).2).1
   rw [hc] at hf; cases hf
  | cons a l1 => cases l1 with
   | nil =>
    have k := h10_1 r m a
    rw [<- hc, hme] at k
    rw [hc] at k
    exact hact hc (by simp) (by rw [hc]; rfl) rfl (SubV.trl_of [true] rfl) k
   | cons b l2 => cases l2 with
    | nil =>
     have k := h10_2 r m a b
     rw [<- hc, hme] at k
     rw [hc] at k
     exact hact hc (by simp) (by rw [hc]; rfl) rfl (SubV.trl_of [true, false] rfl) k
    | cons c l3 => cases l3 with
     | nil =>
      have k := h10_3 r m a b c
      rw [<- hc, hme] at k
      rw [hc] at k
      exact hact hc (by simp) (by rw [hc]; rfl) rfl (SubV.trl_of [true, false, false] rfl) k
     | cons d l4 =>
      have : l4 = [] := by
       rw [hc] at hlen
       cases l4 with
       | nil => rfl
       | cons x y => simp at hlen
      subst this
      have k := h10_4 r m a b c d
      rw [<- hc, hme] at k
      rw [hc] at k
      exact hact hc (by simp) (by rw [hc]; rfl) rfl (SubV.trl_of [true, false, false, false] rfl) k
 obtain ⟨v, k1, k2⟩ := key
 exact (con30 k1).res k2
def SIb (l : List Bool) (i : Int) : St := { fr := [(0, encBools l), (1, .bool false), (7, .int .i64 l.length), (8, .int .i64 i)], hp := [] }
theorem ib_in (N : Nat) (l : List Bool) : callT env0 (N + 1) F_slices_Index_bool [encBools l, .bool false] = LP env0 N 0 F_slices_Index_bool snK 0 [] N (SIb l 0) := by kernel_rfl
theorem ib_step (N : Nat) (m : Nat) (l : List Bool) (i : Int) : LP env0 N 0 F_slices_Index_bool snK 0 [] (m + 1) (SIb l i) =
 bif decide (i < (↑l.length : Int)) then
  bif decide (0 <= i) && decide (i < (↑l.length : Int)) then
   bif bif false then l.getD i.toNat false else !l.getD i.toNat false then
    some (AV.int IntKind.i64 i)
   else
    LP (env0) (N) (0) (F_slices_Index_bool) (snK) 0 ([]) (m) (SIb l (IntKind.i64.wrap (i + 1)))
  else none
 else
  some (AV.int IntKind.i64 (-1)) := by kernel_rfl
def ixB : List Bool -> Nat -> Int
 | [], _ => -1
 | b :: r, i => bif b then ixB r (i + 1) else i
theorem ixB_all : ∀ (l : List Bool) (i : Nat), decide (0 <= ixB l i) = !l.all id
 | [], i => rfl
 | true :: r, i => by show decide (0 <= ixB r (i + 1)) = _; rw [ixB_all r (i + 1)]; rfl
 | false :: r, i => by show decide (0 <= (i : Int)) = _; rw [decide_eq_true (by omega)]; rfl
theorem ib_con (l : List Bool) (h : shortL l) : Contract PG F_slices_Index_bool [encBools l, .bool false] [] (.int .i64 (ixB l 0)) [] := by
 unfold shortL LB at h
 have run : ∀ d i m, i + d = l.length -> d < m -> LP env0 (l.length + 1) 0 F_slices_Index_bool snK 0 [] m (SIb l (i : Nat)) = some (.int .i64 (ixB (l.drop i) i)) := by
  intro d
  induction d with
  | zero =>
   intro i m hi hm
   obtain ⟨m, rfl⟩ : ∃ k, m = k + 1 := ⟨m - 1, by omega⟩
   rw [ib_step, dec_nat, decide_eq_false (by omega), cond_false, List.drop_eq_nil_of_le (by omega)]
   rfl
  | succ d ih =>
   intro i m hi hm
   obtain ⟨m, rfl⟩ : ∃ k, m = k + 1 := ⟨m - 1, by omega⟩
   have hil : i < l.length := by omega
   rw [ib_step, dec_nat, decide_eq_true hil, dec_nonneg, drop_cons (z := false) hil]
   simp only [cond_true, Bool.and_true, Int.toNat_natCast]
   rw [wrapS (by omega)]
   have e : ixB (l.getD i false :: l.drop (i + 1)) i = bif l.getD i false then ixB (l.drop (i + 1)) (i + 1) else i := rfl
   rw [e]
   cases l.getD i false with
   | true => exact ih (i + 1) m (by omega) (by omega)
   | false => rfl
 exact con0 ((ib_in (l.length + 1) l).trans (run l.length 0 (l.length + 1) (by omega) (by omega)))
def eBF (l : List Bool) : List AV := [encBools l, .bool false]
def kIndexB : Known := .spec F_slices_Index_bool (dL decBool) shortL eBF (fun l => .int .i64 (ixB l 0))
theorem kIndexB_ok : kIndexB.Ok PG := Known.spec_ok ib_con
def env33a : Env := envL [] (fun f => bif Nat.beq f F_slices_Index_bool then some 0 else none) [kIndexB]
theorem con33a {n f : Nat} {xs : List AV} {r : AV} (e : callT env33a n f xs = some r) : Contract PG f xs [] r [] := conL (ak kIndexB_ok ank) e
theorem contB (l : List Bool) : callT env33a 5 F_slices_Contains_bool [encBools l, AV.bool false] =
 gC (dL decBool) (shortL) (eBF) ([encBools l, AV.bool false]) fun y0 =>
 some (AV.bool (decide (0 <= ixB y0 0))) := by kernel_rfl
theorem cont_con (l : List Bool) (h : shortL l) : Contract PG F_slices_Contains_bool (eBF l) [] (.bool (!l.all id)) [] := by
 have k := contB l
 have q : ∀ K : List Bool -> Option AV, gC (dL decBool) shortL eBF [encBools l, .bool false] K = K l := fun K => gC_eq l (decBools l) h (.refl _)
 rw [q, ixB_all] at k
 exact con33a k
def kCont : Known := .spec F_slices_Contains_bool (dL decBool) shortL eBF (fun l => .bool (!l.all id))
theorem kCont_ok : kCont.Ok PG := Known.spec_ok cont_con
theorem cloneBB (n : Nat) (f : Nat -> List AV) : callH env0 2 F_slices_Clone_bool [AV.tr 1 (n + 1) f] [] =
 bif ((0 + (n + 1)) * 1).ble 140737488355328 && (0 + (n + 1)).ble 140737488355328 then
  some ((AV.sl 1 0 0 (n + 1) 0, [BS.seq true 1 (n + 1) f]))
 else none := by kernel_rfl
def pNb (l : List Bool) : Prop := l.length <= 10000 /\ l ≠ []
theorem cloneBB_con (l : List Bool) (h : pNb l) : Contract PG F_slices_Clone_bool [encBools l] [] (outBlk 1 encBool default l).1 (outBlk 1 encBool default l).2 := by
 obtain ⟨h1, h2⟩ := h
 cases l with
 | nil => exact absurd rfl h2
 | cons a r =>
  have k := cloneBB r.length fun i => encBool ((a :: r).getD i default)
  simp only [List.length_cons] at h1
  simp only [roomV (n := 0 + (r.length + 1)) (b := 1) (by omega) (by omega), cond_true] at k
  exact (callH_ok (envM_ok (md := fun _ => none) (l := []) fun k hk => by cases hk) envM_code mixed k).1
def kCloneBB : Known := .specB F_slices_Clone_bool (dL decBool) pNb eBools (fun l => outBlk 1 encBool default l)
theorem kCloneBB_ok : kCloneBB.Ok PG := Known.specB_ok cloneBB_con
def env33b : Env := envO [kCloneMember, kCloneEntry, kCloneSeen, kCloneBB]
def repB (r : Rep) (sy : AV) : List AV := [.int .i64 r.shard, .int .i64 r.self.node, .int .i64 r.self.boot, .int .i64 r.view.shard, .int .i64 r.view.epoch, .int .i64 r.view.gen, .int .i64 r.view.phase, encMembers r.view.chain, .int .i64 r.frozen, eV r.tail.floor, eV r.tail.last, encEntrys r.tail.log, encSeens r.seen, eV r.got, sy]
theorem ownB_eq (r : Rep) : callH env33b 3 F_chain_own [.agg (encRep r)] [] = gC (dL decMember) shortL eMems [encMembers r.view.chain] fun a => gC (dL decEntry) shortL eEnts [encEntrys r.tail.log] fun b => gC (dL decSeen) shortL eSeens [encSeens r.seen] fun c => gC (dL decBool) pNb eBools [encBools r.synced] fun d =>
  some (.agg (repB { r with view := { r.view with chain := a }, tail := { r.tail with log := b }, seen := c } (.sl 1 0 0 d.length 0)), [.seq true 1 d.length fun i => encBool (d.getD i default)]) := by kernel_rfl
def pOwB (r : Rep) : Prop := RepShort r /\ r.synced.length <= 10000 /\ r.synced ≠ []
def oOwB (r : Rep) : AV × Heap := (.agg (repB r (.sl 1 0 0 r.synced.length 0)), [.seq true 1 r.synced.length fun i => encBool (r.synced.getD i default)])
theorem ownB_con (r : Rep) (h : pOwB r) : Contract PG F_chain_own [.agg (encRep r)] [] (oOwB r).1 (oOwB r).2 := by
 have k := ownB_eq r
 have q : ∀ {R : Type} (K : List Bool -> Option R), gC (dL decBool) pNb eBools [encBools r.synced] K = K r.synced := fun K => gC_eq r.synced (decBools _) h.2 (.refl _)
 rw [qMems h.1.1, qEnts h.1.2.1, qSeens h.1.2.2.1, q] at k
 exact (callH_ok (envM_ok (md := fun _ => none) (ak kCloneMember_ok (ak kCloneEntry_ok (ak kCloneSeen_ok (ak kCloneBB_ok ank))))) envM_code mixed k).1
def kOwnB : Known := .specB F_chain_own dRep1 pOwB eRep1 oOwB
theorem kOwnB_ok : kOwnB.Ok PG := Known.specB_ok ownB_con
def kns33 : List Known := [kOwnB, kIndex, kCont]
def env33 : Env := envL [] (fun f => bif Nat.beq f F_slices_Contains_bool then some 0 else none) kns33
theorem con33 {n f : Nat} {xs : List AV} {r : AV} (e : callT env33 n f xs = some r) : Contract PG f xs [] r [] := conL (ak kOwnB_ok (ak kIndex_ok (ak kCont_ok ank))) e
theorem h12b (r : Rep) (m : Msg) : callT env33 9 F_chain_Handle [AV.agg (encRep r), AV.agg (encMsg (inKd m 12))] =
 gC (dRep1) (pOwB) (eRep1) ([AV.agg (encRep r)]) fun y1 =>
 bif !decide ((inKd m 12).dst = y1.self.node) then
  bif (y1.synced.length.beq 0 || y1.synced.length.ble y1.synced.length) && true && true then
   some (AV.tup [AV.agg (encRep y1), AV.nils])
  else none
 else
  bif !decide ((inKd m 12).boot = y1.self.boot) then
   bif (y1.synced.length.beq 0 || y1.synced.length.ble y1.synced.length) && true && true then
    some (AV.tup [AV.agg (encRep y1), AV.nils])
   else none
  else
   bif !decide ((inKd m 12).shard = y1.shard) then
    bif (y1.synced.length.beq 0 || y1.synced.length.ble y1.synced.length) && true && true then
     some (AV.tup [AV.agg (encRep y1), AV.nils])
    else none
   else
    gC (decLM) (preLM) (encLM) ([encMembers y1.view.chain, AV.agg [AV.int IntKind.i64 m.src, AV.int IntKind.i64 m.sboot]]) fun y2 =>
    bif (y1.synced.length.beq 0 || y1.synced.length.ble y1.synced.length) && true && true then
     bif !decide (y1.view.phase = 0) then
      bif decide (y1.frozen <= y1.view.epoch) then
       bif !decide (y1.view.phase = 2) then
        bif (y1.synced.length.beq 0 || y1.synced.length.ble y1.synced.length) && true && true then
         some (AV.tup [AV.agg (encRep y1), AV.nils])
        else none
       else
        bif !decide ((inKd m 12).epoch = y1.view.epoch) then
         bif (y1.synced.length.beq 0 || y1.synced.length.ble y1.synced.length) && true && true then
          some (AV.tup [AV.agg (encRep y1), AV.nils])
         else none
        else
         bif decide (idx y2.fst y2.snd < 0) then
          bif (y1.synced.length.beq 0 || y1.synced.length.ble y1.synced.length) && true && true then
           some (AV.tup [AV.agg (encRep y1), AV.nils])
          else none
         else
          bif decide ((↑y1.synced.length : Int) <= idx y2.fst y2.snd) then
           bif (y1.synced.length.beq 0 || y1.synced.length.ble y1.synced.length) && true && true then
            some (AV.tup [AV.agg (encRep y1), AV.nils])
           else none
          else
           bif decide (0 <= idx y2.fst y2.snd) && decide (idx y2.fst y2.snd < (↑y1.synced.length : Int)) then
            bif (0 + (idx y2.fst y2.snd).toNat).blt y1.synced.length && true then
             bif (y1.synced.length.beq 0 || y1.synced.length.ble y1.synced.length) && true then
              gC (dL decBool) (shortL) (eBF) ([AV.tr 1 y1.synced.length fun i => bif i.beq (0 + (idx y2.fst y2.snd).toNat) then [AV.bool true] else [AV.bool (y1.synced.getD i false)], AV.bool false]) fun y3 =>
              bif !!y3.all id then
               bif (y1.synced.length.beq 0 || y1.synced.length.ble y1.synced.length) && true && true then
                some (AV.tup [AV.agg [AV.int IntKind.i64 y1.shard, AV.int IntKind.i64 y1.self.node, AV.int IntKind.i64 y1.self.boot, AV.int IntKind.i64 y1.view.shard, AV.int IntKind.i64 y1.view.epoch, AV.int IntKind.i64 y1.view.gen, AV.int IntKind.i64 3, encMembers y1.view.chain, AV.int IntKind.i64 y1.frozen, AV.cplx FloatKind.f64 y1.tail.floor.re y1.tail.floor.im, AV.cplx FloatKind.f64 y1.tail.last.re y1.tail.last.im, encEntrys y1.tail.log, encSeens y1.seen, AV.cplx FloatKind.f64 y1.tail.last.re y1.tail.last.im, AV.tr 1 y1.synced.length fun i => bif i.beq (0 + (idx y2.fst y2.snd).toNat) then [AV.bool true] else [AV.bool (y1.synced.getD i false)]], AV.nils])
               else none
              else
               bif (y1.synced.length.beq 0 || y1.synced.length.ble y1.synced.length) && true && true then
                some (AV.tup [AV.agg [AV.int IntKind.i64 y1.shard, AV.int IntKind.i64 y1.self.node, AV.int IntKind.i64 y1.self.boot, AV.int IntKind.i64 y1.view.shard, AV.int IntKind.i64 y1.view.epoch, AV.int IntKind.i64 y1.view.gen, AV.int IntKind.i64 y1.view.phase, encMembers y1.view.chain, AV.int IntKind.i64 y1.frozen, AV.cplx FloatKind.f64 y1.tail.floor.re y1.tail.floor.im, AV.cplx FloatKind.f64 y1.tail.last.re y1.tail.last.im, encEntrys y1.tail.log, encSeens y1.seen, AV.cplx FloatKind.f64 y1.got.re y1.got.im, AV.tr 1 y1.synced.length fun i => bif i.beq (0 + (idx y2.fst y2.snd).toNat) then [AV.bool true] else [AV.bool (y1.synced.getD i false)]], AV.nils])
               else none
             else none
            else none
           else none
      else
       bif (y1.synced.length.beq 0 || y1.synced.length.ble y1.synced.length) && true && true then
        some (AV.tup [AV.agg (encRep y1), AV.nils])
       else none
     else
      bif (y1.synced.length.beq 0 || y1.synced.length.ble y1.synced.length) && true && true then
       some (AV.tup [AV.agg (encRep y1), AV.nils])
      else none
    else none := by kernel_rfl
theorem h12 (r : Rep) (m : Msg) : callT env30 9 F_chain_Handle [AV.agg (encRep r), AV.agg (encMsg (inKd m 12))] =
 gC (dRep1) (RepShort) (eRep1) ([AV.agg (encRep r)]) fun y4 =>
 bif !decide ((inKd m 12).dst = y4.self.node) then
  some (AV.tup [AV.agg (encRep y4), AV.nils])
 else
  bif !decide ((inKd m 12).boot = y4.self.boot) then
   some (AV.tup [AV.agg (encRep y4), AV.nils])
  else
   bif !decide ((inKd m 12).shard = y4.shard) then
    some (AV.tup [AV.agg (encRep y4), AV.nils])
   else
    gC (decLM) (preLM) (encLM) ([encMembers y4.view.chain, AV.agg [AV.int IntKind.i64 m.src, AV.int IntKind.i64 m.sboot]]) fun y5 =>
    bif !decide (y4.view.phase = 0) then
     bif decide (y4.frozen <= y4.view.epoch) then
      bif !decide (y4.view.phase = 2) then
       some (AV.tup [AV.agg (encRep y4), AV.nils])
      else
       bif !decide ((inKd m 12).epoch = y4.view.epoch) then
        some (AV.tup [AV.agg (encRep y4), AV.nils])
       else
        bif decide (idx y5.fst y5.snd < 0) then
         some (AV.tup [AV.agg (encRep y4), AV.nils])
        else
         bif decide ((↑y4.synced.length : Int) <= idx y5.fst y5.snd) then
          some (AV.tup [AV.agg (encRep y4), AV.nils])
         else
          bif decide (0 <= idx y5.fst y5.snd) && decide (idx y5.fst y5.snd < (↑y4.synced.length : Int)) then none
          else none
     else
      some (AV.tup [AV.agg (encRep y4), AV.nils])
    else
     some (AV.tup [AV.agg (encRep y4), AV.nils]) := by kernel_rfl
def setT (l : List Bool) (k : Nat) : AV := .tr 1 l.length fun i => bif Nat.beq i k then [.bool true] else [.bool (l.getD i false)]
theorem set_at (l : List Bool) (k i : Nat) (h : i < l.length) : (l.set k true).getD i false = bif Nat.beq i k then true else l.getD i false := by
 by_cases e : i = k
 ·subst e
  rw [beq_true rfl, cond_true]
  simp [List.getD, h]
 ·rw [beq_false e, cond_false]
  unfold List.getD
  rw [List.getElem?_set_ne (fun x => e x.symm)]
theorem setT_sub (l : List Bool) (k : Nat) : SubV (setT l k) (encBools (l.set k true)) := by
 unfold setT encBools encL
 rw [List.length_set]
 refine SubV.trs fun i hi => ?_
 have := set_at l k i hi
 show SubC _ [.bool ((l.set k true).getD i false)]
 rw [this]
 cases Nat.beq i k <;> exact .refl _
theorem setT_dec (l : List Bool) (k : Nat) : decL decBool (setT l k) = l.set k true := by
 show (List.range l.length).map (fun i => decBool (bif Nat.beq i k then [.bool true] else [.bool (l.getD i false)])) = _
 refine List.ext_getElem (by simp) fun i h1 h2 => ?_
 simp only [List.getElem_map, List.getElem_range]
 have hi : i < l.length := by simpa using h2
 have := set_at l k i hi
 have e2 : (l.set k true).getD i false = (l.set k true)[i] := by simp [List.getD, List.getElem?_eq_getElem h2]
 rw [<- e2, this]
 cases Nat.beq i k <;> rfl
theorem h12_con {r : Rep} {m : Msg} (h : HandOk r m) (hk : m.kind = 12) : Contract PG F_chain_Handle [.agg (encRep r), .agg (encMsg m)] [] (oHd (handP r m)) [] := by
 obtain ⟨E, N, hN, hEN, hr, hm⟩ := h.ex
 have hag := hr.ag hN
 have hch := hag.short.1
 have qw : ∀ K : LM -> Option AV, gC decLM preLM encLM [encMembers r.view.chain, .agg [.int .i64 m.src, .int .i64 m.sboot]] K = K (r.view.chain, who m) := fun K => qLM (m := who m) hch
 have hP : handP r m = bif toMe r m then indP r m else (r, []) := by unfold handP handK; rw [hk]; rfl
 rw [hP]
 by_cases h2 : r.view.phase = 2
 ·obtain ⟨s1, s2⟩ := hr.sync h2
  have hsl := hr.synl
  have hne : r.synced ≠ [] := fun e => by
   obtain ⟨x, hx⟩ := isFirst_cons s1
   rw [e, hx] at s2; simp at s2
  have k := h12b r m
  rw [inKd_eq hk, qRep1 (P := pOwB) ⟨hag.short, by omega, hne⟩] at k
  simp only [orU, Bool.and_true, cond_true] at k
  rw [gate, qw] at k
  have e1 : (decide (m.dst = r.self.node) && (decide (m.boot = r.self.boot) && decide (m.shard = r.shard))) = toMe r m := rfl
  rw [e1] at k
  cases ht : toMe r m with
  | false => rw [ht] at k; exact (con33 k).res out_nil
  | true =>
   rw [ht] at k
   simp only [cond_true] at k ⊢
   have hnz : decide (r.view.phase = 0) = false := decide_eq_false (by omega)
   have hnt : decide (r.view.phase = 2) = true := decide_eq_true h2
   rw [hnz, hnt] at k
   simp only [Bool.not_false, Bool.not_true, cond_true, cond_false] at k
   have hix := idx_le r.view.chain (who m)
   unfold indP syncsP liveP
   rw [hnz, hnt]
   simp only [Bool.not_false, Bool.true_and, Bool.and_true]
   cases hlv : decide (r.frozen <= r.view.epoch) with
   | false => rw [hlv] at k; exact (con33 k).res out_nil
   | true =>
    rw [hlv] at k
    simp only [cond_true, Bool.true_and] at k ⊢
    cases hep : decide (m.epoch = r.view.epoch) with
    | false => rw [hep] at k; exact (con33 k).res out_nil
    | true =>
     rw [hep] at k
     simp only [Bool.not_true, cond_false, Bool.true_and] at k ⊢
     by_cases hi : 0 <= idx r.view.chain (who m)
     ·have a1 : decide (idx r.view.chain (who m) < 0) = false := decide_eq_false (by omega)
      have a2 : decide ((r.synced.length : Int) <= idx r.view.chain (who m)) = false := decide_eq_false (by omega)
      have a3 : decide (idx r.view.chain (who m) < (r.synced.length : Int)) = true := decide_eq_true (by omega)
      have a4 : Nat.blt (0 + (idx r.view.chain (who m)).toNat) r.synced.length = true := blt_true (by omega)
      have a0 : decide (0 <= idx r.view.chain (who m)) = true := decide_eq_true hi
      change _ = bif decide (idx r.view.chain (who m) < 0) then _ else _ at k
      rw [a1, cond_false] at k
      change _ = bif decide ((r.synced.length : Int) <= idx r.view.chain (who m)) then _ else _ at k
      rw [a2, cond_false] at k
      change _ = bif decide (0 <= idx r.view.chain (who m)) && decide (idx r.view.chain (who m) < (r.synced.length : Int)) then _ else _ at k
      rw [a0, a3] at k
      simp only [Bool.and_true, cond_true] at k
      change _ = bif Nat.blt (0 + (idx r.view.chain (who m)).toNat) r.synced.length then _ else _ at k
      rw [a4, cond_true] at k
      rw [a0, cond_true]
      simp only [Nat.zero_add] at k
      have q : ∀ K : List Bool -> Option AV, gC (dL decBool) shortL eBF [setT r.synced (idx r.view.chain (who m)).toNat, .bool false] K = K (indS r m) := fun K =>
       gC_eq (indS r m) (setT_dec _ _) (by unfold indS shortL LB; rw [List.length_set]; omega) (.cons (setT_sub _ _) (.refl _))
      have k : callT env33 9 F_chain_Handle [.agg (encRep r), .agg (encMsg m)] = gC (dL decBool) shortL eBF [setT r.synced (idx r.view.chain (who m)).toNat, .bool false] fun y3 => bif !!y3.all id then
        some (.tup [.agg (repB { r with view := { r.view with phase := 3 }, got := r.tail.last } (setT r.synced (idx r.view.chain (who m)).toNat)), .nils])
       else some (.tup [.agg (repB r (setT r.synced (idx r.view.chain (who m)).toNat)), .nils]) := k
      rw [q, Bool.not_not] at k
      have hs : SubV (setT r.synced (idx r.view.chain (who m)).toNat) (encBools (indS r m)) := setT_sub _ _
      unfold indR
      cases hall : (indS r m).all id with
      | true =>
       rw [hall] at k
       refine (con33 k).res (.tup (.cons (.agg ?_) (.cons nilsL .nil)))
       exact subC_all (by repeat' (first | exact trivial | exact hs | exact SubV.refl _ | refine ⟨?_, ?_⟩))
      | false =>
       rw [hall] at k
       refine (con33 k).res (.tup (.cons (.agg ?_) (.cons nilsL .nil)))
       exact subC_all (by repeat' (first | exact trivial | exact hs | exact SubV.refl _ | refine ⟨?_, ?_⟩))
     ·have a1 : decide (idx r.view.chain (who m) < 0) = true := decide_eq_true (by omega)
      change _ = bif decide (idx r.view.chain (who m) < 0) then _ else _ at k
      rw [a1, cond_true] at k
      rw [decide_eq_false hi]
      exact (con33 k).res out_nil
 ·have k := h12 r m
  rw [inKd_eq hk, qRep1 (P := RepShort) hag.short, gate, qw] at k
  have e1 : (decide (m.dst = r.self.node) && (decide (m.boot = r.self.boot) && decide (m.shard = r.shard))) = toMe r m := rfl
  rw [e1, decide_eq_false h2] at k
  have hi : indP r m = (r, []) := by
   unfold indP syncsP
   rw [decide_eq_false h2, Bool.and_false, Bool.false_and]; rfl
  rw [hi]
  cases ht : toMe r m with
  | false => rw [ht] at k; exact (con30 k).res out_nil
  | true =>
   rw [ht] at k
   simp only [cond_true, Bool.not_false] at k ⊢
   cases hz : decide (r.view.phase = 0) with
   | true => rw [hz] at k; exact (con30 k).res out_nil
   | false =>
    rw [hz] at k
    cases hf : decide (r.frozen <= r.view.epoch) with
    | true => rw [hf] at k; exact (con30 k).res out_nil
    | false => rw [hf] at k; exact (con30 k).res out_nil
def Kinds (m : Msg) : Prop := m.kind = 8 \/ m.kind = 10 \/ m.kind = 11 \/ m.kind = 12 \/ m.kind = 13 \/ m.kind = 14
def dRMs (a : List AV) : Rep × Msg := (decRep (argC a 0), decMsg (argC a 1))
def pRMs (p : Rep × Msg) : Prop := HandOk p.1 p.2 /\ Kinds p.2
def eRMs (p : Rep × Msg) : List AV := [.agg (encRep p.1), .agg (encMsg p.2)]
def oRMs (p : Rep × Msg) : AV := oHd (handP p.1 p.2)
theorem qRMs {R : Type} {r : Rep} {m : Msg} {k : Rep × Msg -> Option R} (h : HandOk r m) (h' : Kinds m) : gC dRMs pRMs eRMs [.agg (encRep r), .agg (encMsg m)] k = k (r, m) := gC_eq (r, m) (Prod.ext (dec_encRep r) (dec_encMsg m)) ⟨h, h'⟩ (.refl _)
theorem handle_con (p : Rep × Msg) (h : pRMs p) : Contract PG F_chain_Handle (eRMs p) [] (oRMs p) [] := by
 obtain ⟨h1, h2⟩ := h
 rcases h2 with k | k | k | k | k | k
 ·exact h8_con h1 k
 ·exact h10_con h1 k
 ·exact h11_con h1 k
 ·exact h12_con h1 k
 ·exact h13_con h1 k
 ·exact h14_con h1 k
def kHandle : Known := .spec F_chain_Handle dRMs pRMs eRMs oRMs
theorem kHandle_ok : kHandle.Ok PG := Known.spec_ok handle_con
structure Grow1 {X : Type} (sz bw b : Nat) (e : X -> List AV) (n : Nat) (pick : Nat -> Option X) (L : Nat -> AV -> Heap -> Int -> Option AV) : Prop where
 e0 : ∀ j, L (j + 1) .nils [] (n : Int) = some .nils
 e1 : ∀ j f, L (j + 1) (.sl sz b 0 1 1) [.seq true sz 1 f] (n : Int) = some (.tr sz 1 fun i => f i)
 en : ∀ j m f, L (j + 1) (.sl sz b 0 m 0) [.seq true sz m f] (n : Int) = bif m.beq 0 || m.ble m then some (.tr sz m fun i => f i) else none
 s0 : ∀ j (i : Nat), i < n -> L (j + 1) .nils [] (i : Int) = match pick i with
  | some x => L j (.sl sz b 0 1 1) [.seq true sz 1 fun k => [e x].getD k (e x)] ((i + 1 : Nat) : Int)
  | none => L j .nils [] ((i + 1 : Nat) : Int)
 s1 : ∀ j (i : Nat) f, i < n -> L (j + 1) (.sl sz b 0 1 1) [.seq true sz 1 f] (i : Int) = match pick i with
  | some x => L j (.sl sz b 0 2 0) [.seq true sz 2 fun k => bif k.blt 1 then f k else bif k.blt 2 then [e x].getD (k - 1) [] else f 1] ((i + 1 : Nat) : Int)
  | none => L j (.sl sz b 0 1 1) [.seq true sz 1 f] ((i + 1 : Nat) : Int)
 sn : ∀ j (i : Nat) m f, i < n -> L (j + 1) (.sl sz b 0 m 0) [.seq true sz m f] (i : Int) = match pick i with
  | some x => room1 m bw (L j (.sl sz b 0 (m + 1) 0) [.seq true sz (m + 1) fun k => bif k.blt m then f k else bif k.blt (m + 1) then [e x].getD (k - m) [] else f m] ((i + 1 : Nat) : Int))
  | none => L j (.sl sz b 0 m 0) [.seq true sz m f] ((i + 1 : Nat) : Int)
def pickL {X : Type} (pick : Nat -> Option X) (n i : Nat) : List X := ((List.range n).drop i).filterMap pick
theorem pickL_end {X : Type} {pick : Nat -> Option X} {n : Nat} : pickL pick n n = [] := by
 unfold pickL; rw [List.drop_eq_nil_of_le (by simp)]; rfl
theorem pickL_some {X : Type} {pick : Nat -> Option X} {n i : Nat} {x : X} (hi : i < n) (h : pick i = some x) : pickL pick n i = x :: pickL pick n (i + 1) := by
 unfold pickL
 have hl : i < (List.range n).length := by simpa using hi
 rw [List.drop_eq_getElem_cons hl, List.getElem_range, List.filterMap_cons, h]
theorem pickL_none {X : Type} {pick : Nat -> Option X} {n i : Nat} (hi : i < n) (h : pick i = none) : pickL pick n i = pickL pick n (i + 1) := by
 unfold pickL
 have hl : i < (List.range n).length := by simpa using hi
 rw [List.drop_eq_getElem_cons hl, List.getElem_range, List.filterMap_cons, h]
theorem Grow1.run {X : Type} {sz bw b : Nat} {e : X -> List AV} {z : X} {n : Nat} {pick : Nat -> Option X} {L : Nat -> AV -> Heap -> Int -> Option AV} (h : Grow1 sz bw b e n pick L) (hw : bw <= 1000) (hn : n <= 100000) :
  ∀ (d i m : Nat) (acc : List X), i + d = n -> d < m -> acc.length <= i -> L m (gSl sz b acc) (gBl sz e z acc) (i : Int) = some (gTr sz e z (acc ++ pickL pick n i)) := by
 intro d
 induction d with
 | zero =>
  intro i m acc hi hm ha
  obtain ⟨m, rfl⟩ : ∃ k, m = k + 1 := ⟨m - 1, by omega⟩
  have : i = n := by omega
  subst this
  rw [pickL_end, List.append_nil]
  match acc with
  | [] => exact h.e0 m
  | [x] => exact h.e1 m _
  | x :: y :: r =>
   have := h.en m (x :: y :: r).length (canF e z (x :: y :: r))
   rw [orU, cond_true] at this
   exact this
 | succ d ih =>
  intro i m acc hi hm ha
  obtain ⟨m, rfl⟩ : ∃ k, m = k + 1 := ⟨m - 1, by omega⟩
  have hin : i < n := by omega
  match acc, ha with
  | [], ha =>
   show L (m + 1) .nils [] (i : Int) = _
   rw [h.s0 m i hin]
   cases hp : pick i with
   | none => rw [pickL_none hin hp]; exact ih (i + 1) m [] (by omega) (by omega) (by simp)
   | some x =>
    rw [pickL_some hin hp]
    simp only []
    rw [canF_oneS (e := e) (z := z) x]
    exact ih (i + 1) m [x] (by omega) (by omega) (by simp)
  | [y], ha =>
   show L (m + 1) (.sl sz b 0 1 1) [.seq true sz 1 (canF e z [y])] (i : Int) = _
   rw [h.s1 m i _ hin]
   cases hp : pick i with
   | none => rw [pickL_none hin hp]; exact ih (i + 1) m [y] (by omega) (by omega) (by simp)
   | some x =>
    rw [pickL_some hin hp]
    simp only []
    rw [canF_app1 (e := e) (z := z) y x]
    exact ih (i + 1) m [y, x] (by omega) (by omega) (by simp at ha ⊢; omega)
  | y :: y' :: r, ha =>
   show L (m + 1) (.sl sz b 0 (y :: y' :: r).length 0) [.seq true sz (y :: y' :: r).length (canF e z (y :: y' :: r))] (i : Int) = _
   rw [h.sn m i _ _ hin]
   cases hp : pick i with
   | none => rw [pickL_none hin hp]; exact ih (i + 1) m (y :: y' :: r) (by omega) (by omega) (by omega)
   | some x =>
    rw [pickL_some hin hp]
    simp only []
    rw [room1_eq hw (by omega), canF_app (e := e) (z := z) (l := y :: y' :: r) (by simp) x]
    have r0 := ih (i + 1) m ((y :: y' :: r) ++ [x]) (by omega) (by omega) (by rw [List.length_append]; simp at ha ⊢; omega)
    rw [gSl_app (by simp), gBl_app (by simp), List.append_assoc] at r0
    exact r0
theorem Grow1.run0 {X : Type} {sz bw b : Nat} {e : X -> List AV} {z : X} {n : Nat} {pick : Nat -> Option X} {L : Nat -> AV -> Heap -> Int -> Option AV} (h : Grow1 sz bw b e n pick L) (hw : bw <= 1000) (hn : n <= 100000) {m : Nat} (hm : n < m) :
  L m .nils [] ((0 : Nat) : Int) = some (gTr sz e z (pickL pick n 0)) := by
 have := h.run (z := z) hw hn n 0 m [] (by omega) hm (by simp)
 rwa [List.nil_append] at this
theorem pickL_list {X Y : Type} {l : List Y} {z : Y} {g : Y -> Option X} : pickL (fun i => g (l.getD i z)) l.length 0 = l.filterMap g := by
 unfold pickL
 rw [List.drop_zero]
 have : ∀ k, k <= l.length -> ((List.range k).filterMap fun i => g (l.getD i z)) = (l.take k).filterMap g := by
  intro k
  induction k with
  | zero => intro _; simp
  | succ k ih =>
   intro hk
   rw [List.range_succ, List.filterMap_append, ih (by omega), List.take_add_one, List.filterMap_append]
   congr 1
   have hk' : k < l.length := by omega
   have e : l.getD k z = l[k] := by simp [List.getD, List.getElem?_eq_getElem hk']
   have e2 : l[k]?.toList = [l[k]] := by simp [List.getElem?_eq_getElem hk']
   rw [e2]
   show List.filterMap (fun i => g (l.getD i z)) [k] = List.filterMap g [l[k]]
   simp only [List.filterMap_cons, List.filterMap_nil, e]
 have h := this l.length (Nat.le_refl _)
 rwa [List.take_length] at h
structure CConf where
 chain : Int
 susp : Int
 sess : Int
def encCf (c : CConf) : List AV := [.int .i64 3, .int .i64 c.chain, .int .i64 1, .int .i64 0, .int .i64 0, .int .i64 0, .int .i64 0, .int .i64 0, .int .i64 0, .int .i64 0, .int .i64 0, .int .i64 c.sess, .int .i64 c.susp, .int .i64 0, .int .i64 0]
def lvCo : List (Nat × Nat × List Nat) := [(F_coord_Up, 0, [3, 5, 9, 10, 11, 1001]), (F_place_Both, 0, [1, 5, 8, 9, 10, 1000]), (F_place_turn, 0, [0, 1, 5, 9, 10, 1000])]
def mdCo (_ : Nat) : Option Nat := none
def envCo (l : List Known) : Env := envL lvCo mdCo l
theorem conCo {l : List Known} (h : ∀ k ∈ l, k.Ok PG) {n f : Nat} {xs : List AV} {r : AV} (e : callT (envCo l) n f xs = some r) : Contract PG f xs [] r [] := callT_ok (envL_ok h) envL_code mixed e
def upP (ns : List Alive) (s : Int) : List Member := ns.filterMap fun a => bif decide (a.missed <= s) then some a.member else none
def SUp (V : AV) (h : Heap) (c : CConf) (ns : List Alive) (i : Int) : St := { fr := [(3, .ptr 0 0 0), (5, V), (9, encAlives ns), (10, .int .i64 ns.length), (11, .int .i64 i), (1001, .undef)], hp := .arr true 15 [encCf c] :: h }
def LUp (N : Nat) (c : CConf) (ns : List Alive) (j : Nat) (V : AV) (h : Heap) (i : Int) : Option AV := LP (envCo []) N 0 F_coord_Up snK 0 [] j (SUp V h c ns i)
theorem up_in (N : Nat) (b : Bureau) (c : CConf) : callT (envCo []) (N + 1) F_coord_Up [.agg (encBureau b), .agg (encCf c)] = LUp N c b.nodes N .nils [] 0 := by kernel_rfl
theorem up_0 (N j : Nat) (c : CConf) (ns : List Alive) (i : Int) : LUp N c ns (j + 1) .nils [] i =
 bif decide (i < (ns.length : Int)) then rg i ns.length <| bif decide ((ns.getD i.toNat default).missed <= c.susp) then LUp N c ns j (.sl 2 1 0 1 1) [.seq true 2 1 fun k => [encMember (ns.getD i.toNat default).member].getD k (encMember (ns.getD i.toNat default).member)] (IntKind.i64.wrap (i + 1))
  else LUp N c ns j .nils [] (IntKind.i64.wrap (i + 1)) else some .nils := by kernel_rfl
theorem up_1 (N j : Nat) (c : CConf) (ns : List Alive) (i : Int) (f : Nat -> List AV) : LUp N c ns (j + 1) (.sl 2 1 0 1 1) [.seq true 2 1 f] i =
 bif decide (i < (ns.length : Int)) then rg i ns.length <| bif decide ((ns.getD i.toNat default).missed <= c.susp) then LUp N c ns j (.sl 2 1 0 2 0) [.seq true 2 2 fun k => bif k.blt 1 then f k else bif k.blt 2 then [encMember (ns.getD i.toNat default).member].getD (k - 1) [] else f 1] (IntKind.i64.wrap (i + 1))
  else LUp N c ns j (.sl 2 1 0 1 1) [.seq true 2 1 f] (IntKind.i64.wrap (i + 1)) else some (.tr 2 1 fun i => f i) := by kernel_rfl
theorem up_n (N j : Nat) (c : CConf) (ns : List Alive) (i : Int) (n : Nat) (f : Nat -> List AV) : LUp N c ns (j + 1) (.sl 2 1 0 n 0) [.seq true 2 n f] i =
 bif decide (i < (ns.length : Int)) then rg i ns.length <| bif decide ((ns.getD i.toNat default).missed <= c.susp) then room1 n 16 (LUp N c ns j (.sl 2 1 0 (n + 1) 0) [.seq true 2 (n + 1) fun k => bif k.blt n then f k else bif k.blt (n + 1) then [encMember (ns.getD i.toNat default).member].getD (k - n) [] else f n] (IntKind.i64.wrap (i + 1)))
  else LUp N c ns j (.sl 2 1 0 n 0) [.seq true 2 n f] (IntKind.i64.wrap (i + 1)) else bif n.beq 0 || n.ble n then some (.tr 2 n fun i => f i) else none := by kernel_rfl
theorem up_grow (N : Nat) (c : CConf) (ns : List Alive) (hn : ns.length <= 100000) : Grow1 2 16 1 encMember ns.length (fun i => (fun a : Alive => bif decide (a.missed <= c.susp) then some a.member else none) (ns.getD i default)) (LUp N c ns) where
 e0 j := by rw [up_0, decide_eq_false (by omega), cond_false]
 e1 j f := by rw [up_1, decide_eq_false (by omega), cond_false]
 en j m f := by rw [up_n, decide_eq_false (by omega), cond_false]
 s0 j i hi := by
  rw [up_0, decide_eq_true (by omega), cond_true, rg_eq hi, Int.toNat_natCast, wrapS (by omega)]
  dsimp only
  cases decide ((ns.getD i default).missed <= c.susp) <;> rfl
 s1 j i f hi := by
  rw [up_1, decide_eq_true (by omega), cond_true, rg_eq hi, Int.toNat_natCast, wrapS (by omega)]
  dsimp only
  cases decide ((ns.getD i default).missed <= c.susp) <;> rfl
 sn j i m f hi := by
  rw [up_n, decide_eq_true (by omega), cond_true, rg_eq hi, Int.toNat_natCast, wrapS (by omega)]
  dsimp only
  cases decide ((ns.getD i default).missed <= c.susp) <;> rfl
abbrev BC := Bureau × CConf
theorem up_con (p : BC) (h : p.1.nodes.length <= 100000) : Contract PG F_coord_Up [.agg (encBureau p.1), .agg (encCf p.2)] [] (encMembers (upP p.1.nodes p.2.susp)) [] := by
 obtain ⟨b, c⟩ := p
 have hN : ∃ N, N = 200000 := ⟨_, rfl⟩
 obtain ⟨N, hN⟩ := hN
 have r := (up_grow N c b.nodes h).run0 (z := default) (by omega) h (m := N) (by simp only at h ⊢; omega)
 rw [pickL_list (l := b.nodes) (z := default) (g := fun a : Alive => bif decide (a.missed <= c.susp) then some a.member else none)] at r
 exact (conCo ank (n := N + 1) ((up_in N b c).trans r)).res (gTr_sub _)
def dBC (a : List AV) : BC := (decBureau (argC a 0), ⟨getI (argC a 1) 1, getI (argC a 1) 12, getI (argC a 1) 11⟩)
def eBC (p : BC) : List AV := [.agg (encBureau p.1), .agg (encCf p.2)]
def pBC (p : BC) : Prop := p.1.nodes.length <= 100000
theorem dBC_eq (p : BC) : dBC (eBC p) = p := by
 show (decBureau (encBureau p.1), (⟨p.2.chain, p.2.susp, p.2.sess⟩ : CConf)) = p
 rw [dec_encBureau]
def kUp : Known := .spec F_coord_Up dBC pBC eBC (fun p => encMembers (upP p.1.nodes p.2.susp))
theorem kUp_ok : kUp.Ok PG := Known.spec_ok up_con
def inUp (up : List Member) (m : Member) : Bool := decide (0 <= idx up m)
def bothP (l up : List Member) : List Member := l.filterMap fun m => bif inUp up m then some m else none
def SBo (V : AV) (h : Heap) (up l : List Member) (i : Int) : St := { fr := [(1, encMembers up), (5, V), (8, encMembers l), (9, .int .i64 l.length), (10, .int .i64 i), (1000, .undef)], hp := h }
def LBo (N : Nat) (up l : List Member) (j : Nat) (V : AV) (h : Heap) (i : Int) : Option AV := LP (envCo [kIndex]) N 0 F_place_Both snK 0 [] j (SBo V h up l i)
def gIx {R : Type} (l : List Member) (m : Member) (k : List Member × Member -> Option R) : Option R := gC decLM preLM encLM [encMembers l, .agg (encMember m)] k
theorem bo_in (N : Nat) (up l : List Member) : callT (envCo [kIndex]) (N + 1) F_place_Both [encMembers l, encMembers up] = LBo N up l N .nils [] 0 := by kernel_rfl
theorem bo_0 (N j : Nat) (up l : List Member) (i : Int) : LBo N up l (j + 1) .nils [] i =
 bif decide (i < (l.length : Int)) then rg i l.length <| gIx up (l.getD i.toNat default) fun y => bif inUp y.1 y.2 then LBo N up l j (.sl 2 0 0 1 1) [.seq true 2 1 fun k => [encMember (l.getD i.toNat default)].getD k (encMember (l.getD i.toNat default))] (IntKind.i64.wrap (i + 1))
  else LBo N up l j .nils [] (IntKind.i64.wrap (i + 1)) else some .nils := by kernel_rfl
theorem bo_1 (N j : Nat) (up l : List Member) (i : Int) (f : Nat -> List AV) : LBo N up l (j + 1) (.sl 2 0 0 1 1) [.seq true 2 1 f] i =
 bif decide (i < (l.length : Int)) then rg i l.length <| gIx up (l.getD i.toNat default) fun y => bif inUp y.1 y.2 then LBo N up l j (.sl 2 0 0 2 0) [.seq true 2 2 fun k => bif k.blt 1 then f k else bif k.blt 2 then [encMember (l.getD i.toNat default)].getD (k - 1) [] else f 1] (IntKind.i64.wrap (i + 1))
  else LBo N up l j (.sl 2 0 0 1 1) [.seq true 2 1 f] (IntKind.i64.wrap (i + 1)) else some (.tr 2 1 fun i => f i) := by kernel_rfl
theorem bo_n (N j : Nat) (up l : List Member) (i : Int) (n : Nat) (f : Nat -> List AV) : LBo N up l (j + 1) (.sl 2 0 0 n 0) [.seq true 2 n f] i =
 bif decide (i < (l.length : Int)) then rg i l.length <| gIx up (l.getD i.toNat default) fun y => bif inUp y.1 y.2 then room1 n 16 (LBo N up l j (.sl 2 0 0 (n + 1) 0) [.seq true 2 (n + 1) fun k => bif k.blt n then f k else bif k.blt (n + 1) then [encMember (l.getD i.toNat default)].getD (k - n) [] else f n] (IntKind.i64.wrap (i + 1)))
  else LBo N up l j (.sl 2 0 0 n 0) [.seq true 2 n f] (IntKind.i64.wrap (i + 1)) else bif n.beq 0 || n.ble n then some (.tr 2 n fun i => f i) else none := by kernel_rfl
theorem bo_grow (N : Nat) (up l : List Member) (hu : up.length <= LB) (hn : l.length <= 100000) : Grow1 2 16 0 encMember l.length (fun i => (fun m : Member => bif inUp up m then some m else none) (l.getD i default)) (LBo N up l) where
 e0 j := by rw [bo_0, decide_eq_false (by omega), cond_false]
 e1 j f := by rw [bo_1, decide_eq_false (by omega), cond_false]
 en j m f := by rw [bo_n, decide_eq_false (by omega), cond_false]
 s0 j i hi := by
  rw [bo_0, decide_eq_true (by omega), cond_true, rg_eq hi, Int.toNat_natCast, wrapS (by omega)]
  unfold gIx
  rw [qLM hu]
  dsimp only
  cases inUp up (l.getD i default) <;> rfl
 s1 j i f hi := by
  rw [bo_1, decide_eq_true (by omega), cond_true, rg_eq hi, Int.toNat_natCast, wrapS (by omega)]
  unfold gIx
  rw [qLM hu]
  dsimp only
  cases inUp up (l.getD i default) <;> rfl
 sn j i m f hi := by
  rw [bo_n, decide_eq_true (by omega), cond_true, rg_eq hi, Int.toNat_natCast, wrapS (by omega)]
  unfold gIx
  rw [qLM hu]
  dsimp only
  cases inUp up (l.getD i default) <;> rfl
abbrev MM := List Member × List Member
def dMM (a : List AV) : MM := (decL decMember (a.getD 0 .nils), decL decMember (a.getD 1 .nils))
def eMM2 (p : MM) : List AV := [encMembers p.1, encMembers p.2]
def pMM (p : MM) : Prop := p.1.length <= 100000 /\ p.2.length <= 100000
theorem both_con (p : MM) (h : pMM p) : Contract PG F_place_Both (eMM2 p) [] (encMembers (bothP p.1 p.2)) [] := by
 obtain ⟨l, up⟩ := p
 obtain ⟨h1, h2⟩ := h
 have hN : ∃ N, N = 200000 := ⟨_, rfl⟩
 obtain ⟨N, hN⟩ := hN
 have hup : up.length <= LB := by unfold LB; simp only at h2; omega
 have r := (bo_grow N up l hup h1).run0 (z := default) (by omega) h1 (m := N) (by simp only at h1 ⊢; omega)
 rw [pickL_list (l := l) (z := default) (g := fun m : Member => bif inUp up m then some m else none)] at r
 exact (conCo (ak kIndex_ok ank) (n := N + 1) ((bo_in N up l).trans r)).res (gTr_sub _)
def kBoth : Known := .spec F_place_Both dMM pMM eMM2 (fun p => encMembers (bothP p.1 p.2))
theorem kBoth_ok : kBoth.Ok PG := Known.spec_ok both_con
theorem isup_eq (up : List Member) (m : Member) : callT (envCo [kIndex]) 9 F_coord_isUp [encMembers up, .agg (encMember m)] = gIx up m fun y => some (.bool (inUp y.1 y.2)) := by kernel_rfl
def md2 (f : Nat) : Option Nat := bif nmem f [F_slices_IndexFunc_api_Member, F_slices_ContainsFunc_api_Member, F_slices_IndexFunc_api_Alive, F_slices_ContainsFunc_api_Alive, F_coord_isUp, F_coord_frozen, F_coord_best, F_coord_desk_may, F_coord_desk_gone, F_coord_desk_grows, F_coord_oneUp, F_coord_oneDown, F_coord_Up, F_place_Both, F_place_Lead, F_place_Chain, F_place_turn] then some 0 else none
def envC2 (l : List Known) : Env := envL lvCo md2 l
theorem conC2 {l : List Known} (h : ∀ k ∈ l, k.Ok PG) {n f : Nat} {xs : List AV} {r : AV} (e : callT (envC2 l) n f xs = some r) : Contract PG f xs [] r [] := callT_ok (envL_ok h) envL_code mixed e
def SIx3 (L cl : AV) (n : Nat) (i : Int) : St := { fr := [(0, L), (1, cl), (7, .int .i64 n), (8, .int .i64 i)], hp := [] }
def ixFrom {X : Type} (P : X -> Bool) : List X -> Nat -> Int
 | [], _ => -1
 | x :: r, i => bif P x then (i : Int) else ixFrom P r (i + 1)
theorem ixFrom_any {X : Type} {P : X -> Bool} : ∀ (l : List X) (i : Nat), decide (0 <= ixFrom P l i) = l.any P
 | [], i => rfl
 | x :: r, i => by
  rw [List.any_cons]
  show decide (0 <= bif P x then (i : Int) else ixFrom P r (i + 1)) = _
  cases P x with
  | true => rw [cond_true, Bool.true_or]; exact decide_eq_true (by omega)
  | false => rw [cond_false, Bool.false_or]; exact ixFrom_any r (i + 1)
structure Clo {X Y : Type} (FI : Nat) (eL : List X -> AV) (z : X) (cl : Y -> AV) (P : Y -> X -> Bool) (pre : Y -> Prop) (ks : List Known) : Prop where
 hin : ∀ N l y, callT (envC2 ks) (N + 6) FI [eL l, cl y] = LP (envC2 ks) (N + 5) 0 FI snK 0 [] (N + 5) (SIx3 (eL l) (cl y) l.length 0)
 hst : ∀ N j l y i, pre y -> LP (envC2 ks) (N + 5) 0 FI snK 0 [] (j + 1) (SIx3 (eL l) (cl y) l.length i) = bif decide (i < (l.length : Int)) then rg i l.length <|
  bif P y (l.getD i.toNat z) then some (.int .i64 i) else LP (envC2 ks) (N + 5) 0 FI snK 0 [] j (SIx3 (eL l) (cl y) l.length (IntKind.i64.wrap (i + 1))) else some (.int .i64 (-1))
theorem Clo.con {X Y : Type} {FI : Nat} {eL : List X -> AV} {z : X} {cl : Y -> AV} {P : Y -> X -> Bool} {pre : Y -> Prop} {ks : List Known} (h : Clo FI eL z cl P pre ks) (hk : ∀ k ∈ ks, k.Ok PG) {l : List X} {y : Y} (hl : l.length <= 100000) (hy : pre y) :
  Contract PG FI [eL l, cl y] [] (.int .i64 (ixFrom (P y) l 0)) [] := by
 have hN : ∃ N, N = 200000 := ⟨_, rfl⟩
 obtain ⟨N, hN⟩ := hN
 refine conC2 hk ((h.hin N l y).trans ?_)
 have run : ∀ d i m, i + d = l.length -> d < m -> LP (envC2 ks) (N + 5) 0 FI snK 0 [] m (SIx3 (eL l) (cl y) l.length (i : Nat)) = some (.int .i64 (ixFrom (P y) (l.drop i) i)) := by
  intro d
  induction d with
  | zero =>
   intro i m hi hm
   obtain ⟨m, rfl⟩ : ∃ k, m = k + 1 := ⟨m - 1, by omega⟩
   rw [h.hst N m l y _ hy, decide_eq_false (by omega), cond_false, List.drop_eq_nil_of_le (by omega)]; rfl
  | succ d ih =>
   intro i m hi hm
   obtain ⟨m, rfl⟩ : ∃ k, m = k + 1 := ⟨m - 1, by omega⟩
   have hil : i < l.length := by omega
   rw [h.hst N m l y _ hy, decide_eq_true (by omega), cond_true, rg_eq hil, Int.toNat_natCast, wrapS (by omega), ih (i + 1) m (by omega) (by omega), drop_cons (z := z) hil]
   show _ = some (AV.int .i64 (bif P y (l.getD i z) then (i : Int) else ixFrom (P y) (l.drop (i + 1)) (i + 1)))
   cases P y (l.getD i z) <;> rfl
 have := run l.length 0 (N + 5) (by omega) (by omega)
 rw [List.drop_zero] at this
 exact this
def fnD (up : List Member) : AV := .fn (.func F_coord_oneDown_c1) [] [.tp [encMembers up] 0]
def fnU (up : List Member) : AV := .fn (.func F_coord_oneUp_c1) [] [.tp [encMembers up] 0]
def preUp (up : List Member) : Prop := up.length <= LB
theorem isup_con (p : LM) (h : preLM p) : Contract PG F_coord_isUp (encLM p) [] (.bool (inUp p.1 p.2)) [] := conCo (ak kIndex_ok ank) ((isup_eq p.1 p.2).trans (by unfold gIx; rw [qLM h]))
def kIsUp : Known := .spec F_coord_isUp decLM preLM encLM (fun p => .bool (inUp p.1 p.2))
theorem kIsUp_ok : kIsUp.Ok PG := Known.spec_ok isup_con
theorem cloD_st (N j : Nat) (l up : List Member) (i : Int) : LP (envC2 [kIsUp]) (N + 5) 0 F_slices_IndexFunc_api_Member snK 0 [] (j + 1) (SIx3 (encMembers l) (fnD up) l.length i) = bif decide (i < (l.length : Int)) then rg i l.length <|
  gIx up (l.getD i.toNat default) fun y => bif !inUp y.1 y.2 then some (.int .i64 i) else LP (envC2 [kIsUp]) (N + 5) 0 F_slices_IndexFunc_api_Member snK 0 [] j (SIx3 (encMembers l) (fnD up) l.length (IntKind.i64.wrap (i + 1))) else some (.int .i64 (-1)) := by kernel_rfl
theorem cloU_st (N j : Nat) (l up : List Member) (i : Int) : LP (envC2 [kIsUp]) (N + 5) 0 F_slices_IndexFunc_api_Member snK 0 [] (j + 1) (SIx3 (encMembers l) (fnU up) l.length i) = bif decide (i < (l.length : Int)) then rg i l.length <|
  gIx up (l.getD i.toNat default) fun y => bif inUp y.1 y.2 then some (.int .i64 i) else LP (envC2 [kIsUp]) (N + 5) 0 F_slices_IndexFunc_api_Member snK 0 [] j (SIx3 (encMembers l) (fnU up) l.length (IntKind.i64.wrap (i + 1))) else some (.int .i64 (-1)) := by kernel_rfl
theorem gIx_eq {R : Type} {l : List Member} {m : Member} {k : LM -> Option R} (h : l.length <= LB) : gIx l m k = k (l, m) := qLM h
theorem cloD : Clo F_slices_IndexFunc_api_Member encMembers default fnD (fun up m => !inUp up m) preUp [kIsUp] where
 hin N l y := by kernel_rfl
 hst N j l y i h := by rw [cloD_st, gIx_eq h]
theorem cloU : Clo F_slices_IndexFunc_api_Member encMembers default fnU (fun up m => inUp up m) preUp [kIsUp] where
 hin N l y := by kernel_rfl
 hst N j l y i h := by rw [cloU_st, gIx_eq h]
def eLD (p : MM) : List AV := [encMembers p.1, fnD p.2]
def eLU (p : MM) : List AV := [encMembers p.1, fnU p.2]
def dLF (a : List AV) : MM := (decL decMember (a.getD 0 .nils), match a.getD 1 .nils with
 | .fn _ _ [.tp [c] _] => decL decMember c
 | _ => [])
theorem dLF_D (p : MM) : dLF (eLD p) = p := by
 show (decL decMember (encMembers p.1), decL decMember (encMembers p.2)) = p
 rw [decMembers, decMembers]
theorem dLF_U (p : MM) : dLF (eLU p) = p := by
 show (decL decMember (encMembers p.1), decL decMember (encMembers p.2)) = p
 rw [decMembers, decMembers]
theorem pMM_up {p : MM} (h : pMM p) : preUp p.2 := by have := h.2; unfold preUp LB; omega
def kIxD : Known := .spec F_slices_IndexFunc_api_Member dLF pMM eLD (fun p => .int .i64 (ixFrom (fun m => !inUp p.2 m) p.1 0))
theorem kIxD_ok : kIxD.Ok PG := Known.spec_ok fun p h => cloD.con (ak kIsUp_ok ank) h.1 (pMM_up h)
def kIxU : Known := .spec F_slices_IndexFunc_api_Member dLF pMM eLU (fun p => .int .i64 (ixFrom (fun m => inUp p.2 m) p.1 0))
theorem kIxU_ok : kIxU.Ok PG := Known.spec_ok fun p h => cloU.con (ak kIsUp_ok ank) h.1 (pMM_up h)
theorem ctD_eq (l up : List Member) : callT (envC2 [kIxD]) 9 F_slices_ContainsFunc_api_Member [encMembers l, fnD up] = gC dLF pMM eLD [encMembers l, fnD up] fun p => some (.bool (decide (0 <= ixFrom (fun m => !inUp p.2 m) p.1 0))) := by kernel_rfl
theorem ctU_eq (l up : List Member) : callT (envC2 [kIxU]) 9 F_slices_ContainsFunc_api_Member [encMembers l, fnU up] = gC dLF pMM eLU [encMembers l, fnU up] fun p => some (.bool (decide (0 <= ixFrom (fun m => inUp p.2 m) p.1 0))) := by kernel_rfl
theorem ctD_con (p : MM) (h : pMM p) : Contract PG F_slices_ContainsFunc_api_Member (eLD p) [] (.bool (p.1.any fun m => !inUp p.2 m)) [] := by
 refine conC2 (ak kIxD_ok ank) ((ctD_eq p.1 p.2).trans ((gC_eq p (dLF_D p) h (.refl _)).trans ?_))
 rw [ixFrom_any]
theorem ctU_con (p : MM) (h : pMM p) : Contract PG F_slices_ContainsFunc_api_Member (eLU p) [] (.bool (p.1.any fun m => inUp p.2 m)) [] := by
 refine conC2 (ak kIxU_ok ank) ((ctU_eq p.1 p.2).trans ((gC_eq p (dLF_U p) h (.refl _)).trans ?_))
 rw [ixFrom_any]
def kCtD : Known := .spec F_slices_ContainsFunc_api_Member dLF pMM eLD (fun p => .bool (p.1.any fun m => !inUp p.2 m))
def kCtU : Known := .spec F_slices_ContainsFunc_api_Member dLF pMM eLU (fun p => .bool (p.1.any fun m => inUp p.2 m))
theorem kCtD_ok : kCtD.Ok PG := Known.spec_ok ctD_con
theorem kCtU_ok : kCtU.Ok PG := Known.spec_ok ctU_con
theorem od_eq (l up : List Member) : callT (envC2 [kCtD]) 9 F_coord_oneDown [encMembers l, encMembers up] = gC dLF pMM eLD [encMembers l, fnD up] fun p => some (.bool (p.1.any fun m => !inUp p.2 m)) := by kernel_rfl
theorem ou_eq (l up : List Member) : callT (envC2 [kCtU]) 9 F_coord_oneUp [encMembers l, encMembers up] = gC dLF pMM eLU [encMembers l, fnU up] fun p => some (.bool (p.1.any fun m => inUp p.2 m)) := by kernel_rfl
theorem od_con (p : MM) (h : pMM p) : Contract PG F_coord_oneDown (eMM2 p) [] (.bool (p.1.any fun m => !inUp p.2 m)) [] := conC2 (ak kCtD_ok ank) ((od_eq p.1 p.2).trans (gC_eq p (dLF_D p) h (.refl _)))
theorem ou_con (p : MM) (h : pMM p) : Contract PG F_coord_oneUp (eMM2 p) [] (.bool (p.1.any fun m => inUp p.2 m)) [] := conC2 (ak kCtU_ok ank) ((ou_eq p.1 p.2).trans (gC_eq p (dLF_U p) h (.refl _)))
def kOneDown : Known := .spec F_coord_oneDown dMM pMM eMM2 (fun p => .bool (p.1.any fun m => !inUp p.2 m))
def kOneUp : Known := .spec F_coord_oneUp dMM pMM eMM2 (fun p => .bool (p.1.any fun m => inUp p.2 m))
theorem kOneDown_ok : kOneDown.Ok PG := Known.spec_ok od_con
theorem kOneUp_ok : kOneUp.Ok PG := Known.spec_ok ou_con
def zMsgC : List AV := [AV.int IntKind.i64 0, AV.int IntKind.i64 0, AV.int IntKind.i64 0, AV.int IntKind.i64 0, AV.int IntKind.i64 0, AV.int IntKind.i64 0, AV.int IntKind.i64 0, AV.int IntKind.i64 0, AV.int IntKind.i64 0, AV.int IntKind.i64 0, AV.int IntKind.i64 0, AV.int IntKind.i64 0, AV.bool false, AV.bool false, AV.str [], AV.str [], AV.cplx FloatKind.f64 0 0, AV.cplx FloatKind.f64 0 0, AV.int IntKind.i64 0, AV.str [], AV.str [], AV.str [], AV.bool false, AV.nils, AV.nils, AV.nils, AV.cplx FloatKind.f64 0 0, AV.cplx FloatKind.f64 0 0, AV.int IntKind.i64 0, AV.nils, AV.nils]
theorem zMsg_sub : SubC zMsgC (encMsg default) := subC_all (by repeat' (first | exact trivial | exact nilsL | exact SubV.refl _ | refine ⟨?_, ?_⟩))
def isFz (m : Member) (f : Msg) : Bool := decide (f.src = m.node) && decide (f.sboot = m.boot)
def frozenL : List Msg -> Member -> Msg × Bool
 | [], _ => (default, false)
 | f :: r, m => bif isFz m f then (f, true) else frozenL r m
def frozenP (k : Work) (m : Member) : Msg × Bool := frozenL k.froze m
abbrev WM := Work × Member
def dWM (a : List AV) : WM := (decWork (argC a 0), decMember (argC a 1))
def eWM (p : WM) : List AV := [.agg (encWork p.1), .agg (encMember p.2)]
def pWM (p : WM) : Prop := p.1.froze.length <= 100000
theorem dWM_eq (p : WM) : dWM (eWM p) = p := by
 show (decWork (encWork p.1), decMember (encMember p.2)) = p
 rw [dec_encWork, dec_encMember]
def tFz (p : Msg × Bool) : AV := .tup [.agg (encMsg p.1), .bool p.2]
def SFz (k : Work) (m : Member) (i : Int) : St := { fr := [(3, .ptr 0 0 0), (4, .ptr 1 0 0), (9, encMsgs k.froze), (10, .int .i64 k.froze.length), (11, .int .i64 i)], hp := [.arr true 2 [encMember m], .arr true 31 [zMsgC]] }
theorem fz_in (N : Nat) (k : Work) (m : Member) : callT (envC2 []) (N + 1) F_coord_frozen [.agg (encWork k), .agg (encMember m)] = LP (envC2 []) N 0 F_coord_frozen snK 0 [] N (SFz k m 0) := by kernel_rfl
theorem fz_st (N j : Nat) (k : Work) (m : Member) (i : Int) : LP (envC2 []) N 0 F_coord_frozen snK 0 [] (j + 1) (SFz k m i) =
 bif decide (i < (k.froze.length : Int)) then rg i k.froze.length <| bif decide ((k.froze.getD i.toNat default).src = m.node) then bif decide ((k.froze.getD i.toNat default).sboot = m.boot) then some (.tup [.agg (encMsg (k.froze.getD i.toNat default)), .bool true])
   else LP (envC2 []) N 0 F_coord_frozen snK 0 [] j (SFz k m (IntKind.i64.wrap (i + 1))) else LP (envC2 []) N 0 F_coord_frozen snK 0 [] j (SFz k m (IntKind.i64.wrap (i + 1)))
 else some (.tup [.agg zMsgC, .bool false]) := by kernel_rfl
theorem fz_con (p : WM) (h : pWM p) : Contract PG F_coord_frozen (eWM p) [] (tFz (frozenP p.1 p.2)) [] := by
 obtain ⟨k, m⟩ := p
 have h : k.froze.length <= 100000 := h
 have hN : ∃ N, N = 200000 := ⟨_, rfl⟩
 obtain ⟨N, hN⟩ := hN
 have run : ∀ d i j, i + d = k.froze.length -> d < j -> ∃ v, LP (envC2 []) N 0 F_coord_frozen snK 0 [] j (SFz k m (i : Nat)) = some v /\ SubV v (tFz (frozenL (k.froze.drop i) m)) := by
  intro d
  induction d with
  | zero =>
   intro i j hi hj
   obtain ⟨j, rfl⟩ : ∃ q, j = q + 1 := ⟨j - 1, by omega⟩
   rw [fz_st, decide_eq_false (by omega), cond_false, List.drop_eq_nil_of_le (by omega)]
   exact ⟨_, rfl, .tup (subC_all ⟨.agg zMsg_sub, .refl _, trivial⟩)⟩
  | succ d ih =>
   intro i j hi hj
   obtain ⟨j, rfl⟩ : ∃ q, j = q + 1 := ⟨j - 1, by omega⟩
   have hil : i < k.froze.length := by omega
   rw [fz_st, decide_eq_true (by omega), cond_true, rg_eq hil, Int.toNat_natCast, wrapS (by omega), drop_cons (z := default) hil]
   show ∃ v, _ = some v /\ SubV v (tFz (bif isFz m (k.froze.getD i default) then (k.froze.getD i default, true) else frozenL (k.froze.drop (i + 1)) m))
   unfold isFz
   cases decide ((k.froze.getD i default).src = m.node) with
   | false => exact ih (i + 1) j (by omega) (by omega)
   | true =>
    cases decide ((k.froze.getD i default).sboot = m.boot) with
    | false => exact ih (i + 1) j (by omega) (by omega)
    | true => exact ⟨_, rfl, .refl _⟩
 obtain ⟨v, h1, h2⟩ := run k.froze.length 0 N (by omega) (by omega)
 rw [List.drop_zero] at h2
 exact (conC2 ank (n := N + 1) ((fz_in N k m).trans h1)).res h2
def kFrozen : Known := .spec F_coord_frozen dWM pWM eWM (fun p => tFz (frozenP p.1 p.2))
theorem kFrozen_ok : kFrozen.Ok PG := Known.spec_ok fz_con
def gFz {R : Type} (k : Work) (m : Member) (K : WM -> Option R) : Option R := gC dWM pWM eWM [.agg (encWork k), .agg (encMember m)] K
theorem gFz_eq {R : Type} {k : Work} {m : Member} {K : WM -> Option R} (h : k.froze.length <= 100000) : gFz k m K = K (k, m) := gC_eq (k, m) (dWM_eq (k, m)) h (.refl _)
def kn3 : List Known := [kFrozen, kAhead]
theorem kn3_ok : ∀ k ∈ kn3, k.Ok PG := ak kFrozen_ok (ak kAhead_ok ank)
def ableP (k : Work) (base : Int) (m : Member) : Bool := (frozenP k m).2 && ((frozenP k m).1.has && !decide ((frozenP k m).1.a < base))
def isBet (t f : Msg) : Bool := decide (t.a < f.a) || (decide (f.a = t.a) && vlt t.ver f.ver)
def bestStep (k : Work) (base : Int) (acc : Option (Member × Msg)) (m : Member) : Option (Member × Msg) :=
 bif ableP k base m then match acc with
  | none => some (m, (frozenP k m).1)
  | some (x, t) => bif isBet t (frozenP k m).1 then some (m, (frozenP k m).1) else some (x, t)
 else acc
def bestP (k : Work) (base : Int) : Option (Member × Msg) := k.keep.foldl (bestStep k base) none
def SBe (k : Work) (base : Int) (first : List AV) (top : List AV) (found : Bool) (i : Int) : St := { fr := [(1, .int .i64 base), (2, .ptr 0 0 0), (4, .ptr 1 0 0), (6, .ptr 2 0 0), (7, .ptr 3 0 0), (8, .bool found), (14, encMembers k.keep), (15, .int .i64 k.keep.length), (16, .int .i64 i)], hp := [.arr true 4 [encWork k], .arr true 2 [encMember ⟨0, 0⟩], .arr true 2 [first], .arr true 31 [top]] }
def LBe (N j : Nat) (k : Work) (base : Int) (first : List AV) (top : List AV) (found : Bool) (i : Int) : Option AV := LP (envC2 kn3) N 0 F_coord_best snK 0 [] j (SBe k base first top found i)
theorem be_in (N : Nat) (k : Work) (base : Int) : callT (envC2 kn3) (N + 1) F_coord_best [.agg (encWork k), .int .i64 base] = LBe N N k base (encMember ⟨0, 0⟩) zMsgC false 0 := by kernel_rfl
theorem be_0 (N j : Nat) (k : Work) (base : Int) (i : Int) : LBe N (j + 1) k base (encMember ⟨0, 0⟩) zMsgC false i =
 bif decide (i < (k.keep.length : Int)) then rg i k.keep.length <| gFz k (k.keep.getD i.toNat default) fun y => bif !(frozenP y.1 y.2).2 then LBe N j k base (encMember ⟨0, 0⟩) zMsgC false (IntKind.i64.wrap (i + 1)) else
   bif !(frozenP y.1 y.2).1.has then LBe N j k base (encMember ⟨0, 0⟩) zMsgC false (IntKind.i64.wrap (i + 1)) else bif decide ((frozenP y.1 y.2).1.a < base) then LBe N j k base (encMember ⟨0, 0⟩) zMsgC false (IntKind.i64.wrap (i + 1))
   else LBe N j k base (encMember (k.keep.getD i.toNat default)) (encMsg (frozenP y.1 y.2).1) true (IntKind.i64.wrap (i + 1))
 else some (.tup [.agg (encMember ⟨0, 0⟩), .bool false]) := by kernel_rfl
theorem be_1 (N j : Nat) (k : Work) (base : Int) (x : Member) (t : Msg) (i : Int) : LBe N (j + 1) k base (encMember x) (encMsg t) true i =
 bif decide (i < (k.keep.length : Int)) then rg i k.keep.length <| gFz k (k.keep.getD i.toNat default) fun y => bif !(frozenP y.1 y.2).2 then LBe N j k base (encMember x) (encMsg t) true (IntKind.i64.wrap (i + 1)) else
   bif !(frozenP y.1 y.2).1.has then LBe N j k base (encMember x) (encMsg t) true (IntKind.i64.wrap (i + 1)) else bif decide ((frozenP y.1 y.2).1.a < base) then LBe N j k base (encMember x) (encMsg t) true (IntKind.i64.wrap (i + 1)) else
   bif decide (t.a < (frozenP y.1 y.2).1.a) then LBe N j k base (encMember (k.keep.getD i.toNat default)) (encMsg (frozenP y.1 y.2).1) true (IntKind.i64.wrap (i + 1)) else
   bif decide ((frozenP y.1 y.2).1.a = t.a) then gC dV2 V2 eV2 [.cplx .f64 t.ver.re t.ver.im, .cplx .f64 (frozenP y.1 y.2).1.ver.re (frozenP y.1 y.2).1.ver.im] fun z =>
    bif vlt z.1 z.2 then LBe N j k base (encMember (k.keep.getD i.toNat default)) (encMsg (frozenP y.1 y.2).1) true (IntKind.i64.wrap (i + 1)) else LBe N j k base (encMember x) (encMsg t) true (IntKind.i64.wrap (i + 1))
   else LBe N j k base (encMember x) (encMsg t) true (IntKind.i64.wrap (i + 1))
 else some (.tup [.agg (encMember x), .bool true]) := by kernel_rfl
def tBe (o : Option (Member × Msg)) : AV := .tup [.agg (encMember (match o with
 | some (x, _) => x
 | none => ⟨0, 0⟩)), .bool o.isSome]
def LBs (N j : Nat) (k : Work) (base : Int) : Option (Member × Msg) -> Int -> Option AV
 | none, i => LBe N j k base (encMember ⟨0, 0⟩) zMsgC false i
 | some (x, t), i => LBe N j k base (encMember x) (encMsg t) true i
abbrev WI := Work × Int
def dWI (a : List AV) : WI := (decWork (argC a 0), getI a 1)
def eWI (p : WI) : List AV := [.agg (encWork p.1), .int .i64 p.2]
def pWI (p : WI) : Prop := p.1.froze.length <= 100000 /\ p.1.keep.length <= 100000 /\ ∀ f ∈ p.1.froze, VNum f.ver
theorem dWI_eq (p : WI) : dWI (eWI p) = p := by
 show (decWork (encWork p.1), p.2) = p
 rw [dec_encWork]
theorem frozenL_mem : ∀ (l : List Msg) (m : Member), (frozenL l m).2 = true -> (frozenL l m).1 ∈ l
 | [], _, h => by cases h
 | f :: r, m, h => by
  unfold frozenL at h ⊢
  cases hc : isFz m f with
  | true => simp
  | false => rw [hc] at h; simp only [cond_false] at h ⊢; exact List.mem_cons_of_mem _ (frozenL_mem r m h)
theorem best_con (p : WI) (h : pWI p) : Contract PG F_coord_best (eWI p) [] (tBe (bestP p.1 p.2)) [] := by
 obtain ⟨k, base⟩ := p
 obtain ⟨h1, h2, h3⟩ := h
 have h1 : k.froze.length <= 100000 := h1
 have h2 : k.keep.length <= 100000 := h2
 have h3 : ∀ f ∈ k.froze, VNum f.ver := h3
 have hN : ∃ N, N = 200000 := ⟨_, rfl⟩
 obtain ⟨N, hN⟩ := hN
 have run : ∀ d i j (o : Option (Member × Msg)), (∀ x t, o = some (x, t) -> VNum t.ver) -> i + d = k.keep.length -> d < j -> LBs N j k base o (i : Nat) = some (tBe ((k.keep.drop i).foldl (bestStep k base) o)) := by
  intro d
  induction d with
  | zero =>
   intro i j o ho hi hj
   obtain ⟨j, rfl⟩ : ∃ q, j = q + 1 := ⟨j - 1, by omega⟩
   rw [List.drop_eq_nil_of_le (by omega), List.foldl_nil]
   match o with
   | none => show LBe N (j + 1) k base _ _ false _ = _; rw [be_0, decide_eq_false (by omega), cond_false]; rfl
   | some (x, t) => show LBe N (j + 1) k base _ _ true _ = _; rw [be_1, decide_eq_false (by omega), cond_false]; rfl
  | succ d ih =>
   intro i j o ho hi hj
   obtain ⟨j, rfl⟩ : ∃ q, j = q + 1 := ⟨j - 1, by omega⟩
   have hil : i < k.keep.length := by omega
   have key : LBs N (j + 1) k base o (i : Nat) = LBs N j k base (bestStep k base o (k.keep.getD i default)) ((i + 1 : Nat) : Int) := by
    match o, ho with
    | none, ho =>
     show LBe N (j + 1) k base _ _ false _ = _
     rw [be_0, decide_eq_true (by omega), cond_true, rg_eq hil, Int.toNat_natCast, gFz_eq h1, wrapS (by omega)]
     dsimp only
     unfold bestStep ableP
     cases (frozenP k (k.keep.getD i default)).2 <;> cases (frozenP k (k.keep.getD i default)).1.has <;> cases decide ((frozenP k (k.keep.getD i default)).1.a < base) <;> rfl
    | some (x, t), ho =>
     show LBe N (j + 1) k base _ _ true _ = _
     rw [be_1, decide_eq_true (by omega), cond_true, rg_eq hil, Int.toNat_natCast, gFz_eq h1, wrapS (by omega)]
     dsimp only
     cases hf : (frozenP k (k.keep.getD i default)).2 with
     | false => unfold bestStep ableP; rw [hf]; rfl
     | true =>
      have hv : VNum (frozenP k (k.keep.getD i default)).1.ver := h3 _ (frozenL_mem _ _ hf)
      have ht : VNum t.ver := ho x t rfl
      have q := qV2 (k := fun z : Ver × Ver => bif vlt z.1 z.2 then LBe N j k base (encMember (k.keep.getD i default)) (encMsg (frozenP k (k.keep.getD i default)).1) true ((i + 1 : Nat) : Int) else LBe N j k base (encMember x) (encMsg t) true ((i + 1 : Nat) : Int)) ht hv
      rw [q]
      unfold bestStep ableP isBet
      rw [hf]
      dsimp only
      cases (frozenP k (k.keep.getD i default)).1.has <;> cases decide ((frozenP k (k.keep.getD i default)).1.a < base) <;> cases decide (t.a < (frozenP k (k.keep.getD i default)).1.a) <;> cases decide ((frozenP k (k.keep.getD i default)).1.a = t.a) <;> cases vlt t.ver (frozenP k (k.keep.getD i default)).1.ver <;> rfl
   rw [key, drop_cons (z := default) hil, List.foldl_cons]
   refine ih (i + 1) j _ (fun x t e => ?_) (by omega) (by omega)
   unfold bestStep ableP at e
   cases hf : (frozenP k (k.keep.getD i default)).2 with
   | false => rw [hf] at e; exact ho x t e
   | true =>
    have hv : VNum (frozenP k (k.keep.getD i default)).1.ver := h3 _ (frozenL_mem _ _ hf)
    rw [hf] at e
    cases hc : ((frozenP k (k.keep.getD i default)).1.has && !decide ((frozenP k (k.keep.getD i default)).1.a < base)) with
    | false => rw [Bool.true_and, hc] at e; exact ho x t e
    | true =>
     rw [Bool.true_and, hc, cond_true] at e
     match o, ho, e with
     | none, ho, e => cases e; exact hv
     | some (x', t'), ho, e =>
      simp only [] at e
      cases hb : isBet t' (frozenP k (k.keep.getD i default)).1 with
      | true => rw [hb] at e; cases e; exact hv
      | false => rw [hb] at e; cases e; exact ho _ _ rfl
 have := run k.keep.length 0 N none (fun x t e => by cases e) (by omega) (by omega)
 rw [List.drop_zero] at this
 exact conC2 kn3_ok (n := N + 1) ((be_in N k base).trans this)
def kBest : Known := .spec F_coord_best dWI pWI eWI (fun p => tBe (bestP p.1 p.2))
theorem kBest_ok : kBest.Ok PG := Known.spec_ok best_con
end Go.Wk
end
