/- Control. -/
import Derived.Test.YtnioalecffkedaaAm24b
import Derived.Scope
set_option linter.unusedVariables false
set_option linter.unusedSimpArgs false
namespace Go.AM

variable {R : Type}

def AX.x : AX → Exit
  | .normal => .normal
  | .exit id => .exit id
  | .goto l => .goto l
  | .ret => .ret

/-- what holds at the end of a stretch of code -/
def Post (nt base : Nat) (s : St) (w : World) (I : Nat → Prop) (φ : Phi) (a : Act) (s' : St) (Q : Act → World → Prop) : Prop :=
  ∀ a' w' φ' I', nt ≤ a'.tmps.size → a'.defers = a.defers → StOk w' I' φ' s' a' → Step base (hget s.hp) φ I w (hget s'.hp) φ' I' w' → Q a' w'

/-- a stretch of code, run by X, leads from s to s' with e -/
def Leads (X : (Exit → Act → World → Prop) → Act → World → Prop) (nt base : Nat) (s : St) (e : AX) (s' : St) : Prop :=
  base ≤ s.hp.length → base ≤ s'.hp.length ∧ ∀ w I φ a, StOk w I φ s a → nt ≤ a.tmps.size → ∀ Q, Post nt base s w I φ a s' (Q e.x) → X Q a w

theorem Post.after {nt base : Nat} {s s1 s2 : St} {w w1 : World} {I I1 : Nat → Prop} {φ φ1 : Phi} {a a1 : Act} {Q : Act → World → Prop} (h : Post nt base s w I φ a s2 Q) (hd : a1.defers = a.defers)
    (hs : Step base (hget s.hp) φ I w (hget s1.hp) φ1 I1 w1) : Post nt base s1 w1 I1 φ1 a1 s2 Q :=
  fun a' w' φ' I' h1 h2 h3 h4 => h a' w' φ' I' h1 (h2.trans hd) h3 (hs.trans h4)

section
variable {P : Program}

/-- a loop's body, at its head -/
def wpL (P : Program) (c : Code) (Q : Exit → Act → World → Prop) (a : Act) (w : World) : Prop :=
  ∀ (b : Frame) (k : List Item) (cs : List Frame), ∃ e a' w', Q e a' w' ∧ Arrives P (lone (b.at a (.code c :: .inLoop c :: k)) cs w) b k cs e a' w'

theorem wpL_loop {c : Code} {Q : Exit → Act → World → Prop} {a : Act} {w : World} (h : wpL P c Q a w) : (Code.loop c).wp P Q a w := fun b k cs =>
  let ⟨e, a', w', hq, harr⟩ := h b k cs; ⟨e, a', w', hq, .of_steps (.one step_loop) harr⟩

theorem wpL_step {c : Code} {Q : Exit → Act → World → Prop} {a : Act} {w : World} (h : c.wp P (Exit.then (wpL P c Q) Q) a w) : wpL P c Q a w := by
  intro b k cs
  obtain ⟨e, a₁, w₁, hq, harr⟩ := h b (.inLoop c :: k) cs
  cases e with
  | normal =>
    obtain ⟨e₂, a₂, w₂, hq₂, harr₂⟩ := hq b k cs
    exact ⟨e₂, a₂, w₂, hq₂, .of_steps (Steps.trans harr (.one step_inLoop)) harr₂⟩
  | exit id => exact ⟨_, a₁, w₁, hq, .pass (x := .inLoop c) rfl (fun _ _ => .inl (by simp)) harr⟩
  | goto l => exact ⟨_, a₁, w₁, hq, .pass (x := .inLoop c) rfl (fun _ _ => .inl (by simp)) harr⟩
  | ret => exact ⟨_, a₁, w₁, hq, .pass (x := .inLoop c) rfl (fun _ _ => .inl (by simp)) harr⟩
  | panic ch => exact ⟨_, a₁, w₁, hq, .pass (x := .inLoop c) rfl (fun _ _ => .inl (by simp)) harr⟩
  | outgrown => exact ⟨_, a₁, w₁, hq, .pass (x := .inLoop c) rfl (fun _ _ => .inl (by simp)) harr⟩

/-- a stretch 'rest' of the scope c -/
def wpS (P : Program) (c rest : Code) (Q : Exit → Act → World → Prop) (a : Act) (w : World) : Prop :=
  ∀ (b : Frame) (k : List Item) (cs : List Frame), ∃ e a' w', Q e a' w' ∧ Arrives P (lone (b.at a (.code rest :: .inScope c :: k)) cs w) b k cs e a' w'

theorem wpS_scope {c : Code} {Q : Exit → Act → World → Prop} {a : Act} {w : World} (h : wpS P c c Q a w) : (Code.scope c).wp P Q a w := fun b k cs =>
  let ⟨e, a', w', hq, harr⟩ := h b k cs; ⟨e, a', w', hq, .of_steps (.one step_scope) harr⟩

def ExitS (P : Program) (c : Code) (Q : Exit → Act → World → Prop) : Exit → Act → World → Prop
  | .goto l, a, w => match findLabel c l with
    | some rest => wpS P c rest Q a w
    | none => Q (.goto l) a w
  | e, a, w => Q e a w

theorem wpS_step {c rest : Code} {Q : Exit → Act → World → Prop} {a : Act} {w : World} (h : rest.wp P (ExitS P c Q) a w) : wpS P c rest Q a w := by
  intro b k cs
  obtain ⟨e, a₁, w₁, hq, harr⟩ := h b (.inScope c :: k) cs
  cases e with
  | normal => exact ⟨.normal, a₁, w₁, hq, Steps.trans harr (.one step_inScope)⟩
  | exit id => exact ⟨.exit id, a₁, w₁, hq, fun k' hk => harr k' (by simp [exitTo, hk])⟩
  | goto l =>
    simp only [ExitS] at hq
    cases hf : findLabel c l with
    | none =>
      rw [hf] at hq
      exact ⟨.goto l, a₁, w₁, hq, fun k' hk => harr k' (by simp [gotoIn, hf, hk])⟩
    | some r' =>
      rw [hf] at hq
      obtain ⟨e₂, a₂, w₂, hq₂, harr₂⟩ := hq b k cs
      exact ⟨e₂, a₂, w₂, hq₂, .of_steps (harr _ (by simp [gotoIn, hf])) harr₂⟩
  | ret => exact ⟨_, a₁, w₁, hq, harr⟩
  | panic ch => exact ⟨_, a₁, w₁, hq, harr⟩
  | outgrown => exact ⟨_, a₁, w₁, hq, harr⟩

theorem fget_map (ρ : Nat → Option Nat) (g : Nat → AV) (t : Nat) : ∀ live : List Nat, fget (live.map fun t => (t, ren ρ (g t))) t = ren ρ (g t) ∨ fget (live.map fun t => (t, ren ρ (g t))) t = .undef
  | [] => .inr rfl
  | x :: r => by
    simp only [List.map_cons, fget]
    cases h : Nat.beq x t with
    | true => left; rw [cond_true, Nat.eq_of_beq_eq_true h]
    | false => rw [cond_false]; exact fget_map ρ g t r

/-- at a loop's head -/
theorem norm_ok {w : World} {I : Nat → Prop} {φ : Phi} {s : St} {a : Act} (base : Nat) (live : List Nat) (h : StOk w I φ s a) (hb : base ≤ s.hp.length) :
    base ≤ (norm base live s).hp.length ∧ ∃ φ', StOk w I φ' (norm base live s) a ∧ Step base (hget s.hp) φ I w (hget (norm base live s).hp) φ' I w := by
  obtain ⟨hd, t, ht⟩ := reach_ok (hget s.hp) big ((s.hp.take base).flatMap kids ++ rootsL (live.map fun t => fget s.fr t)) (List.range base) (Distinct.range base)
  have hhp : (norm base live s).hp = reheap (reach big (hget s.hp) ((s.hp.take base).flatMap kids ++ rootsL (live.map fun t => fget s.fr t)) (List.range base)) (hget s.hp) := rfl
  have hfr : (norm base live s).fr = live.map fun t => (t, ren (fun b => indexOf b (reach big (hget s.hp) ((s.hp.take base).flatMap kids ++ rootsL (live.map fun t => fget s.fr t)) (List.range base)) 0) (fget s.fr t)) := rfl
  generalize reach big (hget s.hp) ((s.hp.take base).flatMap kids ++ rootsL (live.map fun t => fget s.fr t)) (List.range base) = ids at *
  refine ⟨by rw [hhp]; simp [reheap, ht], rephi ids φ, ⟨by rw [hhp]; exact h.hh.renum hd, fun t => ?_⟩, ⟨fun b p hb e => ?_, fun _ hB => hB, fun _ hB => .inl hB, fun B hB => .inl ?_, Ext.refl _ _⟩⟩
  · rw [hfr]
    rcases fget_map (fun b => indexOf b ids 0) (fget s.fr) t live with e | e
    · rw [e]; exact (h.fr t).ren fun b b' => rephi_ren b b'
    · rw [e]; exact .undef _
  · have : ids[b]? = some b := by
      rw [ht, List.getElem?_append_left (by simpa using hb), List.getElem?_range hb]
    simp [rephi, this, e]
  · rw [hhp] at hB; exact mut_renum hB

end

section
variable {P : Program} {env : Env} {run : CallK R} {r : R} {nt n base fn : Nat}

/-- a scope's jumps -/
def JumpOk (P : Program) (nt base : Nat) (jump : Code → Nat → CodeK R) : Prop :=
  ∀ a l k s r, okCode a = true → jump a l k s = some r → ∃ rest e s', findLabel a l = some rest ∧ k e s' = some r ∧ Leads (wpS P a rest) nt base s e s'

theorem norm_base {base : Nat} {live : List Nat} {s : St} (hb : base ≤ s.hp.length) : base ≤ (norm base live s).hp.length := by
  obtain ⟨_, t, ht⟩ := reach_ok (hget s.hp) big ((s.hp.take base).flatMap kids ++ rootsL (live.map fun t => fget s.fr t)) (List.range base) (Distinct.range base)
  show base ≤ (reheap (reach big (hget s.hp) ((s.hp.take base).flatMap kids ++ rootsL (live.map fun t => fget s.fr t)) (List.range base)) (hget s.hp)).length
  rw [ht]; simp [reheap]

theorem scope_exit {jump : Code → Nat → CodeK R} (hj : JumpOk P nt base jump) {x : Code} (hok : okCode x = true) {e1 : AX} {s1 : St} {k : AX → St → Option R}
    (h : (match e1 with
      | .goto l => match findLabel x l with
        | some _ => jump x l k (norm base (env.live fn (1000 + l)) s1)
        | .none => k (.goto l) s1
      | e => k e s1) = some r) :
    ∃ e s', k e s' = some r ∧ (base ≤ s1.hp.length → base ≤ s'.hp.length ∧ ∀ w I φ a, StOk w I φ s1 a → nt ≤ a.tmps.size → ∀ Q, Post nt base s1 w I φ a s' (Q e.x) → ExitS P x Q e1.x a w) := by
  cases e1 with
  | goto l =>
    simp only at h
    cases hf : findLabel x l with
    | none =>
      rw [hf] at h
      refine ⟨_, s1, h, fun hb => ⟨hb, fun w I φ a hs ha Q hQ => ?_⟩⟩
      simp only [AX.x, ExitS, hf]
      exact hQ a w φ I ha rfl hs (Step.refl _ _ _ _ _)
    | some rest =>
      rw [hf] at h
      obtain ⟨rest', e, s', h1, h2, h3⟩ := hj _ _ _ _ _ hok h
      rw [hf] at h1; cases h1
      refine ⟨e, s', h2, fun hb => ⟨(h3 (norm_base hb)).1, fun w I φ a hs ha Q hQ => ?_⟩⟩
      simp only [AX.x, ExitS, hf]
      obtain ⟨n1, φ1, n2, n3⟩ := norm_ok base (env.live fn (1000 + l)) hs hb
      exact (h3 n1).2 w I φ1 a n2 ha Q (hQ.after rfl n3)
  | normal => exact ⟨_, s1, h, fun hb => ⟨hb, fun w I φ a hs ha Q hQ => hQ a w φ I ha rfl hs (Step.refl _ _ _ _ _)⟩⟩
  | exit id => exact ⟨_, s1, h, fun hb => ⟨hb, fun w I φ a hs ha Q hQ => hQ a w φ I ha rfl hs (Step.refl _ _ _ _ _)⟩⟩
  | ret => exact ⟨_, s1, h, fun hb => ⟨hb, fun w I φ a hs ha Q hQ => hQ a w φ I ha rfl hs (Step.refl _ _ _ _ _)⟩⟩

theorem okCode_find : ∀ {c rest : Code} {l : Nat}, okCode c = true → findLabel c l = some rest → okCode rest = true := by
  intro c
  induction c with
  | seq a b iha ihb =>
    intro rest l hok h
    obtain ⟨h1, h2⟩ := and_true' (show (okCode a && okCode b) = true from hok)
    unfold findLabel at h
    split at h
    · rename_i rest' hr
      cases h
      show (okCode rest' && okCode b) = true
      rw [iha h1 hr, h2]; rfl
    · exact ihb h2 h
  | label l' =>
    intro rest l _ h
    unfold findLabel at h
    split at h
    · cases h; rfl
    · cases h
  | _ => intro rest l _ h; simp [findLabel] at h

theorem evC1_ok (henv : EnvOk P env) (hrun : RunOk P run) (hm : P.follows .mixedOrders = true) {jump : Code → Nat → CodeK R} (hj : JumpOk P nt base jump) : ∀ (c : Code) (cur : Nat) (k : AX → St → Option R) (s : St) (r : R), okCode c = true →
    evC1 env run fn nt n base jump cur c k s = some r → ∃ e s', k e s' = some r ∧ Leads (fun Q => c.wp P Q) nt base s e s' := by
  intro c
  induction c with
  | skip =>
    intro cur k s r _ h
    exact ⟨.normal, s, h, fun hb => ⟨hb, fun w I φ a hs ha Q hQ => wp_skip (hQ a w φ I ha rfl hs (Step.refl _ _ _ _ _))⟩⟩
  | region id ops draw =>
    intro cur k s r hok h
    obtain ⟨s', h1, h2, h3⟩ := region_ok henv hrun hm (id := id) hok h
    exact ⟨.normal, s', h1, fun hb => ⟨Nat.le_trans hb h2, fun w I φ a hs ha Q hQ => h3 w I φ a hs ha Q fun a' w' φ' I' c1 c2 c3 c4 => hQ a' w' φ' I' c1 c2 c3 (c4 base hb)⟩⟩
  | seq x y ihx ihy =>
    intro cur k s r hok h
    obtain ⟨hok1, hok2⟩ := and_true' (show (okCode x && okCode y) = true from hok)
    unfold evC1 at h
    obtain ⟨e1, s1, h1, h2⟩ := ihx _ _ _ _ hok1 h
    cases e1 with
    | normal =>
      obtain ⟨e2, s2, h3, h4⟩ := ihy _ _ _ _ hok2 h1
      refine ⟨e2, s2, h3, fun hb => ?_⟩
      obtain ⟨g1, g2⟩ := h2 hb
      obtain ⟨g3, g4⟩ := h4 g1
      refine ⟨g3, fun w I φ a hs ha Q hQ => wp_seq (g2 w I φ a hs ha _ fun a' w' φ' I' c1 c2 c3 c4 => ?_)⟩
      exact g4 w' I' φ' a' c3 c1 Q (hQ.after c2 c4)
    | exit id => exact ⟨_, s1, h1, fun hb => ⟨(h2 hb).1, fun w I φ a hs ha Q hQ => wp_seq ((h2 hb).2 w I φ a hs ha _ hQ)⟩⟩
    | goto l => exact ⟨_, s1, h1, fun hb => ⟨(h2 hb).1, fun w I φ a hs ha Q hQ => wp_seq ((h2 hb).2 w I φ a hs ha _ hQ)⟩⟩
    | ret => exact ⟨_, s1, h1, fun hb => ⟨(h2 hb).1, fun w I φ a hs ha Q hQ => wp_seq ((h2 hb).2 w I φ a hs ha _ hQ)⟩⟩
  | cond c x y ihx ihy =>
    intro cur k s r hok h
    obtain ⟨hok1, hok2⟩ := and_true' (show (okCode x && okCode y) = true from hok)
    unfold evC1 at h
    split at h
    · rename_i b hb
      have hev : ∀ {w I φ a}, StOk w I φ s a → a.eval c = .bool b := by
        intro w I φ a hs
        have := hs.fr.eval c
        rw [hb] at this
        generalize a.eval c = u at this
        cases this; rfl
      cases b with
      | true =>
        obtain ⟨e, s', h1, h2⟩ := ihx _ _ _ _ hok1 h
        exact ⟨e, s', h1, fun hb => ⟨(h2 hb).1, fun w I φ a hs ha Q hQ => wp_cond (hev hs) ((h2 hb).2 w I φ a hs ha Q hQ)⟩⟩
      | false =>
        obtain ⟨e, s', h1, h2⟩ := ihy _ _ _ _ hok2 h
        exact ⟨e, s', h1, fun hb => ⟨(h2 hb).1, fun w I φ a hs ha Q hQ => wp_cond (hev hs) ((h2 hb).2 w I φ a hs ha Q hQ)⟩⟩
    · cases h
  | block id x ih =>
    intro cur k s r hok h
    unfold evC1 at h
    obtain ⟨e1, s1, h1, h2⟩ := ih _ _ _ _ hok h
    cases e1 with
    | exit id' =>
      simp only at h1
      cases hid : Nat.beq id' id with
      | true =>
        rw [hid, cond_true] at h1
        have hid := Nat.eq_of_beq_eq_true hid
        subst hid
        refine ⟨.normal, s1, h1, fun hb => ⟨(h2 hb).1, fun w I φ a hs ha Q hQ => wp_block ((h2 hb).2 w I φ a hs ha _ fun a' w' φ' I' c1 c2 c3 c4 => ?_)⟩⟩
        simp only [AX.x, Exit.inBlock, if_true]
        exact hQ a' w' φ' I' c1 c2 c3 c4
      | false =>
        rw [hid, cond_false] at h1
        have hne : id' ≠ id := fun e => by subst e; simp at hid
        refine ⟨.exit id', s1, h1, fun hb => ⟨(h2 hb).1, fun w I φ a hs ha Q hQ => wp_block ((h2 hb).2 w I φ a hs ha _ fun a' w' φ' I' c1 c2 c3 c4 => ?_)⟩⟩
        simp only [AX.x, Exit.inBlock, if_neg hne]
        exact hQ a' w' φ' I' c1 c2 c3 c4
    | normal => exact ⟨_, s1, h1, fun hb => ⟨(h2 hb).1, fun w I φ a hs ha Q hQ => wp_block ((h2 hb).2 w I φ a hs ha _ hQ)⟩⟩
    | goto l => exact ⟨_, s1, h1, fun hb => ⟨(h2 hb).1, fun w I φ a hs ha Q hQ => wp_block ((h2 hb).2 w I φ a hs ha _ hQ)⟩⟩
    | ret => exact ⟨_, s1, h1, fun hb => ⟨(h2 hb).1, fun w I φ a hs ha Q hQ => wp_block ((h2 hb).2 w I φ a hs ha _ hQ)⟩⟩
  | loop x ih =>
    intro cur k s r hok h
    unfold evC1 at h
    have key : ∀ m k s r, loopK (norm base (env.live fn cur)) (evC1 env run fn nt n base jump cur x) m k s = some r → ∃ e s', k e s' = some r ∧ Leads (wpL P x) nt base s e s' := by
      intro m
      induction m with
      | zero => intro k s r h; cases h
      | succ m ihm =>
        intro k s r h
        unfold loopK at h
        obtain ⟨e1, s1, h1, h2⟩ := ih _ _ _ _ hok h
        have main : ∀ (e : AX) (s' : St), (base ≤ s1.hp.length → base ≤ s'.hp.length) → (base ≤ s1.hp.length → ∀ w I φ a, StOk w I φ s1 a → nt ≤ a.tmps.size → ∀ Q, Post nt base s1 w I φ a s' (Q e.x) → Exit.then (wpL P x Q) Q e1.x a w) → Leads (wpL P x) nt base s e s' := by
          intro e s' hl hx hb
          refine ⟨hl (h2 hb).1, fun w I φ a hs ha Q hQ => wpL_step ?_⟩
          exact (h2 hb).2 w I φ a hs ha _ fun a' w' φ' I' c1 c2 c3 c4 => hx (h2 hb).1 w' I' φ' a' c3 c1 Q (hQ.after c2 c4)
        cases e1 with
        | normal =>
          obtain ⟨e2, s2, h3, h4⟩ := ihm _ _ _ h1
          refine ⟨e2, s2, h3, main e2 s2 (fun hb => (h4 (norm_base hb)).1) fun hb w I φ a hs ha Q hQ => ?_⟩
          obtain ⟨n1, φ1, n2, n3⟩ := norm_ok base (env.live fn cur) hs hb
          exact (h4 n1).2 w I φ1 a n2 ha Q (hQ.after rfl n3)
        | exit id => exact ⟨_, s1, h1, main _ s1 (fun x => x) fun hb w I φ a hs ha Q hQ => hQ a w φ I ha rfl hs (Step.refl _ _ _ _ _)⟩
        | goto l => exact ⟨_, s1, h1, main _ s1 (fun x => x) fun hb w I φ a hs ha Q hQ => hQ a w φ I ha rfl hs (Step.refl _ _ _ _ _)⟩
        | ret => exact ⟨_, s1, h1, main _ s1 (fun x => x) fun hb w I φ a hs ha Q hQ => hQ a w φ I ha rfl hs (Step.refl _ _ _ _ _)⟩
    obtain ⟨e, s', h1, h2⟩ := key n k _ r h
    refine ⟨e, s', h1, fun hb => ⟨(h2 (norm_base hb)).1, fun w I φ a hs ha Q hQ => wpL_loop ?_⟩⟩
    obtain ⟨n1, φ1, n2, n3⟩ := norm_ok base (env.live fn cur) hs hb
    exact (h2 n1).2 w I φ1 a n2 ha Q (hQ.after rfl n3)
  | exit id =>
    intro cur k s r _ h
    exact ⟨.exit id, s, h, fun hb => ⟨hb, fun w I φ a hs ha Q hQ => wp_exit (hQ a w φ I ha rfl hs (Step.refl _ _ _ _ _))⟩⟩
  | label l =>
    intro cur k s r _ h
    exact ⟨.normal, s, h, fun hb => ⟨hb, fun w I φ a hs ha Q hQ => wp_label (hQ a w φ I ha rfl hs (Step.refl _ _ _ _ _))⟩⟩
  | goto l =>
    intro cur k s r _ h
    exact ⟨.goto l, s, h, fun hb => ⟨hb, fun w I φ a hs ha Q hQ => wp_goto (hQ a w φ I ha rfl hs (Step.refl _ _ _ _ _))⟩⟩
  | ret =>
    intro cur k s r _ h
    exact ⟨.ret, s, h, fun hb => ⟨hb, fun w I φ a hs ha Q hQ => wp_ret (hQ a w φ I ha rfl hs (Step.refl _ _ _ _ _))⟩⟩
  | scope x ih =>
    intro cur k s r hok h
    unfold evC1 at h
    obtain ⟨e1, s1, h1, h2⟩ := ih _ _ _ _ hok h
    obtain ⟨e, s', g1, g2⟩ := scope_exit (P := P) (env := env) (fn := fn) hj hok (k := k) (r := r) (x := x) (e1 := e1) (s1 := s1) (by cases e1 <;> exact h1)
    exact ⟨e, s', g1, fun hb => ⟨((g2 (h2 hb).1)).1, fun w I φ a hs ha Q hQ => wpS_scope (wpS_step ((h2 hb).2 w I φ a hs ha _ fun a' w' φ' I' c1 c2 c3 c4 => (g2 (h2 hb).1).2 w' I' φ' a' c3 c1 Q (hQ.after c2 c4)))⟩⟩
  | rangeFunc f p a b => intro cur k s r _ h; simp [evC1] at h
  | refuse why => intro cur k s r _ h; simp [evC1] at h

theorem jumpK_ok (henv : EnvOk P env) (hrun : RunOk P run) (hm : P.follows .mixedOrders = true) : ∀ m, JumpOk P nt base (jumpK env run fn nt n base m) := by
  intro m
  induction m with
  | zero => intro a l k s r _ h; cases h
  | succ m ih =>
    intro a l k s r hok h
    unfold jumpK at h
    cases hf : findLabel a l with
    | none => rw [hf] at h; cases h
    | some rest =>
      rw [hf] at h
      obtain ⟨e1, s1, h1, h2⟩ := evC1_ok henv hrun hm ih rest 0 _ _ _ (okCode_find hok hf) h
      obtain ⟨e, s', g1, g2⟩ := scope_exit (P := P) (env := env) (fn := fn) ih hok (k := k) (r := r) (x := a) (e1 := e1) (s1 := s1) (by cases e1 <;> exact h1)
      exact ⟨rest, e, s', rfl, g1, fun hb => ⟨((g2 (h2 hb).1)).1, fun w I φ a hs ha Q hQ => wpS_step ((h2 hb).2 w I φ a hs ha _ fun a' w' φ' I' c1 c2 c3 c4 => (g2 (h2 hb).1).2 w' I' φ' a' c3 c1 Q (hQ.after c2 c4))⟩⟩

theorem evC_ok (henv : EnvOk P env) (hrun : RunOk P run) (hm : P.follows .mixedOrders = true) {c : Code} {cur : Nat} {k : AX → St → Option R} {s : St} {r : R} (hok : okCode c = true)
    (h : evC env run fn nt n base cur c k s = some r) : ∃ e s', k e s' = some r ∧ Leads (fun Q => c.wp P Q) nt base s e s' :=
  evC1_ok henv hrun hm (jumpK_ok henv hrun hm n) c cur k s r hok h

end
end Go.AM
