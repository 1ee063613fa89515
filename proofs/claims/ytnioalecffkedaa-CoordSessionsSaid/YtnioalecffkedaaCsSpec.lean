/- CoordSessions: what the coordinator makes of Opens, by plain numbers: each who and number has a session that nobody else has. -/
namespace Cs

/-- an Open that was answered: who, its number, its session -/
structure O3 where
  f : Int
  n : Int
  s : Int

def has (w : Int) : List O3 → Option O3
  | [] => none
  | o :: r => if o.f = w then some o else has w r

def del (w : Int) : List O3 → List O3
  | [] => []
  | o :: r => if o.f = w then r else o :: del w r

/-- the state behind an Open, and the session that is answered -/
def step (sess : Int) (os : List O3) (w n : Int) : Int × List O3 × Int :=
  match has w os with
  | some o => if o.n = n then (sess, os, o.s) else if sess < 3 then (sess + 1, del w os ++ [⟨w, n, sess + 1⟩], sess + 1) else (sess, os, 0)
  | none => if sess < 3 then (sess + 1, os ++ [⟨w, n, sess + 1⟩], sess + 1) else (sess, os, 0)

structure Inv (sess : Int) (os : List O3) (g : Int → Int → Int) : Prop where
  lo : 0 ≤ sess
  hi : sess ≤ 3
  len : (os.length : Int) ≤ sess
  rng : ∀ o ∈ os, 100 ≤ o.f ∧ o.f ≤ 103 ∧ 0 ≤ o.n ∧ o.n ≤ 3 ∧ 1 ≤ o.s ∧ o.s ≤ sess
  dis : os.Pairwise fun a b => a.f ≠ b.f
  got : ∀ o ∈ os, g (o.f - 100) o.n = o.s
  inj : ∀ x y x' y', 0 < g x y → g x y = g x' y' → x = x' ∧ y = y'
  top : ∀ x y, 0 ≤ g x y ∧ g x y ≤ sess

def put (g : Int → Int → Int) (w n s : Int) : Int → Int → Int := fun x y => if x = w ∧ y = n then s else g x y

theorem has_mem {w : Int} {o : O3} : ∀ {os : List O3}, has w os = some o → o ∈ os ∧ o.f = w
  | [], h => by cases h
  | a :: r, h => by
    unfold has at h
    split at h
    · rename_i e; cases h; exact ⟨by simp, e⟩
    · obtain ⟨h1, h2⟩ := has_mem h; exact ⟨by simp [h1], h2⟩

theorem has_none {w : Int} : ∀ {os : List O3}, has w os = none → ∀ o ∈ os, o.f ≠ w
  | [], _, o, h => by simp at h
  | a :: r, h, o, hm => by
    unfold has at h
    split at h
    · cases h
    · rename_i e
      rcases List.mem_cons.1 hm with rfl | hm
      · exact e
      · exact has_none h o hm

theorem del_mem {w : Int} {o : O3} : ∀ {os : List O3}, o ∈ del w os → o ∈ os
  | [], h => by simp [del] at h
  | a :: r, h => by
    unfold del at h
    split at h
    · simp [h]
    · rcases List.mem_cons.1 h with rfl | h
      · simp
      · simp [del_mem h]

theorem del_ne {w : Int} {o : O3} : ∀ {os : List O3}, os.Pairwise (fun a b => a.f ≠ b.f) → o ∈ del w os → o.f ≠ w
  | [], _, h => by simp [del] at h
  | a :: r, hp, h => by
    obtain ⟨h1, h2⟩ := List.pairwise_cons.1 hp
    unfold del at h
    split at h
    · rename_i e; exact fun e' => h1 o h (e.trans e'.symm)
    · rename_i e
      rcases List.mem_cons.1 h with rfl | h
      · exact e
      · exact del_ne h2 h

theorem del_pair {w : Int} : ∀ {os : List O3}, os.Pairwise (fun a b => a.f ≠ b.f) → (del w os).Pairwise (fun a b => a.f ≠ b.f)
  | [], _ => by simp [del]
  | a :: r, hp => by
    obtain ⟨h1, h2⟩ := List.pairwise_cons.1 hp
    unfold del
    split
    · exact h2
    · exact List.pairwise_cons.2 ⟨fun o ho => h1 o (del_mem ho), del_pair h2⟩

theorem del_len {w : Int} {o : O3} : ∀ {os : List O3}, has w os = some o → (del w os).length + 1 = os.length
  | [], h => by cases h
  | a :: r, h => by
    unfold has at h
    unfold del
    split at h
    · rename_i e; rw [if_pos e]; rfl
    · rename_i e; rw [if_neg e]; simp [← del_len h]

theorem has_app {w : Int} {l : List O3} {o : O3} (h : ∀ x ∈ l, x.f ≠ w) (ho : o.f = w) : has w (l ++ [o]) = some o := by
  induction l with
  | nil => simp [has, ho]
  | cons a r ih =>
    have := h a (by simp)
    simp only [List.cons_append, has, if_neg this]
    exact ih fun x hx => h x (by simp [hx])

/-- a new session -/
theorem grant {sess : Int} {l : List O3} {g : Int → Int → Int} {w n : Int} {os : List O3} (h : Inv sess os g) (hs : sess < 3) (hw : 0 ≤ w ∧ w ≤ 3) (hn : 0 ≤ n ∧ n ≤ 3)
    (hsub : ∀ o ∈ l, o ∈ os) (hne : ∀ o ∈ l, o.f ≠ 100 + w) (hp : l.Pairwise fun a b => a.f ≠ b.f) (hlen : l.length ≤ os.length) :
    Inv (sess + 1) (l ++ [⟨100 + w, n, sess + 1⟩]) (put g w n (sess + 1)) := by
  have hlo := h.lo
  refine ⟨by omega, by omega, by simp; have := h.len; omega, fun o ho => ?_, ?_, fun o ho => ?_, fun x y x' y' hpos he => ?_, fun x y => ?_⟩
  · rcases List.mem_append.1 ho with ho | ho
    · have := h.rng o (hsub o ho); omega
    · simp at ho; subst ho; simp; omega
  · refine List.pairwise_append.2 ⟨hp, by simp, fun a ha b hb => ?_⟩
    simp at hb; subst hb; exact hne a ha
  · unfold put
    rcases List.mem_append.1 ho with ho | ho
    · have h1 := hne o ho
      rw [if_neg (by omega)]
      exact h.got o (hsub o ho)
    · simp at ho; subst ho
      rw [if_pos ⟨by simp; omega, rfl⟩]
  · unfold put at hpos he
    have t1 := h.top x y
    have t2 := h.top x' y'
    by_cases c1 : x = w ∧ y = n <;> by_cases c2 : x' = w ∧ y' = n
    · exact ⟨c1.1.trans c2.1.symm, c1.2.trans c2.2.symm⟩
    · rw [if_pos c1, if_neg c2] at he; omega
    · rw [if_neg c1, if_pos c2] at he; omega
    · rw [if_neg c1] at hpos he; rw [if_neg c2] at he; exact h.inj x y x' y' hpos he
  · unfold put
    have := h.top x y
    split <;> omega

theorem none_left {sess : Int} {os : List O3} {g : Int → Int → Int} {w n : Int} (h : Inv sess os g) (hno : ∀ o ∈ os, ¬ (o.f = 100 + w ∧ o.n = n)) : Inv sess os (put g w n 0) := by
  have hlo := h.lo
  refine ⟨h.lo, h.hi, h.len, h.rng, h.dis, fun o ho => ?_, fun x y x' y' hpos he => ?_, fun x y => ?_⟩
  · have := hno o ho
    unfold put
    rw [if_neg (by intro c; exact this ⟨by omega, c.2⟩)]
    exact h.got o ho
  · unfold put at hpos he
    by_cases c1 : x = w ∧ y = n
    · rw [if_pos c1] at hpos; omega
    · rw [if_neg c1] at hpos he
      by_cases c2 : x' = w ∧ y' = n
      · rw [if_pos c2] at he; omega
      · rw [if_neg c2] at he; exact h.inj x y x' y' hpos he
  · unfold put
    have := h.top x y
    split <;> omega

theorem put_same {g : Int → Int → Int} {w n s : Int} (h : g w n = s) : put g w n s = g := by
  funext x y
  unfold put
  split
  · rename_i c; rw [c.1, c.2, h]
  · rfl

/-- what a step keeps, and what the law asks of its answer -/
theorem step_ok {sess : Int} {os : List O3} {g : Int → Int → Int} {w n : Int} (h : Inv sess os g) (hw : 0 ≤ w ∧ w ≤ 3) (hn : 0 ≤ n ∧ n ≤ 3) :
    let r := step sess os (100 + w) n
    Inv r.1 r.2.1 (put g w n r.2.2) ∧ 0 ≤ r.2.2 ∧ r.2.2 ≤ 3 ∧ (∀ x y, 0 < r.2.2 → g x y = r.2.2 → x = w ∧ y = n) ∧
      (0 < r.2.2 → (step r.1 r.2.1 (100 + w) n).2.2 = r.2.2 ∧ (step r.1 r.2.1 (100 + w) n).1 = r.1) := by
  have hlo := h.lo
  have hhi := h.hi
  intro r
  have hr : r = step sess os (100 + w) n := rfl
  unfold step at hr
  cases hh : has (100 + w) os with
  | none =>
    rw [hh] at hr
    have hno := has_none hh
    by_cases hs : sess < 3
    · simp only [if_pos hs] at hr
      rw [hr]
      refine ⟨grant h hs hw hn (fun o ho => ho) hno h.dis (Nat.le_refl _), by simp; omega, by simp; omega, fun x y _ he => ?_, fun _ => ?_⟩
      · have := h.top x y; simp at he; omega
      · have := has_app (l := os) (o := ⟨100 + w, n, sess + 1⟩) hno rfl
        simp [step, this]
    · simp only [if_neg hs] at hr
      rw [hr]
      refine ⟨none_left h fun o ho c => hno o ho c.1, by simp, by simp, fun x y hp => by simp at hp, fun hp => by simp at hp⟩
  | some o =>
    rw [hh] at hr
    obtain ⟨hm, hf⟩ := has_mem hh
    have hrng := h.rng o hm
    by_cases hnn : o.n = n
    · simp only [if_pos hnn] at hr
      rw [hr]
      have hg : g w n = o.s := by have := h.got o hm; rw [hf, hnn, show 100 + w - 100 = w by omega] at this; exact this
      refine ⟨by simp only; rw [put_same hg]; exact h, by simp; omega, by simp; omega, fun x y hp he => ?_, fun _ => ?_⟩
      · simp at hp he
        exact h.inj x y w n (by omega) (by omega)
      · simp [step, hh, hnn]
    · simp only [if_neg hnn] at hr
      by_cases hs : sess < 3
      · simp only [if_pos hs] at hr
        rw [hr]
        have hne : ∀ x ∈ del (100 + w) os, x.f ≠ 100 + w := fun x hx => del_ne h.dis hx
        refine ⟨grant h hs hw hn (fun o ho => del_mem ho) hne (del_pair h.dis) (by have := del_len hh; omega), by simp; omega, by simp; omega, fun x y _ he => ?_, fun _ => ?_⟩
        · have := h.top x y; simp at he; omega
        · have := has_app (l := del (100 + w) os) (o := ⟨100 + w, n, sess + 1⟩) hne rfl
          simp [step, this]
      · simp only [if_neg hs] at hr
        rw [hr]
        refine ⟨none_left h fun o' ho' c => ?_, by simp, by simp, fun x y hp => by simp at hp, fun hp => by simp at hp⟩
        -- the only one of that name has another number
        have : ∀ {os : List O3}, has (100 + w) os = some o → os.Pairwise (fun a b => a.f ≠ b.f) → ∀ o' ∈ os, o'.f = 100 + w → o' = o := by
          intro os
          induction os with
          | nil => intro h; cases h
          | cons a r ih =>
            intro h hp o' ho' hf'
            obtain ⟨h1, h2⟩ := List.pairwise_cons.1 hp
            unfold has at h
            split at h
            · rename_i e; cases h
              rcases List.mem_cons.1 ho' with rfl | ho'
              · rfl
              · exact (h1 o' ho' (e.trans hf'.symm)).elim
            · rename_i e
              rcases List.mem_cons.1 ho' with rfl | ho'
              · exact (e hf').elim
              · exact ih h h2 o' ho' hf'
        have := this hh h.dis o' ho' c.1
        subst this
        exact hnn c.2

end Cs
