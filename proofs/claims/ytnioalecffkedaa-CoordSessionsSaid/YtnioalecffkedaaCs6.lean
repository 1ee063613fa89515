/- coord.Handle at an Open, as a contract for every bureau of up to three Opens. -/
import Derived.Test.YtnioalecffkedaaCs5
import Derived.Test.YtnioalecffkedaaAm32
open Go Go.AM
namespace Go.Proofs.CsE
set_option maxRecDepth 100000
set_option maxHeartbeats 1000000
open Cs

/-! ### what Handle answers, told plainly -/

theorem has_app_ne {w : Int} : ∀ {pre os : List O3}, (∀ a ∈ pre, a.f ≠ w) → has w (pre ++ os) = has w os ∧ del w (pre ++ os) = pre ++ del w os
  | [], os, _ => ⟨rfl, rfl⟩
  | a :: pre, os, h => by
    have h1 := h a (by simp)
    have := has_app_ne (os := os) fun x hx => h x (List.mem_cons_of_mem a hx)
    simp only [List.cons_append, has, del, if_neg h1, this]
    exact ⟨trivial, trivial⟩

theorem findR_step {s f n : Int} (hs : 0 ≤ s ∧ s ≤ 3) : ∀ os pre, (∀ a ∈ pre, a.f ≠ f) →
    findR s f n pre os = ansR (Cs.step s (pre ++ os) f n).1 (Cs.step s (pre ++ os) f n).2.1 f n (Cs.step s (pre ++ os) f n).2.2 := by
  have hw : IntKind.i64.wrap (s + 1) = s + 1 := wrap64 (by omega)
  intro os
  induction os with
  | nil =>
    intro pre hp
    unfold findR
    rw [hw]
    unfold Cs.step
    rw [(has_app_ne hp).1]
    simp only [has, List.append_nil]
    by_cases h : s < 3
    · simp [h]
    · simp [h]
  | cons a r ih =>
    intro pre hp
    unfold findR
    rw [hw]
    by_cases ha : a.f = f
    · have e := has_app_ne (os := a :: r) hp
      unfold Cs.step
      rw [e.1]
      simp only [has, if_pos ha, e.2, del, decide_eq_true ha, cond_true]
      by_cases hn : a.n = n
      · simp [hn]
      · by_cases h : s < 3
        · simp [hn, h]
        · simp [hn, h]
    · rw [decide_eq_false ha, cond_false, ih (pre ++ [a]) (fun x hx => by
        rcases List.mem_append.1 hx with hx | hx
        · exact hp x hx
        · simp at hx; subst hx; exact ha)]
      simp

theorem envN_ok : EnvOk Try.prog envN := ⟨tt_ok rfl, fun f args A h => by cases h⟩
theorem envN_code : CodeOk Try.prog envN := codeOf_ok rfl
theorem mixed : Try.prog.follows .mixedOrders = true := by kernel_rfl

theorem bur_sub {s : Int} {o o' : AV} (h : SubV o o') : SubV (.agg (burC s o)) (.agg (burC s o')) :=
  .agg (.cons (.refl _) (.cons (.refl _) (.cons (.refl _) (.cons (.refl _) (.cons (.refl _) (.cons h (.cons (.refl _) .nil)))))))

theorem han0n (s f n : Int) : callT envN 40 8 [.agg (burC s .nils), conf1, .agg (msgC f n)] =
    bif decide (s < 3) then ansR (IntKind.i64.wrap (s + 1)) [⟨f, n, IntKind.i64.wrap (s + 1)⟩] f n (IntKind.i64.wrap (s + 1)) else some (.tup [.agg (burC s .nils), .trl 31 [rep f n 0]]) := by kernel_rfl

def outT (x : HX) : AV := .tup [.agg (burC (stp x).1 (.trl 31 ((stp x).2.1.map encO))), .trl 31 [rep x.2.2.1 x.2.2.2 (stp x).2.2]]

theorem outT_sub (x : HX) : SubV (outT x) (outH x) := .tup (.cons (bur_sub (.trl_encL _)) (.cons (.refl _) .nil))

theorem han_trl {x : HX} (h : preH x) : Contract Try.prog 8 [.agg (burC x.1 (.trl 31 (x.2.1.map encO))), conf1, .agg (msgC x.2.2.1 x.2.2.2)] [] (outT x) [] := by
  obtain ⟨s, os, f, n⟩ := x
  obtain ⟨h1, h2, h3⟩ := h
  simp only at h1 h2 h3
  have key : callT envN 40 8 [.agg (burC s (.trl 31 (os.map encO))), conf1, .agg (msgC f n)] = findR s f n [] os := by
    match os, h3 with
    | [], _ => exact han0 s f n
    | [a], _ => exact han1 s f n a
    | [a, b], _ => exact han2 s f n a b
    | [a, b, c], _ => exact han3 s f n a b c
    | _ :: _ :: _ :: _ :: _, h => simp at h
  rw [findR_step ⟨h1, h2⟩ os [] (by simp)] at key
  exact callT_ok envN_ok envN_code mixed key

theorem han_nil {s f n : Int} (h1 : 0 ≤ s) (h2 : s ≤ 3) : Contract Try.prog 8 [.agg (burC s .nils), conf1, .agg (msgC f n)] [] (outH (s, [], f, n)) [] := by
  have hw : IntKind.i64.wrap (s + 1) = s + 1 := wrap64 (by omega)
  have key := han0n s f n
  rw [hw] at key
  by_cases h : s < 3
  · rw [decide_eq_true h, cond_true] at key
    have := callT_ok envN_ok envN_code mixed key
    refine Contract.res this ?_
    have e : stp (s, [], f, n) = (s + 1, [⟨f, n, s + 1⟩], s + 1) := by simp [stp, Cs.step, has, h]
    have := outT_sub (s, [], f, n)
    unfold outT at this
    rw [e] at this
    exact this
  · rw [decide_eq_false h, cond_false] at key
    have := callT_ok envN_ok envN_code mixed key
    refine Contract.res this ?_
    have e : stp (s, [], f, n) = (s, [], 0) := by simp [stp, Cs.step, has, h]
    show SubV _ (.tup [.agg (burC (stp (s, [], f, n)).1 (encL 31 encO z0 (stp (s, [], f, n)).2.1)), .trl 31 [rep f n (stp (s, [], f, n)).2.2]])
    rw [e]
    exact .tup (.cons (bur_sub .nils) (.cons (.refl _) .nil))

theorem hand (x : HX) (h : preH x) : Contract Try.prog 8 (encH x) [] (outH x) [] := by
  obtain ⟨s, os, f, n⟩ := x
  cases os with
  | nil =>
    refine Contract.split (args1 := [.agg (burC s .nils), conf1, .agg (msgC f n)]) (args2 := [.agg (burC s (.trl 31 [])), conf1, .agg (msgC f n)])
      (OrC.of [] _ (.agg (OrC.of [.int .i64 s, .int .i64 0, .trl 8 [sh0], .nils, .trl 4 [wk0]] [.nils] .nil))) (han_nil h.1 h.2.1) ?_
    exact (han_trl h).res (outT_sub _)
  | cons a r =>
    refine ((han_trl h).res (outT_sub _)).args (.cons (bur_sub (SubV.encL_trl _ (by simp))) (.refl _))

theorem kns_ok : ∀ k ∈ kns, k.Ok Try.prog := by
  intro k hk
  simp only [kns, List.mem_cons, List.not_mem_nil, or_false] at hk
  rcases hk with rfl | rfl | rfl | rfl | rfl
  · exact Known.one_ok (callT_ok envN_ok envN_code mixed aw)
  · exact Known.one_ok (callT_ok envN_ok envN_code mixed conf_run)
  · exact Known.one_ok (callT_ok envN_ok envN_code mixed new_run)
  · exact Known.one_ok ((callT_ok envN_ok envN_code mixed open_run).res (bur_sub .nils))
  · exact Known.spec_ok hand

theorem envL_ok : EnvOk Try.prog envL := ⟨tt_ok rfl, orc_ok kns_ok⟩
theorem envL_code : CodeOk Try.prog envL := codeOf_ok rfl
end Go.Proofs.CsE
