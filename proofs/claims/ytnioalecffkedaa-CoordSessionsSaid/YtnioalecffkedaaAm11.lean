/- Conversions; slices of slices and strings. -/
import Derived.Test.YtnioalecffkedaaAm10
set_option linter.unusedVariables false
set_option linter.unusedSimpArgs false
namespace Go.AM

variable {R : Type}

theorem byteOf_some {c : List AV} {b : UInt8} (h : byteOf c = some b) : ∃ n : Int, c = [.int .u8 n] ∧ b = UInt8.ofNat n.toNat := by
  unfold byteOf at h
  split at h
  · cases h; exact ⟨_, rfl, rfl⟩
  · cases h

theorem bytesOfL_some : ∀ {es : List (List AV)} {l : List UInt8}, bytesOfL es = some l → ∃ ns : List Int, es = ns.map (fun n => [.int .u8 n]) ∧ l = ns.map fun n => UInt8.ofNat n.toNat
  | [], l, h => by cases h; exact ⟨[], rfl, rfl⟩
  | c :: r, l, h => by
    simp only [bytesOfL] at h
    split at h
    · rename_i b l' hb hl
      cases h
      obtain ⟨n, h1, h2⟩ := byteOf_some hb
      obtain ⟨ns, h3, h4⟩ := bytesOfL_some hl
      exact ⟨n :: ns, by simp [h1, h3], by simp [h2, h4]⟩
    · cases h

section
variable {P : Program} {tt : TT} {ρ : Operand → AV} {rd : Nat → BS} {nx : Nat} {k : AopK R} {r : R} {o : Oper}

theorem run_pushBytes (w : World) (g : Value → ByteArray → Sem (ForInStep ByteArray)) (hg : ∀ (n : Int) s, g (.int .u8 n) s = pure (ForInStep.yield (s.push (UInt8.ofNat n.toNat)))) :
    ∀ (ns : List Int) (s : ByteArray), (forIn (ns.map fun n => Value.int .u8 n) s g : Sem ByteArray).run P w = .ok ⟨(s.data.toList ++ ns.map fun n => UInt8.ofNat n.toNat).toArray⟩ w
  | [], s => by simp
  | n :: ns, s => by
    have ih := run_pushBytes w g hg ns (s.push (UInt8.ofNat n.toNat))
    simp only [List.map_cons, List.forIn_cons, Sem.run_bind, Sem.run_pure, Result.andThen_ok, hg]
    rw [ih]
    congr 2
    simp [ByteArray.push]

theorem flat_bytes {w : World} {I : Nat → Prop} {φ : Phi} {n : Nat} {f : Nat → List AV} {vs : Array Value} (h : Flat w I φ 1 n f vs) {ns : List Int} (hn : ns.length = n)
    (hf : ∀ i x, ns[i]? = some x → f i = [.int .u8 x]) : vs = (ns.map fun x => Value.int .u8 x).toArray := by
  apply Array.ext'
  simp only
  apply List.ext_getElem?
  intro i
  by_cases hi : i < n
  · have h1 : i < vs.size := by rw [h.size]; omega
    have h2 : i < ns.length := by omega
    rw [Array.getElem?_toList, Array.getElem?_eq_getElem h1, List.getElem?_map, List.getElem?_eq_getElem h2]
    have := h.val i 0 (.int .u8 ns[i]) vs[i] hi (by rw [hf i _ (List.getElem?_eq_getElem h2)]; rfl) (by simp [h1])
    generalize vs[i] = u at this
    cases this
    rfl
  · have h1 : vs.size ≤ i := by rw [h.size]; omega
    rw [Array.getElem?_toList, Array.getElem?_eq_none h1, List.getElem?_eq_none (by simp; omega)]

theorem aop_convert (htt : TTok P tt) (hnx : rd nx = .none) {src dst : TypeId} {x : Operand} (ho : o.op = .convert src dst x) (h : aopK tt ρ rd nx (.convert src dst x) k = some r) : Good P o ρ rd k r := by
  simp only [aopK] at h
  have hm : x ∈ o.op.operands := by simp [ho, Op.operands]
  obtain ⟨ts, hts, h⟩ := onK_some h
  obtain ⟨td, htd, h⟩ := onK_some h
  have hs := run_underlying (htt src ts hts)
  have hd := run_underlying (htt dst td htd)
  split at h
  · rename_i kd k0 n hdd hx0
    refine Good.pure h fun ρr w φ I hx => ?_
    have hp := hx x hm
    rw [hx0] at hp
    generalize hu : ρr x = u at hp
    cases hp
    refine ⟨_, ?_, .int _ _⟩
    simp only [execOp, ho, hu, convert, Sem.run_bind, hs, hd, hdd, Result.andThen_ok, Conv.intToInt, Sem.run_pure]
  · rename_i kd k0 n hdd hx0
    refine Good.pure h fun ρr w φ I hx => ?_
    have hp := hx x hm
    rw [hx0] at hp
    generalize hu : ρr x = u at hp
    cases hp
    refine ⟨_, ?_, .flt _ _⟩
    simp only [execOp, ho, hu, convert, Sem.run_bind, hs, hd, hdd, Result.andThen_ok, Conv.intToFloat, Sem.run_pure]
  · rename_i kd k0 b hdd hx0
    split at h
    · rename_i n hn
      obtain ⟨hr, h⟩ := cond_some h
      obtain ⟨h1, h2⟩ := and_true' hr
      have h1 := of_decide_eq_true h1
      have h2 := of_decide_eq_true h2
      refine Good.pure h fun ρr w φ I hx => ?_
      have hp := hx x hm
      rw [hx0] at hp
      generalize hu : ρr x = u at hp
      cases hp
      refine ⟨_, ?_, .int _ _⟩
      simp only [execOp, ho, hu, convert, Sem.run_bind, hs, hd, hdd, Result.andThen_ok, Conv.floatToInt, hn, h1, h2, and_self, if_true, Sem.run_pure]
    · cases h
  · rename_i kd k0 a b hdd hx0
    obtain ⟨hk, h2⟩ := cond_some h
    clear h
    cases fkindEq_iff hk
    refine Good.pure h2 fun ρr w φ I hx => ?_
    have hp := hx x hm
    rw [hx0] at hp
    generalize hu : ρr x = u at hp
    cases hp
    refine ⟨_, ?_, .cplx _ _ _⟩
    simp only [execOp, ho, hu, convert, Sem.run_bind, hs, hd, hdd, Result.andThen_ok, Conv.complexToComplex, Conv.floatToFloat, if_true, Sem.run_pure]
  · rename_i l hdd hx0
    refine Good.pure h fun ρr w φ I hx => ?_
    have hp := hx x hm
    rw [hx0] at hp
    generalize hu : ρr x = u at hp
    cases hp with
    | str s _ hl =>
      refine ⟨.string s, ?_, .str s l hl⟩
      simp only [execOp, ho, hu, convert, Sem.run_bind, hs, hd, hdd, Result.andThen_ok, Sem.run_pure]
  · rename_i e l hdd hx0
    obtain ⟨te, hte, h⟩ := onK_some h
    split at h
    · rename_i hde
      refine ⟨_, _, _, h, fun rd' ρr w φ I _ hwr hh hx => ?_⟩
      have hn : rd' nx = .none := (hwr _ List.mem_cons_self).trans hnx
      have hp := hx x hm
      rw [hx0] at hp
      generalize hu : ρr x = u at hp
      cases hp with
      | str s _ hl =>
        subst hl
        have hdr := hh.drew 0
        have hhd := hdr.1
        generalize hcap : (Question.appendCap s.size 0 e).cut (w.tape w.drawn (.appendCap s.size 0 e)) = cap
        have hcapge : s.size ≤ cap := by rw [← hcap]; simp [Question.cut]
        let rest : Array Value := Array.replicate (cap - s.size) (.int .u8 0)
        let vs : Array Value := s.data.map fun b => .int .u8 b.toNat
        have hvs : vs.size = s.size := by simp [vs]
        have hsz : (vs ++ rest).size = cap := by simp [rest, hvs]; omega
        have hfl : Flat w.drew I (wphi φ (.list (s.data.toList.map fun b => [.int .u8 b.toNat]))) 1 s.size (View.at (.list (s.data.toList.map fun b => [.int .u8 b.toNat]))) vs := by
          have hf : Flat w.drew I φ 1 s.size _ vs := (str_flat w.drew I s).mono (fun B hB => ⟨hB, rfl⟩) (fun _ => Nat.le_refl _) (Phi.no_le φ)
          refine ⟨hf.size, hf.one, fun i hi => ?_, fun i k c u hi hc e => ?_⟩
          · have : i < s.data.toList.length := hi
            simp only [View.at, List.getD, List.getElem?_map, List.getElem?_eq_getElem this]
            rfl
          · refine hf.val i k c u hi ?_ e
            have : i < s.data.toList.length := hi
            simp only [View.at, List.getD, List.getElem?_map, List.getElem?_eq_getElem this] at hc ⊢
            exact hc
        have le := Phi.le_set (hh.none nx hn) (w.heap.size, 0, 1)
        have hrb := RB.of_flat (φ' := φ.set nx (w.heap.size, 0, 1)) (rest := rest) (v := .list (s.data.toList.map fun b => [.int .u8 b.toNat])) (by
            have e1 : View.len (.list (s.data.toList.map fun b => [.int .u8 b.toNat])) = s.size := by simp [View.len]
            rw [e1]; exact hfl) hhd.lt le e (cap, cap + 1) (fun q hq => by rw [hsz] at hq; omega)
        have hal := hhd.alloc hn (.cells (vs ++ rest) e (cap, cap + 1)) _ 1 rfl hrb
        refine ⟨.slice (some ⟨w.heap.size, 0, none⟩) s.size cap, w.drew.alloc (.cells (vs ++ rest) e (cap, cap + 1)), _, I, .inl ?_, ?_, (hal 0).1, fun base => ((hh.drew base).2).trans (hal base).2.1, (hal 0).2.2⟩
        · have hfz : ((w.drew.alloc (.cells (vs ++ rest) e)).freeze ⟨w.heap.size, cap, none⟩ 1) = w.drew.alloc (.cells (vs ++ rest) e (cap, cap + 1)) := by
            have : w.drew.heap.size = w.heap.size := rfl
            simp only [World.freeze, World.alloc, Nat.one_ne_zero, if_false]
            congr 1
            apply Array.ext_getElem?
            intro j
            rw [Array.getElem?_modify]
            by_cases hj : w.heap.size = j
            · subst hj
              rw [if_pos rfl, ← this, Array.getElem?_push, if_pos rfl, Array.getElem?_push, if_pos rfl]
              simp
            · rw [if_neg hj, Array.getElem?_push, Array.getElem?_push]
              simp only [this]
              rw [if_neg (fun e => hj e.symm), if_neg (fun e => hj e.symm)]
          have hsh : (w.drew.alloc (.cells (vs ++ rest) e)).shape? w.heap.size = some (e, cap) := by
            have : (w.drew.alloc (.cells (vs ++ rest) e)).heap[w.heap.size]? = some (.cells (vs ++ rest) e) := alloc_new w.drew _
            unfold World.shape?
            rw [this]
            simp only [hsz]
          have hch : (choose (.appendCap s.size 0 e)).run P w = .ok cap w.drew := by
            rw [run_choose]; simp [Question.forced, hcap]
          simp only [execOp, ho, hu, convert, Sem.run_bind, hs, hd, hdd, Result.andThen_ok, run_underlying (htt e te hte), hde, Conv.stringToBytes, hch, newRow, run_newObj, Sem.run_pure, markStringish, run_shape]
          have hal' : ({ w.drew with heap := w.drew.heap.push (.cells (s.data.map (fun b => Value.int .u8 b.toNat) ++ Array.replicate (cap - s.size) (.int .u8 0)) e) } : World) = w.drew.alloc (.cells (vs ++ rest) e) := rfl
          rw [hal']
          have hsz' : w.drew.heap.size = w.heap.size := rfl
          rw [hsz', hsh]
          simp only [run_freeze, hfz, Result.andThen_ok, Sem.run_pure]
        · refine .sl 1 nx w.heap.size 0 0 _ _ cap 0 (Phi.set_same _ _ _) (by omega) (Nat.le_refl _) ?_ ?_
          · have : s.data.toList.length = s.size := rfl
            simp; exact hcapge
          · have : csize (w.drew.alloc (.cells (vs ++ rest) e (cap, cap + 1))) w.heap.size = cap := by
              unfold csize
              have : (w.drew.alloc (.cells (vs ++ rest) e (cap, cap + 1))).heap[w.heap.size]? = some (.cells (vs ++ rest) e (cap, cap + 1)) := alloc_new w.drew _
              rw [this]; exact hsz
            rw [this]; omega
    · cases h
  · have hdd : td.desc = .string := by assumption
    split at h
    · rename_i e hsd
      obtain ⟨te, hte, h⟩ := onK_some h
      split at h
      · rename_i hde
        have key : ∃ vw l, (ρ x).view rd 1 = some vw ∧ (∃ ns : List Int, ns.length = vw.len ∧ (∀ i y, ns[i]? = some y → vw.at i = [.int .u8 y]) ∧ l = ns.map fun n => UInt8.ofNat n.toNat) ∧
            k (.str l) [] (ρ x).viewIds = some r ∧ (∀ s, ρ x ≠ .str s) := by
          split at h
          · cases h
          · rename_i hnstr
            split at h
            · rename_i es hv
              obtain ⟨l, hl, h⟩ := onK_some h
              obtain ⟨ns, h1, h2⟩ := bytesOfL_some hl
              exact ⟨_, l, hv, ⟨ns, by simp [View.len, h1], fun i y e => by simp [View.at, List.getD, h1, e], h2⟩, h, hnstr⟩
            · rename_i n f hv
              obtain ⟨l, hl, h⟩ := onK_some h
              obtain ⟨ns, h1, h2⟩ := bytesOfL_some hl
              have hlen : ns.length = n := by have := congrArg List.length h1; simpa using this.symm
              refine ⟨_, l, hv, ⟨ns, hlen, fun i y e => ?_, h2⟩, h, hnstr⟩
              have hi : i < n := by
                rcases Nat.lt_or_ge i ns.length with h' | h'
                · omega
                · rw [List.getElem?_eq_none h'] at e; cases e
              have := congrArg (fun l => l[i]?) h1
              simp only [List.getElem?_map, List.getElem?_range hi, Option.map_some, e, Option.some.injEq] at this
              exact this
            · cases h
        obtain ⟨vw, l, hv, ⟨ns, hlen, hns, hl⟩, hk, hnstr⟩ := key
        refine ⟨_, [], _, hk, fun rd' ρr w φ I hrd _ hh hx => ?_⟩
        have hp := hx x hm
        have hv' : (ρ x).view rd' 1 = some vw := by
          rw [← hv]
          generalize ρ x = a at hrd
          cases a with
          | sl s b off len cm =>
            simp only [AV.view]
            cases hz : Nat.beq len 0 with
            | true => rfl
            | false => rw [hrd b (by simp [AV.viewIds, hz])]
          | _ => rfl
        have hrun : (execOp ρr o).run P w = ((Conv.bytesToString (ρr x)).run P w).andThen (fun v w' => .ok (.value v) w') := by
          rcases view_ok hh hv' hp with ⟨s, e1, _⟩ | ⟨B, q, cap, e1, _⟩ | ⟨a, n, cap, e1, _⟩
          · exfalso
            rw [e1] at hp
            generalize hra : ρ x = ra at hp
            cases hp with
            | undef => rw [hra] at hv; cases hv
            | str => exact hnstr _ hra
            | trl _ _ _ h => generalize hn : List.length _ = n at h; generalize (fun i => List.getD _ i _) = f at h; cases h
          · rw [e1]
            simp only [execOp, ho, e1, convert, Sem.run_bind, hs, hd, hdd, hsd, Result.andThen_ok, run_underlying (htt e te hte), hde, Sem.run_pure]
          · rw [e1]
            simp only [execOp, ho, e1, convert, Sem.run_bind, hs, hd, hdd, hsd, Result.andThen_ok, run_underlying (htt e te hte), hde, Sem.run_pure]
        have hb : (Conv.bytesToString (ρr x)).run P w = .ok (.string ⟨l.toArray⟩) w := by
          rcases view_ok hh hv' hp with ⟨s, e1, _⟩ | ⟨B, q, cap, e1, hr⟩ | ⟨a, n, cap, e1, h0, hn0⟩
          · exfalso
            rw [e1] at hp
            generalize hra : ρ x = ra at hp
            cases hp with
            | undef => rw [hra] at hv; cases hv
            | str => exact hnstr _ hra
            | trl _ _ _ h => generalize hn : List.length _ = n at h; generalize (fun i => List.getD _ i _) = f at h; cases h
          · obtain ⟨us, hul, huc, huf⟩ := vrow_cells hr
            have hus := flat_bytes huf hlen hns
            have hld : (loadCells ⟨B, q, none⟩ vw.len).run P w = .ok us.toArray w := by
              have := run_loadCells_of (P := P) us hul huc
              rwa [Nat.mul_one] at this
            rw [e1]
            simp only [Conv.bytesToString, Sem.run_bind, hld, Result.andThen_ok]
            rw [hus]
            rw [← Array.forIn_toList]
            simp only [List.toList_toArray]
            rw [run_pushBytes (P := P) w _ (fun n s => rfl) ns ByteArray.empty]
            simp [hl]
          · have : ns = [] := by cases ns with
              | nil => rfl
              | cons a b => simp at hlen; omega
            subst this
            rw [e1, hn0, hl]
            cases a with
            | none => rfl
            | some a => simp [Conv.bytesToString, loadCells, loadCellsFrom]; rfl
        refine OpOk.pure (u := .string ⟨l.toArray⟩) hh ?_ (.str _ _ (by simp))
        rw [hrun, hb]
        rfl
      · cases h
    · cases h
  · cases h

end
end Go.AM
