/- Part 2 of the texts that the proof needs: the abstract machine, plain laws, contracts of the program's functions. No statement is claimed here. -/
import Derived.Test.YtjhfgaadinklhaaGreatPart1
import Derived.Calls
import Derived.Tactics
import Derived.Orders
import Derived.Scope
import Derived.Deep.Slices
import Derived.Carry
import Derived.ChangeSame
import Derived.Test.YtjhfgaadinklhaaGreatProg
import Derived.KernelRfl
set_option linter.unusedVariables false
set_option linter.unusedSimpArgs false
noncomputable section
set_option linter.unusedVariables false
set_option linter.unusedSimpArgs false
namespace Go.AM
variable {R:Type}
section
variable {P:Program} {tt:TT} {ρ:Operand->AV} {rd:Nat->BS} {nx:Nat} {k:AopK R} {r:R} {o:Oper} {c:Call} {b:Builtin}
theorem exec_builtin(ho:o.op=.call c)(hc:c.callee=.builtin b)(ρr:Operand->Value)(w:World) :
  ∃ consts,(execOp ρr o).run P w=(builtin b c.argTypes o.type consts (c.args.map ρr)).run P w:=by
 refine⟨c.args.map fun | .const _=>true | _=>false,?_⟩
 simp only[execOp,ho,resolve,hc,Sem.run_bind,Sem.run_pure,Result.andThen_ok,invoke]
 rfl
theorem args1{x:AV}(h:c.args.toList.map ρ=[x]):∃ a,c.args = #[a]/\ρ a=x:=by
 cases ha:c.args.toList with
 | nil=>rw[ha]at h;cases h
 | cons a l=>
  rw[ha]at h
  cases l with
  | nil=>simp at h;exact⟨a,by rw[<- ha],h⟩
  | cons b l=>simp at h
theorem args2{x y:AV}(h:c.args.toList.map ρ=[x,y]):∃ a b,c.args = #[a,b]/\ρ a=x/\ρ b=y:=by
 cases ha:c.args.toList with
 | nil=>rw[ha]at h;cases h
 | cons a l=>
  rw[ha]at h
  cases l with
  | nil=>simp at h
  | cons b l=>
   cases l with
   | nil=>simp at h;exact⟨a,b,by rw[<- ha],h.1,h.2⟩
   | cons d l=>simp at h
theorem ablen_ok(htt:TTok P tt)(ho:o.op=.call c)(hc:c.callee=.builtin .len){x:AV}{t:TypeId}(hargs:c.args.toList.map ρ=[x])(hts:c.argTypes.toList=[t])
  (h:abuiltK tt rd nx .len [t] [x] k=some r):Good P o ρ rd k r:=by
 simp only[abuiltK]at h
 obtain⟨ti,hti,h⟩:=onK_some h
 obtain⟨a,ha,hax⟩:=args1 hargs
 have hm:a ∈ o.op.operands:=by simp[ho,Op.operands,Call.operands,hc,ha]
 have ht0:c.argTypes[0]? = some t:=by rw[<- Array.getElem?_toList,hts];rfl
 have hex:∀ (ρr:Operand->Value) (w:World) (u:Value),(Builtin.len_ c.argTypes o.type #[ρr a]).run P w=.ok u w->(execOp ρr o).run P w=.ok (.value u) w:=by
  intro ρr w u hu
  obtain⟨cs,e⟩:=exec_builtin (P:=P) ho hc ρr w
  rw[e,ha]
  simp[builtin,hu]
 have hu:=run_underlying (htt t ti hti)
 have hpure:∀ {n:Int} ,k (.int .i64 n) [] []=some r->(∀ (ρr:Operand->Value) (w:World) (I:Nat->Prop) (φ:Phi),RV w I φ x (ρr a)->(Builtin.len_ c.argTypes o.type #[ρr a]).run P w=.ok (.int .i64 n) w)->Good P o ρ rd k r:=
  fun hk hr=>Good.pure hk fun ρr w φ I hx=>⟨_,hex ρr w _ (hr ρr w I φ (hax ▸ hx a hm)),.int _ _⟩
 have hmap:∀ {kt e:TypeId} {bb:Nat} {mu:Bool} {es:List (AV × AV)},ti.desc=.map kt e->x=.mp bb->rd bb=.map mu es->k (.int .i64 es.length) [] [bb]=some r->Good P o ρ rd k r:=by
  intro kt e bb mu es hd hxe hb h
  refine⟨_,_,_,h,fun rd' ρr w φ I hrd _ hh hx=>?_⟩
  have hp:=hx a hm
  rw[hax,hxe]at hp
  generalize hua:ρr a=u at hp
  cases hp with
  | mp _ B hφ=>
   have hb':=hrd bb (by simp)
   obtain⟨B',o',sz',e',hrb⟩:=hh.blkO hφ (by rw[hb',hb];rfl)
   rw[hφ]at e';cases e'
   rw[hb',hb]at hrb
   obtain⟨_,_,mes,clock,h1,h2,h3,_⟩:=hrb
   refine OpOk.pure (u:=.int .i64 es.length) hh (hex ρr w _ ?_) (.int _ _)
   rw[hua]
   simp only[Builtin.len_,ht0,List.getElem?_toArray,List.getElem?_cons_zero,Sem.run_bind,hu,hd,Result.andThen_ok,run_getMap h1,Sem.run_pure,goInt,h2]
 have hpmap:∀ {kt e:TypeId} {bb:Nat} {mu:Bool} {ks:List (List UInt8)} {val:List UInt8->AV},ti.desc=.map kt e->x=.mp bb->rd bb=.pmap mu ks val->k (.int .i64 ks.length) [] [bb]=some r->Good P o ρ rd k r:=by
  intro kt e bb mu ks val hd hxe hb h
  refine⟨_,_,_,h,fun rd' ρr w φ I hrd _ hh hx=>?_⟩
  have hp:=hx a hm
  rw[hax,hxe]at hp
  generalize hua:ρr a=u at hp
  cases hp with
  | mp _ B hφ=>
   have hb':=hrd bb (by simp)
   obtain⟨B',o',sz',e',hrb⟩:=hh.blkO hφ (by rw[hb',hb];rfl)
   rw[hφ]at e';cases e'
   rw[hb',hb]at hrb
   obtain⟨_,_,mes,clock,h1,h2,h3,_⟩:=hrb
   refine OpOk.pure (u:=.int .i64 ks.length) hh (hex ρr w _ ?_) (.int _ _)
   rw[hua]
   simp only[Builtin.len_,ht0,List.getElem?_toArray,List.getElem?_cons_zero,Sem.run_bind,hu,hd,Result.andThen_ok,run_getMap h1,Sem.run_pure,goInt,h2]
 cases hd:ti.desc with
 | string=>
  rw[hd]at h
  cases x with
  | str l=>
   refine hpure h fun ρr w I φ hx=>?_
   generalize ρr a=u at hx
   cases hx with
   | str b _ hs=>subst hs;simp[Builtin.len_,ht0,hu,hd,goInt]
  | _=>cases h
 | slice e=>
  rw[hd]at h
  cases x with
  | nils=>
   refine hpure h fun ρr w I φ hx=>?_
   generalize ρr a=u at hx
   cases hx
   simp[Builtin.len_,ht0,hu,hd,goInt]
  | sl=>
   refine hpure h fun ρr w I φ hx=>?_
   generalize ρr a=u at hx
   cases hx <;> simp[Builtin.len_,ht0,hu,hd,goInt]
  | tr=>
   refine hpure h fun ρr w I φ hx=>?_
   generalize ρr a=u at hx
   cases hx <;> simp[Builtin.len_,ht0,hu,hd,goInt]
  | trl sz es=>
   refine hpure h fun ρr w I φ hx=>?_
   generalize ρr a=u at hx
   cases hx with
   | trl _ _ _ hx hz=>
    generalize es.length=n at hx
    generalize (fun i=>es.getD i [])=f at hx
    cases hx <;> simp[Builtin.len_,ht0,hu,hd,goInt]
  | sn sz b n=>
   refine hpure h fun ρr w I φ hx=>?_
   generalize ρr a=u at hx
   cases hx <;> simp[Builtin.len_,ht0,hu,hd,goInt]
  | tn sz n f=>
   refine hpure h fun ρr w I φ hx=>?_
   generalize ρr a=u at hx
   cases hx with
   | tn _ _ _ _ hx=>cases hx <;> simp[Builtin.len_,ht0,hu,hd,goInt]
  | _=>cases h
 | array n e=>
  rw[hd]at h
  refine hpure h fun ρr w I φ hx=>?_
  simp only[Builtin.len_,ht0,List.getElem?_toArray,List.getElem?_cons_zero,Sem.run_bind,hu,hd,Result.andThen_ok]
  rfl
 | map kt e=>
  rw[hd]at h
  cases x with
  | nilm=>
   refine hpure h fun ρr w I φ hx=>?_
   generalize ρr a=u at hx
   cases hx
   simp[Builtin.len_,ht0,hu,hd,goInt]
  | mp bb=>
   cases hb:rd bb with
   | map mu es=>simp only[hb]at h;exact hmap hd rfl hb h
   | pmap mu ks val=>simp only[hb]at h;exact hpmap hd rfl hb h
   | _=>simp only[hb]at h;cases h
  | _=>cases h
 | _=>rw[hd]at h;cases x <;> cases h
theorem elem_list{es:List (List AV)}{i:Nat}(h:i<es.length):∃ cs,es[i]? = some cs:=⟨_,List.getElem?_eq_getElem h⟩
theorem splice_list{es ns:List (List AV)}{p:Nat}(h:p+ns.length<=es.length)(i:Nat) :
  (es.take p++(ns++es.drop (p+ns.length)))[i]? = if p<=i/\i<p+ns.length then ns[i - p]? else es[i]? := by
 by_cases h1:i<p
 ·rw[List.getElem?_append_left (by simp;omega),if_neg (by omega),List.getElem?_take,if_pos h1]
 ·rw[List.getElem?_append_right (by simp;omega)]
  have hl:(es.take p).length=p:=by simp;omega
  rw[hl]
  by_cases h2:i<p+ns.length
  ·rw[List.getElem?_append_left (by omega),if_pos (by omega)]
  ·rw[List.getElem?_append_right (by omega),if_neg (by omega),List.getElem?_drop]
   congr 1
   omega
theorem flat_free{w:World}{I:Nat->Prop}{φ:Phi}{sz:Nat}{v:View}{vs:Array Value}(h:Flat w I (wphi φ v) sz v.len v.at vs)(hv:vfree v=true):Flat w I Phi.no sz v.len v.at vs:=by
 refine⟨h.size,h.one,h.len,fun i q cc u hi hcq e'=>?_⟩
 have:=h.val i q cc u hi hcq e'
 cases v with
 | fn=>exact this
 | list ns=>
  simp only[vfree,List.all_eq_true]at hv
  have hm:View.at (.list ns) i ∈ ns:=by
   simp only[View.at,List.getD]
   rw[List.getElem?_eq_getElem hi];exact List.getElem_mem _
  exact this.free (hv _ hm _ (List.mem_of_getElem? hcq))
theorem appN_1{n i:Nat}{f:Nat->List AV}{v:View}(h:i<n):appN n f v i=f i:=by
 have:Nat.blt i n=true:=by rw[Nat.blt_eq];exact h
 unfold appN;rw[this];rfl
theorem appN_2{n i:Nat}{f:Nat->List AV}{v:View}(h:n<=i)(h2:i<n+v.len):appN n f v i=v.at (i - n):=by
 have:Nat.blt i n=false:=by
  cases hq:Nat.blt i n with
  | false=>rfl
  | true=>rw[Nat.blt_eq]at hq;omega
 have h3:Nat.blt i (n+v.len)=true:=by rw[Nat.blt_eq];exact h2
 unfold appN;rw[this,h3];rfl
theorem flat_appN{w:World}{I:Nat->Prop}{φ:Phi}{sz n:Nat}{f:Nat->List AV}{v:View}{vo vn:Array Value}(h1:Flat w I Phi.no sz n f vo)(h2:Flat w I (wphi φ v) sz v.len v.at vn)(hv:vfree v=true) :
  Flat w I Phi.no sz (n+v.len) (appN n f v) (vo++vn):=by
 have h2:=flat_free h2 hv
 refine⟨by rw[Array.size_append,h1.size,h2.size,Nat.add_mul],fun p u e=>?_,fun i hi=>?_,fun i k c u hi hc e=>?_⟩
 ·rw[Array.getElem?_append]at e
  split at e
  ·exact h1.one p u e
  ·exact h2.one _ u e
 ·by_cases hi1:i<n
  ·rw[appN_1 hi1];exact h1.len i hi1
  ·rw[appN_2 (by omega) hi];exact h2.len _ (by omega)
 ·by_cases hi1:i<n
  ·rw[appN_1 hi1]at hc
   have hk:k<sz:=by
    have:=h1.len i hi1
    rcases Nat.lt_or_ge k (f i).length with h' | h'
    ·omega
    ·rw[List.getElem?_eq_none h']at hc;cases hc
   have:=idx_lt hi1 hk
   rw[Array.getElem?_append,if_pos (by rw[h1.size];exact this)]at e
   exact h1.val i k c u hi1 hc e
  ·rw[appN_2 (by omega) hi]at hc
   have hi2:i - n<v.len:=by omega
   have e1:i*sz+k=n*sz+((i - n)*sz+k):=by
    have:i=n+(i - n):=by omega
    conv=>lhs;rw[this,Nat.add_mul]
    omega
   rw[Array.getElem?_append,if_neg (by rw[h1.size,e1];omega),h1.size,e1,Nat.add_sub_cancel_left]at e
   exact h2.val _ k c u hi2 hc e
theorem abappend_ok(htt:TTok P tt)(hnx:rd nx=.none)(ho:o.op=.call c)(hc:c.callee=.builtin .append){s x:AV}{t:TypeId}{tr:List TypeId}(hargs:c.args.toList.map ρ=[s,x])
  (hts:c.argTypes.toList=t::tr) (h:abuiltK tt rd nx .append (t::tr) [s,x] k=some r):Good P o ρ rd k r:=by
 simp only[abuiltK]at h
 obtain⟨ti,hti,h⟩:=onK_some h
 obtain⟨oa,ob,hab,has,hax⟩:=args2 hargs
 have hm1:oa ∈ o.op.operands:=by simp[ho,Op.operands,Call.operands,hc,hab]
 have hm2:ob ∈ o.op.operands:=by simp[ho,Op.operands,Call.operands,hc,hab]
 have ht0:c.argTypes[0]? = some t:=by rw[<- Array.getElem?_toList,hts];rfl
 split at h
 ·rename_i e hd
  obtain⟨te,hte,h⟩:=onK_some h
  obtain⟨z,hz,h⟩:=onK_some h
  obtain⟨hcz,h⟩:=cond_some h
  obtain⟨hzl,h1sz⟩:=and_true' hcz
  have hzl:=Nat.eq_of_beq_eq_true hzl
  have h1sz:=Nat.le_of_ble_eq_true h1sz
  split at h
  ·cases h
  ·rename_i hnint
   obtain⟨_,htr,h⟩:=onK_some h
   obtain⟨old,hold,h⟩:=viewK_some h
   obtain⟨new,hnew,h⟩:=viewK_some h
   obtain⟨hbnd,h⟩:=cond_some h
   obtain⟨hb1,hb2⟩:=and_true' hbnd
   have hb1:=Nat.le_of_ble_eq_true hb1
   have hb2:=Nat.le_of_ble_eq_true hb2
   have ha1:∀ t2,c.argTypes[1]? = some t2 -> ∃ d,P.underlying t2=some d /\ ∀ kd,d ≠ .int kd:=by
    intro t2 ht2
    rw[<- Array.getElem?_toList,hts]at ht2
    cases tr with
    | nil=>simp at ht2
    | cons t2' tr=>
     simp at ht2
     subst ht2
     simp only at htr
     obtain⟨t2i,ht2i,htr⟩:=onK_some htr
     obtain⟨_,_,_,_,hdd,_⟩:=ti_spec (htt _ _ ht2i)
     refine⟨_,hdd,fun kd e=>?_⟩
     rw[e]at htr
     cases htr
   have hmodel:∀ (rd':Nat->BS) (ρr:Operand->Value) (w:World) (φ:Phi) (I:Nat->Prop) (a:Option Addr) (cap:Nat),RH w I φ rd'->s.view rd' te.size=some old->x.view rd' te.size=some new ->
     RV w I φ s (ρr oa)->RV w I φ x (ρr ob)->ρr oa=.slice a old.len cap ->
     ∃ vo vn:Array Value,Flat w I (wphi φ old) te.size old.len old.at vo/\Flat w I (wphi φ new) te.size new.len new.at vn /\
     (old.len+new.len<=cap -> ∀ w',(match a with | some a=>storeCells (a.add (old.len*te.size)) vn.toList | none=>pure ()).run P w=.ok () w' ->
      (execOp ρr o).run P w=.ok (.value (.slice a (old.len+new.len) cap)) w') /\
     (cap<old.len+new.len -> ∃ (nc:Nat) (rest:Array Value),old.len+new.len<=nc/\rest.size=(nc - (old.len+new.len))*z.length /\
      (execOp ρr o).run P w=.ok (.value (.slice (some ⟨w.heap.size,0,none⟩) (old.len+new.len) nc)) (w.drew.alloc (.cells (vo++vn++rest) e))):=by
    intro rd' ρr w φ I a cap hh hv1 hv2 hs hx he
    obtain⟨_,vo,hvo,hfo⟩:=read_view (P:=P) hh hv1 hs
    obtain⟨hlx,vn,hvn,hfn⟩:=read_view (P:=P) hh hv2 hx
    obtain⟨hA,hB⟩:=run_append (P:=P) (htt t ti hti) hd (htt e te hte) hz (ty:=o.type) ht0 ha1 (a:=a) (n:=old.len) (cap:=cap) hlx (by rw[<- he];exact hvo) hvn hb1 hb2
    obtain⟨cs,hex⟩:=exec_builtin (P:=P) ho hc ρr w
    refine⟨vo,vn,hfo,hfn,fun hle w' hst=>?_,fun hlt=>?_⟩
    ·rw[hex,hab]
     have:(Builtin.append_ c.argTypes o.type #[.slice a old.len cap,ρr ob]).run P w=.ok (.slice a (old.len+new.len) cap) w':=
      (hA hle).trans (congrArg (fun(r:Result Unit)=>r.andThen fun _ w'=>.ok (Value.slice a (old.len+new.len) cap) w') hst)
     simp[builtin,he,this]
    ·obtain⟨nc,rest,h1,h2,h3⟩:=hB hlt
     refine⟨nc,rest,h1,h2,?_⟩
     rw[hex,hab]
     simp[builtin,he,h3]
   have hnewrow:∀ {rd':Nat->BS} {ρr:Operand->Value} {w:World} {φ:Phi} {I:Nat->Prop} {v:View} {vs rest:Array Value} {nc:Nat} {wr:Wr} (hh:RH w I φ rd') (rd2:Nat->BS) (hh2:RH w.drew I φ rd2)
     (hst:∀ base,Step base rd' φ I w rd2 φ I w.drew) (hn:rd2 nx=.none) (hwr:rdputs rd' wr=rdput rd2 nx (blk te.size v)) (hf:Flat w I (wphi φ v) te.size v.len v.at vs) (hnc:v.len<=nc)
     (hrest:rest.size=(nc - v.len)*z.length)
     (hrun:(execOp ρr o).run P w=.ok (.value (.slice (some ⟨w.heap.size,0,none⟩) v.len nc)) (w.drew.alloc (.cells (vs++rest) e))),
     OpOk P ρr o rd' φ I w (.sl te.size nx 0 v.len (capNew v)) wr:=by
    intro rd' ρr w φ I v vs rest nc wr hh rd2 hh2 hst hn hwr hf hnc hrest hrun
    have hfd:Flat w.drew I (wphi φ v) te.size v.len v.at vs:=hf.mono (fun B hB=>⟨hB,rfl⟩) (fun _=>Nat.le_refl _) (Phi.le_refl _)
    have le:=Phi.le_set (hh2.none nx hn) (w.heap.size,0,te.size)
    have hrb:=RB.of_flat (φ':=φ.set nx (w.heap.size,0,te.size)) (rest:=rest) hfd hh2.lt le e (0,0) (fun q _ hq=>Nat.lt_irrefl 0 (Nat.lt_of_le_of_lt (Nat.zero_le _) hq.2)) (.inr fun h=>Nat.not_lt_zero _ h.2)
    have hal:=hh2.alloc hn (.cells (vs++rest) e) _ te.size (by cases v <;> rfl) hrb okObj.row
    refine⟨_,_,_,I,.inl hrun,?_,by rw[hwr];exact(hal 0).1,fun base=>by rw[hwr];exact(hst base).trans (hal base).2.1,(hal 0).2.2⟩
    refine .sl te.size nx w.heap.size 0 0 _ _ nc 0 (Phi.set_same _ _ _) (by simp) hnc (Nat.le_trans (capNew_le v) hnc) ?_
    have hcs:csize (w.drew.alloc (.cells (vs++rest) e)) w.heap.size=(vs++rest).size:=by
     unfold csize
     have:(w.drew.alloc (.cells (vs++rest) e)).heap[w.heap.size]? = some (.cells (vs++rest) e):=alloc_new w.drew _
     rw[this]
    rw[hcs,Array.size_append,hf.size,hrest,hzl,<- Nat.add_mul]
    have:v.len+(nc - v.len)=nc:=by omega
    rw[this];simp
   cases s with
   | nils=>
    have hol:old.len=0:=by simp[AV.view,AV.viewG]at hold;subst hold;rfl
    cases hz0:Nat.beq new.len 0 with
    | true=>
     rw[hz0,cond_true]at h
     have hz0:=Nat.eq_of_beq_eq_true hz0
     refine⟨_,[],_,h,fun rd' ρr w φ I hrd _ hh hx=>?_⟩
     have hs:=has ▸ hx oa hm1
     have hxx:=hax ▸ hx ob hm2
     have hv2:x.view rd' te.size=some new:=by rw[view_agree hrd];exact hnew
     generalize hu:ρr oa=u at hs
     cases hs with
     | nils=>
      obtain⟨vo,vn,_,hfn,hA,_⟩:=hmodel rd' ρr w φ I none 0 hh (by simpa [AV.view,AV.viewG] using hold) hv2 (by rw[hu];exact .nils) hxx (by rw[hu,hol])
      have:=hA (by omega) w rfl
      rw[hol,hz0]at this
      exact OpOk.pure hh this .nils
    | false=>
     rw[hz0,cond_false]at h
     have hz0:new.len ≠ 0:=fun e=>by rw[e]at hz0;cases hz0
     refine⟨_,_,_,h,fun rd' ρr w φ I hrd hwr hh hx=>?_⟩
     have hn:rd' nx=.none:=(hwr _ List.mem_cons_self).trans hnx
     have hs:=has ▸ hx oa hm1
     have hxx:=hax ▸ hx ob hm2
     have hv2:x.view rd' te.size=some new:=by rw[view_agree hrd];exact hnew
     generalize hu:ρr oa=u at hs
     cases hs with
     | nils=>
      obtain⟨vo,vn,hfo,hfn,_,hB⟩:=hmodel rd' ρr w φ I none 0 hh (by simpa [AV.view,AV.viewG] using hold) hv2 (by rw[hu];exact .nils) hxx (by rw[hu,hol])
      obtain⟨nc,rest,h1,h2,h3⟩:=hB (by omega)
      have hvo:vo = #[]:=by
       have:=hfo.size
       rw[hol,Nat.zero_mul]at this
       exact Array.eq_empty_of_size_eq_zero this
      rw[hol,Nat.zero_add]at h1 h2 h3
      rw[hvo,Array.empty_append]at h3
      exact hnewrow (v:=new) hh rd' (hh.drew 0).1 (fun base=>(hh.drew base).2) hn rfl hfn h1 h2 h3
   | sl sz b off len cm=>
    simp only at h
    have hszb:sz=te.size:=view_sl_size hold
    subst hszb
    have hlen_old:∀ {rd':Nat->BS} {w I φ u},RH w I φ rd'->(AV.sl te.size b off len cm).view rd' te.size=some old->RV w I φ (.sl te.size b off len cm) u->old.len=len:=by
     intro rd' w I φ u hh hv hs
     rcases view_ok hh hv hs with ⟨s',e',_⟩ | ⟨B,q,cap,e',_⟩ | ⟨a,n,cap,e',h0,hn0⟩
     ·rw[e']at hs;cases hs
     ·rw[e']at hs;generalize old.len=nn at hs ⊢;cases hs <;> rfl
     ·rw[e']at hs;cases hs <;> omega
    cases hz0:Nat.beq new.len 0 with
    | true=>
     rw[hz0,cond_true]at h
     have hz0:=Nat.eq_of_beq_eq_true hz0
     refine⟨_,[],_,h,fun rd' ρr w φ I hrd _ hh hx=>?_⟩
     have hs:=has ▸ hx oa hm1
     have hxx:=hax ▸ hx ob hm2
     have hv1:(AV.sl te.size b off len cm).view rd' te.size=some old:=by rw[view_agree fun b hb=>hrd b (by simp[hb])];exact hold
     have hv2:x.view rd' te.size=some new:=by rw[view_agree fun b hb=>hrd b (by simp[hb])];exact hnew
     have hol:=hlen_old hh hv1 hs
     obtain⟨a,cap,hu,hcap⟩:∃ a cap,ρr oa=.slice a len cap/\len<=cap:=by
      generalize ρr oa=u at hs
      cases hs with
      | sl _ _ _ _ _ _ _ cap=>exact⟨_,cap,rfl,by omega⟩
      | sle=>exact⟨_,0,rfl,Nat.le_refl _⟩
     obtain⟨vo,vn,_,hfn,hA,_⟩:=hmodel rd' ρr w φ I a cap hh hv1 hv2 hs hxx (by rw[hu,hol])
     have hvn:vn = #[]:=by
      have:=hfn.size
      rw[hz0,Nat.zero_mul]at this
      exact Array.eq_empty_of_size_eq_zero this
     have:=hA (by omega) w (by rw[hvn];cases a <;> rfl)
     rw[hol,hz0,Nat.add_zero,<- hu]at this
     exact OpOk.pure hh this hs
    | false=>
     rw[hz0,cond_false]at h
     have hz0:new.len ≠ 0:=fun e=>by rw[e]at hz0;cases hz0
     cases hin:roomFor (len+new.len) cm with
     | true=>
      rw[hin,cond_true]at h
      have hin:len+new.len<=cm:=by
       cases cm with
       | zero=>cases hin
       | succ c=>exact Nat.le_of_ble_eq_true hin
      have hplace:∀ (x':BS),isRow x'=true->mutable x'=true->isRow (rd b)=true->mutable (rd b)=true->bsz x'=bsz (rd b)->(∀ φ,vphi φ x'=vphi φ (rd b)) ->
        (∀ w I φ vn,Flat w I (wphi φ new) te.size new.len new.at vn->Flat w I (vphi φ x') te.size new.len new.at vn) ->
        (∃ cs,elemAt (rd b) (off+len+new.len - 1)=some cs) ->
        (∀ i cs',elemAt x' i=some cs'->(off+len<=i/\i<off+len+new.len/\cs'=new.at (i - (off+len)))\/(¬ (off+len<=i/\i<off+len+new.len)/\elemAt (rd b) i=some cs')) ->
        k (.sl te.size b off (len+new.len) cm) [(b,x')] (b::x.viewIds)=some r->Good P o ρ rd k r:=by
       intro x' h1 h2 h3 h4 h5 h6 h7 h8 h9 hk
       refine⟨_,_,_,hk,fun rd' ρr w φ I hrd _ hh hx=>?_⟩
       have hb':=hrd b (by simp)
       have hs:=has ▸ hx oa hm1
       have hxx:=hax ▸ hx ob hm2
       have hv1:(AV.sl te.size b off len cm).view rd' te.size=some old:=by
        rw[view_agree fun b' hb'=>?_];exact hold
        simp only[AV.viewIds,List.mem_singleton]at hb'
        subst hb'
        exact hrd _ (by simp)
       have hv2:x.view rd' te.size=some new:=by rw[view_agree fun b hb=>hrd b (by simp[hb])];exact hnew
       have hol:=hlen_old hh hv1 hs
       generalize hu:ρr oa=u at hs
       cases hs with
       | sl _ _ B obb _ _ _ cap q hφ hq hl hcc hs'=>
        obtain⟨vo,vn,_,hfn,hA,_⟩:=hmodel rd' ρr w φ I _ cap hh hv1 hv2 (by rw[hu];exact .sl te.size b B obb off len cm cap q hφ hq hl hcc hs') hxx (by rw[hu,hol])
        obtain⟨w',hw1,hw2,hw3⟩:=write_range (P:=P) (p:=off+len) (m:=new.len) (nf:=new.at) (vs:=vn) (x':=x') hh hφ (by rw[hb'];exact h4) (by rw[hb'];exact h3) (h7 w I φ vn hfn) h1sz (by omega)
         (by rw[hb'];exact h8) h1 h2 (by rw[hb'];exact h5) (by rw[hb'];exact h6 φ) (by rw[hb'];exact h9)
        have:=hA (by omega) w' (by
         simp only[add_none]
         rw[hol,hq,show obb+off*te.size+len*te.size=obb+(off+len)*te.size by rw[Nat.add_mul];omega]
         exact hw1)
        refine⟨_,w',φ,I,.inl this,?_,hw2,hw3,Phi.le_refl _⟩
        rw[hol]
        exact .sl te.size b B obb off _ cm cap q hφ hq (Nat.le_trans hin hcc) hcc (Nat.le_trans hs' ((hw3 0).ext.csize B))
       | sle=>omega
      generalize hnewv:new=nv at h
      split at h
      ·rename new=_=>hnv
       revert h
       subst hnv
       intro h
       rename rd b=_=>hb
       obtain⟨hle,h⟩:=cond_some h
       have hle:=Nat.le_of_ble_eq_true hle
       refine hplace _ rfl rfl (by rw[hb];rfl) (by rw[hb];rfl) (by rw[hb];rfl) (fun φ=>by rw[hb];rfl) (fun w I φ vn hf=>by exact hf) ?_ ?_ h
       ·rw[hb]
        simp only[View.len]at hin hz0 ⊢
        exact elem_list (by omega)
       ·intro i cs' e'
        rw[hb]
        simp only[elemAt,View.len,View.at]at e' ⊢
        simp only[View.len]at hin hz0
        rw[<- Nat.add_assoc,splice_list (p:=off+len) (by omega)]at e'
        split at e'
        ·rename_i hpi
         exact .inl ⟨hpi.1,hpi.2,by simp[List.getD,e']⟩
        ·rename_i hpi
         exact .inr ⟨hpi,e'⟩
      ·rename new=_=>hnv
       revert h
       subst hnv
       intro h
       rename rd b=_=>hb
       obtain⟨hcc,h⟩:=cond_some h
       obtain⟨hvf,hle⟩:=and_true' hcc
       have hle:=Nat.le_of_ble_eq_true hle
       refine hplace _ rfl rfl (by rw[hb];rfl) (by rw[hb];rfl) (by rw[hb];rfl) (fun φ=>by rw[hb];rfl) (fun w I φ vn hf=>?_) ?_ ?_ h
       ·refine⟨hf.size,hf.one,hf.len,fun i q cc u hi hcq e'=>?_⟩
        have:=hf.val i q cc u hi hcq e'
        cases new with
        | fn=>exact this
        | list ns=>
         simp only[vfree,List.all_eq_true]at hvf
         have hm:View.at (.list ns) i ∈ ns:=by
          simp only[View.at,List.getD]
          rw[List.getElem?_eq_getElem hi];exact List.getElem_mem _
         exact this.free (hvf _ hm _ (List.mem_of_getElem? hcq))
       ·rw[hb]
        simp only[elemAt]
        rw[if_pos (by omega)]
        exact⟨_,rfl⟩
       ·intro i cs' e'
        rw[hb]
        simp only[elemAt]at e' ⊢
        split at e'
        ·rename_i hi
         simp only[Option.some.injEq]at e'
         by_cases h1:i<off+len
         ·have:Nat.blt i (off+len)=true:=by rw[Nat.blt_eq];exact h1
          rw[this,cond_true]at e'
          exact .inr ⟨by omega,by rw[if_pos hi,e']⟩
         ·have hbf:Nat.blt i (off+len)=false:=by
           cases hq:Nat.blt i (off+len)with
           | false=>rfl
           | true=>rw[Nat.blt_eq]at hq;omega
          rw[hbf,cond_false]at e'
          by_cases h2:i<off+(len+new.len)
          ·have:Nat.blt i (off+(len+new.len))=true:=by rw[Nat.blt_eq];exact h2
           rw[this,cond_true]at e'
           exact .inl ⟨by omega,by omega,e'.symm⟩
          ·have hbf2:Nat.blt i (off+(len+new.len))=false:=by
            cases hq:Nat.blt i (off+(len+new.len))with
            | false=>rfl
            | true=>rw[Nat.blt_eq]at hq;omega
           rw[hbf2,cond_false]at e'
           exact .inr ⟨by omega,by rw[if_pos hi,e']⟩
        ·cases e'
      ·cases h
     | false=>
      rw[hin,cond_false]at h
      have hends:isRow (rd b)=true->mutable (rd b)=true->(vfree new||(match viewApp old new with | .list _=>true | .fn _ _=>false))=true->(match viewApp old new with | .list _=>true | .fn _ _=>vfree old)=true ->
        k (.sl te.size nx 0 (viewApp old new).len (capNew (viewApp old new))) [(b,.dead),(nx,blk te.size (viewApp old new))] (b::((AV.sl te.size b off len cm).viewIds++x.viewIds))=some r->Good P o ρ rd k r:=by
       intro hrow hmut hc1 hc2 hk
       refine⟨_,_,_,hk,fun rd' ρr w φ I hrd hwr hh hx=>?_⟩
       have hb':=hrd b (by simp)
       have hn:rd' nx=.none:=(hwr (nx,_) (.tail _ (.head _))).trans hnx
       have hbn:nx ≠ b:=by rintro rfl;rw[hnx]at hrow;cases hrow
       have hs:=has ▸ hx oa hm1
       have hxx:=hax ▸ hx ob hm2
       have hv1:(AV.sl te.size b off len cm).view rd' te.size=some old:=by rw[view_agree fun b hb=>hrd b (by simp[hb])];exact hold
       have hv2:x.view rd' te.size=some new:=by rw[view_agree fun b hb=>hrd b (by simp[hb])];exact hnew
       have hol:=hlen_old hh hv1 hs
       have hlv:(viewApp old new).len=old.len+new.len:=app_len _ _
       obtain⟨a,cap,hu⟩:∃ a cap,ρr oa=.slice a len cap:=by
        generalize ρr oa=u at hs
        cases hs <;> exact⟨_,_,rfl⟩
       obtain⟨vo,vn,hfo,hfn,hA,hB⟩:=hmodel rd' ρr w φ I a cap hh hv1 hv2 hs hxx (by rw[hu,hol])
       have hfa:=flat_app hfo hfn hc2 hc1
       have hwr2:rdputs rd' [(b,.dead),(nx,blk te.size (viewApp old new))]=rdput (rdput rd' b .dead) nx (blk te.size (viewApp old new)):=rfl
       rcases Nat.lt_or_ge cap (old.len+new.len)with hlt | hge
       ·obtain⟨nc,rest,g1,g2,g3⟩:=hB hlt
        have hkill:=hh.kill b (live_of_mutable (by rw[hb'];exact hmut))
        have hdr:=(hkill 0).1.drew
        have:=hnewrow (v:=viewApp old new) (vs:=vo++vn) (rest:=rest) (nc:=nc) (ρr:=ρr) (wr:=[(b,.dead),(nx,blk te.size (viewApp old new))]) hh (rdput rd' b .dead) (hdr 0).1 (fun base=>(hkill base).2.trans (hdr base).2)
         (by rw[rdput_ne _ _ hbn];exact hn) hwr2 hfa (by rw[hlv];exact g1) (by rw[hlv];exact g2) (by rw[hlv];exact g3)
        exact this
       ·rw[hu]at hs
        cases hs with
        | sl _ _ B obb _ _ _ _ q hφ hq hl hcc hs'=>
         obtain⟨B',o',sz',e',hrb⟩:=hh.blkO hφ (live_of_mutable (by rw[hb'];exact hmut))
         rw[hφ]at e';cases e'
         obtain⟨hbs,⟨cc,te',fz,hcell,hth⟩,hel⟩:=hrb.row (by rw[hb'];exact hrow)
         have hcsz:csize w B=cc.size:=by unfold csize;rw[hcell]
         rw[hcsz]at hs'
         have hth2:=(hth (by rw[hb'];exact hmut)).2
         have hth:=(hth (by rw[hb'];exact hmut)).1
         have hvnl:vn.toList.length=new.len*te.size:=by simpa using hfn.size
         have hfit:q+old.len*te.size+new.len*te.size<=cc.size:=by
          have:(off+cap)*te.size >= (off+(old.len+new.len))*te.size:=Nat.mul_le_mul_right te.size (by omega)
          rw[hq]
          have e1:(off+(old.len+new.len))*te.size=off*te.size+(old.len*te.size+new.len*te.size):=by rw[Nat.add_mul,Nat.add_mul]
          omega
         have hrun:=run_storeCells (P:=P) (o:=q+old.len*te.size) vn.toList 0 cc w hcell (by rw[hvnl];omega) hth (fun v hv'=>by
          obtain⟨j,hj⟩:=List.getElem?_of_mem hv'
          exact hfn.one j v (by simpa using hj))
         have hst:=hA hge _ (by simp only[add_none];exact hrun)
         have hM:Mut φ rd' B:=⟨b,obb,te.size,by rw[hb'];exact hmut,hφ⟩
         have ext:=Ext.setBlk (M:=Mut φ rd') (c':=splice cc (q+old.len*te.size) vn.toList) hcell (splice_size _ _ _) hM
         have le:=Phi.le_set (hh.none nx hn) (B,q,te.size)
         have mono:∀ {ψ ψ':Phi} {v:AV} {u:Value},Phi.le ψ ψ'->RV w I ψ v u->RV (World.setBlk w B (.cells (splice cc (q+old.len*te.size) vn.toList) te' fz)) I ψ' v u:=fun le hvu=>
          hvu.mono (fun B hB=>⟨hB,ext.keep B (hh.lt B hB) fun⟨b,o,sz,hm,e⟩=>hh.disj _ _ _ _ hm e hB⟩) ext.csize le
         have hB:=setBlk_same (o:=.cells (splice cc (q+old.len*te.size) vn.toList) te' fz) (lt_of_heap hcell)
         have hrb2:RB (World.setBlk w B (.cells (splice cc (q+old.len*te.size) vn.toList) te' fz)) I (φ.set nx (B,q,te.size)) B q te.size (blk te.size (viewApp old new)):=by
          have hvphi:∀ ψ:Phi,vphi ψ (blk te.size (viewApp old new))=wphi ψ (viewApp old new):=fun ψ=>by cases viewApp old new <;> rfl
          refine RB.of_row (by cases viewApp old new <;> rfl) (by cases viewApp old new <;> rfl) ⟨_,te',fz,hB,fun _=>⟨fun j hj=>hth j (by simpa using hj),by unfold notStr at *;simpa using hth2⟩⟩ fun i cs he=>?_
          obtain⟨hi,rfl⟩:i<(viewApp old new).len/\cs=(viewApp old new).at i:=by
           cases hva:viewApp old new with
           | list es=>
            rw[hva]at he
            simp only[blk,elemAt]at he
            have hi:i<es.length:=by
             rcases Nat.lt_or_ge i es.length with h' | h'
             ·exact h'
             ·rw[List.getElem?_eq_none h']at he;cases he
            exact⟨hi,by simp[View.at,List.getD,he]⟩
           | fn n f=>
            rw[hva]at he
            simp only[blk,elemAt]at he
            split at he
            ·rename_i hi;cases he;exact⟨hi,rfl⟩
            ·cases he
          rw[hlv]at hi
          rw[hvphi]
          have hlen:((viewApp old new).at i).length=te.size:=(flat_app hfo hfn hc2 hc1).len i (by rw[hlv];exact hi)
          refine⟨hlen,fun j x hx=>?_⟩
          have hj:j<te.size:=by
           rcases Nat.lt_or_ge j ((viewApp old new).at i).length with h' | h'
           ·omega
           ·rw[List.getElem?_eq_none h']at hx;cases hx
          rw[cell_of hB,splice_get _ _ _ _ (by rw[hvnl];exact hfit),hvnl]
          by_cases hi1:i<old.len
          ·rw[app_at1 hi1]at hx
           have hlt:=idx_lt hi1 hj
           rw[if_neg (by omega)]
           have hvv:=view_ok hh hv1 (.sl te.size b B obb off len cm cap q hφ hq hl hcc (by rw[hcsz];exact hs'):RV w I φ (.sl te.size b off len cm) (.slice (some ⟨B,q,none⟩) len cap))
           rcases hvv with ⟨s',e1,_⟩ | ⟨B1,q1,cap1,e1,hvr⟩ | ⟨a1,n1,cap1,e1,h0,_⟩
           ·cases e1
           ·cases e1
            obtain⟨u,h1,h2,h3⟩:=hvr.cells i hi1 j x hx
            rw[cell_of hcell]at h1
            exact⟨u,h1,h2,mono (by cases viewApp old new <;> first | exact le | exact Phi.le_refl _) (app_rv1 hc2 hi1 hx h3)⟩
           ·omega
          ·rw[app_at2 (by omega) hi]at hx
           have hi2:i - old.len<new.len:=by omega
           have hlt:=idx_lt hi2 hj
           have e1:q+i*te.size+j=q+old.len*te.size+((i - old.len)*te.size+j):=by
            have:i=old.len+(i - old.len):=by omega
            conv=>lhs;rw[this,Nat.add_mul]
            omega
           rw[e1,if_pos (by omega),Nat.add_sub_cancel_left]
           have hlt':(i - old.len)*te.size+j<vn.size:=by rw[hfn.size];exact hlt
           exact⟨vn[(i - old.len)*te.size+j],by simp[hlt'],hfn.one _ _ (Array.getElem?_eq_getElem hlt'),
            mono (by cases viewApp old new <;> first | exact le | exact Phi.le_refl _) (app_rv2 hc1 hi2 hx (hfn.val _ j x _ hi2 hx (Array.getElem?_eq_getElem hlt')))⟩
         have hmv:=hh.move hφ (by rw[hb'];exact hmut) hn hcell (splice_size _ _ _) (blk te.size (viewApp old new)) q (by cases viewApp old new <;> rfl) hrb2
         refine⟨_,_,_,I,.inl hst,?_,by rw[hwr2];exact(hmv 0).1,fun base=>by rw[hwr2];exact(hmv base).2.1,(hmv 0).2.2⟩
         rw[hlv]
         refine .sl te.size nx B q 0 _ _ cap q (Phi.set_same _ _ _) (by simp) hge (Nat.le_trans (capNew_le _) (by rw[hlv];exact hge)) ?_
         have hcs2:csize (World.setBlk w B (.cells (splice cc (q+old.len*te.size) vn.toList) te' fz)) B=cc.size:=by
          unfold csize;rw[hB];simp
         show q+(0+cap)*te.size<=csize (World.setBlk w B (.cells (splice cc (q+old.len*te.size) vn.toList) te' fz)) B
         rw[hcs2,hq]
         have:(off+cap)*te.size=off*te.size+cap*te.size:=Nat.add_mul _ _ _
         simp only[Nat.zero_add]
         omega
        | sle=>omega
      split at h
      ·rename rd b=_=>hb
       obtain⟨hc1,h⟩:=cond_some h
       obtain⟨hc2,h⟩:=cond_some h
       exact hends (by rw[hb];rfl) (by rw[hb];rfl) hc1 hc2 h
      ·rename rd b=_=>hb
       obtain⟨hc1,h⟩:=cond_some h
       obtain⟨hc2,h⟩:=cond_some h
       exact hends (by rw[hb];rfl) (by rw[hb];rfl) hc1 hc2 h
      ·
       rename rd b=_=>hb
       obtain⟨hl0,h⟩:=cond_some h
       have hl0:=Nat.eq_of_beq_eq_true hl0
       subst hl0
       refine⟨_,_,_,h,fun rd' ρr w φ I hrd hwr hh hx=>?_⟩
       have hn:rd' nx=.none:=(hwr _ List.mem_cons_self).trans hnx
       have hb':rd' b=.none:=(hrd b (by simp)).trans hb
       have hs:=has ▸ hx oa hm1
       have hxx:=hax ▸ hx ob hm2
       have hv1:(AV.sl te.size b off 0 cm).view rd' te.size=some old:=by
        rw[view_agree fun b' hb'=>?_];exact hold
        simp only[AV.viewIds,List.mem_singleton]at hb'
        subst hb'
        exact hrd _ (by simp)
       have hv2:x.view rd' te.size=some new:=by rw[view_agree fun b hb=>hrd b (by simp[hb])];exact hnew
       have hol:=hlen_old hh hv1 hs
       obtain⟨a,hu⟩:∃ a,ρr oa=.slice a 0 0:=by
        generalize ρr oa=u at hs
        cases hs with
        | sl _ _ B obb _ _ _ cap q hφ=>rw[hh.none b hb']at hφ;cases hφ
        | sle=>exact⟨_,rfl⟩
       obtain⟨vo,vn,hfo,hfn,_,hB⟩:=hmodel rd' ρr w φ I a 0 hh hv1 hv2 hs hxx (by rw[hu,hol])
       obtain⟨nc,rest,h1,h2,h3⟩:=hB (by omega)
       have hvo:vo = #[]:=by
        have:=hfo.size
        rw[hol,Nat.zero_mul]at this
        exact Array.eq_empty_of_size_eq_zero this
       rw[hol,Nat.zero_add]at h1 h2 h3
       rw[hvo,Array.empty_append]at h3
       exact hnewrow (v:=new) hh rd' (hh.drew 0).1 (fun base=>(hh.drew base).2) hn rfl hfn h1 h2 h3
      ·cases h
   | sn sz b n=>
    simp only at h
    obtain⟨hvf,hk⟩:=cond_some h
    clear h
    have hrow:∀ {rd':Nat->BS} {ρr:Operand->Value} {w:World} {φ:Phi} {I:Nat->Prop} {N:Nat} {g:Nat->List AV} {vs rest:Array Value} {nc:Nat} {wr:Wr} (hh:RH w I φ rd') (rd2:Nat->BS) (hh2:RH w.drew I φ rd2)
      (hst:∀ base,Step base rd' φ I w rd2 φ I w.drew) (hn:rd2 nx=.none) (hwr:rdputs rd' wr=rdput rd2 nx (.seq true te.size N g)) (hf:Flat w I Phi.no te.size N g vs) (hnc:N<=nc)
      (hrest:rest.size=(nc - N)*z.length)
      (hrun:(execOp ρr o).run P w=.ok (.value (.slice (some ⟨w.heap.size,0,none⟩) N nc)) (w.drew.alloc (.cells (vs++rest) e))),
      OpOk P ρr o rd' φ I w (.sn te.size nx N) wr:=by
     intro rd' ρr w φ I N g vs rest nc wr hh rd2 hh2 hst hn hwr hf hnc hrest hrun
     have hfd:Flat w.drew I (wphi φ (.fn N g)) te.size (View.fn N g).len (View.fn N g).at vs:=hf.mono (fun B hB=>⟨hB,rfl⟩) (fun _=>Nat.le_refl _) (Phi.le_refl _)
     have le:=Phi.le_set (hh2.none nx hn) (w.heap.size,0,te.size)
     have hrb:=RB.of_flat (φ':=φ.set nx (w.heap.size,0,te.size)) (rest:=rest) hfd hh2.lt le e (0,0) (fun q _ hq=>Nat.lt_irrefl 0 (Nat.lt_of_le_of_lt (Nat.zero_le _) hq.2)) (.inr fun h=>Nat.not_lt_zero _ h.2)
     have hal:=hh2.alloc hn (.cells (vs++rest) e) (.seq true te.size N g) te.size rfl hrb okObj.row
     refine⟨_,_,_,I,.inl hrun,?_,by rw[hwr];exact(hal 0).1,fun base=>by rw[hwr];exact(hst base).trans (hal base).2.1,(hal 0).2.2⟩
     refine .sn te.size nx N w.heap.size 0 nc (Phi.set_same _ _ _) hnc ?_
     have hcs:csize (w.drew.alloc (.cells (vs++rest) e)) w.heap.size=(vs++rest).size:=by
      unfold csize
      have:(w.drew.alloc (.cells (vs++rest) e)).heap[w.heap.size]? = some (.cells (vs++rest) e):=alloc_new w.drew _
      rw[this]
     rw[hcs,Array.size_append,hf.size,hrest,hzl,<- Nat.add_mul,show N+(nc - N)=nc by omega]
     simp
    split at hk
    ·rename_i s' n' f hb
     have hv0:old=.fn n f/\sz=te.size/\s'=s':=by
      have:=view_some hold
      simp only[AV.viewG,hb,Option.some.injEq,Prod.mk.injEq]at this
      exact⟨this.1.symm,Nat.eq_of_beq_eq_true (and_true' this.2).1,rfl⟩
     obtain⟨hol,hszb,_⟩:=hv0
     subst hszb
     subst hol
     have hbn:nx ≠ b:=by rintro rfl;rw[hnx]at hb;cases hb
     refine⟨_,_,_,hk,fun rd' ρr w φ I hrd hwr hh hx=>?_⟩
     have hb':=(hrd b (by simp)).trans hb
     have hn:rd' nx=.none:=(hwr (nx,_) (.tail _ (.head _))).trans hnx
     have hs:=has ▸ hx oa hm1
     have hxx:=hax ▸ hx ob hm2
     have hv1:(AV.sn te.size b n).view rd' te.size=some (.fn n f):=by
      rw[view_agree fun b' hb'=>?_];exact hold
      simp only[AV.viewIds,List.mem_singleton]at hb'
      subst hb'
      exact hrd _ (by simp)
     have hv2:x.view rd' te.size=some new:=by rw[view_agree fun b hb=>hrd b (by simp[hb])];exact hnew
     have hwr2:rdputs rd' [(b,.dead),(nx,.seq true te.size (n+new.len) (appN n f new))]=rdput (rdput rd' b .dead) nx (.seq true te.size (n+new.len) (appN n f new)):=rfl
     have hkill:=hh.kill b (by rw[hb'];rfl)
     have hn2:rdput rd' b .dead nx=.none:=by rw[rdput_ne _ _ hbn];exact hn
     generalize hu:ρr oa=u at hs
     cases hs with
     | sn0 _ _ a=>
      obtain⟨vo,vn,hfo,hfn,hA,hB⟩:=hmodel rd' ρr w φ I a 0 hh hv1 hv2 (by rw[hu];exact .sn0 _ _ _) hxx (by rw[hu];rfl)
      have hfa:=flat_appN hfo hfn hvf
      rcases Nat.eq_zero_or_pos new.len with h0 | h0
      ·have hvn:vn = #[]:=by
        have:=hfn.size
        rw[h0,Nat.zero_mul]at this
        exact Array.eq_empty_of_size_eq_zero this
       have hst:=hA (by show 0+new.len<=0;omega) w (by rw[hvn];cases a <;> rfl)
       have hE:(View.fn 0 f).len+new.len=0:=by show 0+new.len=0;omega
       rw[hE]at hst
       have hph:=(hkill 0).1.phan hn2 true te.size (appN 0 f new)
       refine⟨_,w,φ,I,.inl hst,?_,?_,fun base=>?_,Phi.le_refl _⟩
       ·rw[h0];exact .sn0 _ _ _
       ·rw[hwr2,h0];exact hph.1
       ·rw[hwr2,h0];exact(hkill base).2.trans (hph.2 base)
      ·obtain⟨nc,rest,g1,g2,g3⟩:=hB (by show 0<0+new.len;omega)
       have hdr:=(hkill 0).1.drew
       exact hrow (ρr:=ρr) hh (rdput rd' b .dead) (hdr 0).1 (fun base=>(hkill base).2.trans (hdr base).2) hn2 hwr2 hfa g1 g2 g3
     | sn _ _ _ B obb cap hφ hl hs'=>
      obtain⟨vo,vn,hfo,hfn,hA,hB⟩:=hmodel rd' ρr w φ I _ cap hh hv1 hv2 (by rw[hu];exact .sn _ _ _ B obb cap hφ hl hs') hxx (by rw[hu];rfl)
      have hfa:Flat w I Phi.no te.size (n+new.len) (appN n f new) (vo++vn):=flat_appN hfo hfn hvf
      rcases Nat.lt_or_ge cap (n+new.len)with hlt | hge
      ·obtain⟨nc,rest,g1,g2,g3⟩:=hB hlt
       have hdr:=(hkill 0).1.drew
       exact hrow (ρr:=ρr) hh (rdput rd' b .dead) (hdr 0).1 (fun base=>(hkill base).2.trans (hdr base).2) hn2 hwr2 hfa g1 g2 g3
      ·
       have hrb:=hh.at hφ (by rw[hb'];rfl)
       obtain⟨hbs,⟨cc,te',fz,hcell,hth⟩,hel⟩:=hrb.row (by rw[hb'];rfl)
       have hcsz:csize w B=cc.size:=by unfold csize;rw[hcell]
       rw[hcsz]at hs'
       have hth2:=(hth (by rw[hb'];rfl)).2
       have hth:=(hth (by rw[hb'];rfl)).1
       have hvnl:vn.toList.length=new.len*te.size:=by simpa using hfn.size
       have hfit:obb+n*te.size+new.len*te.size<=cc.size:=by
        have:cap*te.size >= (n+new.len)*te.size:=Nat.mul_le_mul_right te.size (by omega)
        rw[Nat.add_mul]at this
        omega
       have hrun:=run_storeCells (P:=P) (o:=obb+n*te.size) vn.toList 0 cc w hcell (by rw[hvnl];omega) hth (fun v hv'=>by
        obtain⟨j,hj⟩:=List.getElem?_of_mem hv'
        exact hfn.one j v (by simpa using hj))
       have hst:=hA hge (World.setBlk w B (.cells (splice cc (obb+n*te.size) vn.toList) te' fz)) (by simp only[add_none];exact hrun)
       have hM:Mut φ rd' B:=⟨b,obb,te.size,by rw[hb'];rfl,hφ⟩
       have ext:=Ext.setBlk (M:=Mut φ rd') (c':=splice cc (obb+n*te.size) vn.toList) hcell (splice_size _ _ _) hM
       have mono:∀ {v:AV} {u:Value},RV w I Phi.no v u->RV (World.setBlk w B (.cells (splice cc (obb+n*te.size) vn.toList) te' fz)) I Phi.no v u:=fun hvu=>
        hvu.mono (fun B hB=>⟨hB,ext.keep B (hh.lt B hB) fun⟨b,o,sz,hm,e⟩=>hh.disj _ _ _ _ hm e hB⟩) ext.csize (Phi.le_refl _)
       have hB:=setBlk_same (o:=.cells (splice cc (obb+n*te.size) vn.toList) te' fz) (lt_of_heap hcell)
       have hrb2:RB (World.setBlk w B (.cells (splice cc (obb+n*te.size) vn.toList) te' fz)) I (φ.set nx (B,obb,te.size)) B obb te.size (.seq true te.size (n+new.len) (appN n f new)):=by
        refine⟨rfl,⟨_,te',fz,hB,fun _=>⟨fun j hj=>hth j (by simpa using hj),by unfold notStr at *;simpa using hth2⟩⟩,fun i hi=>hfa.len i hi,fun i j x hi hx=>?_⟩
        have hlen:=hfa.len i hi
        have hj:j<te.size:=by
         rcases Nat.lt_or_ge j (appN n f new i).length with h' | h'
         ·omega
         ·rw[List.getElem?_eq_none h']at hx;cases hx
        rw[cell_of hB,splice_get _ _ _ _ (by rw[hvnl];exact hfit),hvnl]
        by_cases hi1:i<n
        ·rw[appN_1 hi1]at hx
         have hlt:=idx_lt (sz:=te.size) hi1 hj
         rw[if_neg (fun hc=>by have:=hc.1;omega)]
         have hvv:=view_ok hh hv1 (.sn te.size b n B obb cap hφ hl (by rw[hcsz];exact hs'):RV w I φ (.sn te.size b n) (.slice (some ⟨B,obb,none⟩) n cap))
         rcases hvv with ⟨s',e1,_⟩ | ⟨B1,q1,cap1,e1,hvr⟩ | ⟨a1,n1,cap1,e1,h0,_⟩
         ·cases e1
         ·cases e1
          obtain⟨u,h1,h2,h3⟩:=hvr.cells i hi1 j x hx
          rw[cell_of hcell]at h1
          exact⟨u,h1,h2,mono h3⟩
         ·have:n=0:=h0
          omega
        ·have hi':i<n+new.len:=hi
         have hi2:i - n<new.len:=by omega
         have hlt:=idx_lt hi2 hj
         have e1:obb+i*te.size+j=obb+n*te.size+((i - n)*te.size+j):=by
          have:i=n+(i - n):=by omega
          conv=>lhs;rw[this,Nat.add_mul]
          omega
         rw[e1,if_pos (by omega),Nat.add_sub_cancel_left]
         have hlt':(i - n)*te.size+j<vn.size:=by rw[hfn.size];exact hlt
         rw[appN_2 (by omega) hi']at hx
         exact⟨vn[(i - n)*te.size+j],by simp[hlt'],hfn.one _ _ (Array.getElem?_eq_getElem hlt'),mono ((flat_free hfn hvf).val _ j x _ hi2 hx (Array.getElem?_eq_getElem hlt'))⟩
       have hmv:=hh.move hφ (by rw[hb'];rfl) hn hcell (splice_size _ _ _) (.seq true te.size (n+new.len) (appN n f new)) obb rfl hrb2
       refine⟨_,_,_,I,.inl hst,?_,by rw[hwr2];exact(hmv 0).1,fun base=>by rw[hwr2];exact(hmv base).2.1,(hmv 0).2.2⟩
       refine .sn te.size nx (n+new.len) B obb cap (Phi.set_same _ _ _) hge ?_
       have hcs2:csize (World.setBlk w B (.cells (splice cc (obb+n*te.size) vn.toList) te' fz)) B=cc.size:=by
        unfold csize;rw[hB];simp
       rw[hcs2];exact hs'
    ·rename_i hb
     have hv0:old=.fn 0 (fun _=>[])/\sz=te.size/\n=0:=by
      have:=view_some hold
      simp only[AV.viewG,hb,Option.some.injEq,Prod.mk.injEq]at this
      exact⟨this.1.symm,Nat.eq_of_beq_eq_true (and_true' this.2).1,Nat.eq_of_beq_eq_true (and_true' this.2).2⟩
     obtain⟨hol,hszb,hn0⟩:=hv0
     subst hszb
     subst hol
     subst hn0
     refine⟨_,_,_,hk,fun rd' ρr w φ I hrd hwr hh hx=>?_⟩
     have hn:rd' nx=.none:=(hwr _ List.mem_cons_self).trans hnx
     have hb':=(hrd b (by simp)).trans hb
     have hs:=has ▸ hx oa hm1
     have hxx:=hax ▸ hx ob hm2
     have hv1:(AV.sn te.size b 0).view rd' te.size=some (.fn 0 fun _=>[]):=by
      rw[view_agree fun b' hb'=>?_];exact hold
      simp only[AV.viewIds,List.mem_singleton]at hb'
      subst hb'
      exact hrd _ (by simp)
     have hv2:x.view rd' te.size=some new:=by rw[view_agree fun b hb=>hrd b (by simp[hb])];exact hnew
     obtain⟨a,hu⟩:∃ a,ρr oa=.slice a 0 0:=by
      generalize ρr oa=u at hs
      cases hs with
      | sn _ _ _ B obb cap hφ=>rw[hh.none b hb']at hφ;cases hφ
      | sn0 _ _ a=>exact⟨a,rfl⟩
     obtain⟨vo,vn,hfo,hfn,hA,hB⟩:=hmodel rd' ρr w φ I a 0 hh hv1 hv2 (by rw[hu];exact .sn0 _ _ _) hxx (by rw[hu];rfl)
     have hvo:vo = #[]:=by
      have:=hfo.size
      simp only[View.len,Nat.zero_mul]at this
      exact Array.eq_empty_of_size_eq_zero this
     rcases Nat.eq_zero_or_pos new.len with h0 | h0
     ·have hvn:vn = #[]:=by
       have:=hfn.size
       rw[h0,Nat.zero_mul]at this
       exact Array.eq_empty_of_size_eq_zero this
      have hst:=hA (by show 0+new.len<=0;omega) w (by rw[hvn];cases a <;> rfl)
      have hE:(View.fn 0 fun _=>[]).len+new.len=0:=by show 0+new.len=0;omega
      rw[hE]at hst
      have hph:=hh.phan hn true te.size new.at
      have hwr2:rdputs rd' [(nx,.seq true te.size new.len new.at)]=rdput rd' nx (.seq true te.size new.len new.at):=rfl
      refine⟨_,w,φ,I,.inl hst,?_,?_,fun base=>?_,Phi.le_refl _⟩
      ·rw[h0];exact .sn0 _ _ _
      ·rw[hwr2,h0];exact hph.1
      ·rw[hwr2,h0];exact hph.2 base
     ·obtain⟨nc,rest,g1,g2,g3⟩:=hB (by show 0<0+new.len;omega)
      have hE:(View.fn 0 fun _=>[]).len+new.len=new.len:=by show 0+new.len=new.len;omega
      rw[hE]at g1 g2 g3
      rw[hvo,Array.empty_append]at g3
      exact hrow (ρr:=ρr) hh rd' (hh.drew 0).1 (fun base=>(hh.drew base).2) hn rfl (flat_free hfn hvf) g1 g2 g3
    ·cases hk
   | _=>cases h
 ·cases h
end
end Go.AM
end
noncomputable section
set_option linter.unusedVariables false
set_option linter.unusedSimpArgs false
namespace Go.AM
variable {R:Type}
def View.take:View->Nat->View
 | .list es,m=>.list (es.take m)
 | .fn _ f,m=>.fn m f
theorem read_take{P:Program}{w:World}{I:Nat->Prop}{φ:Phi}{rd:Nat->BS}{sz:Nat}{x:AV}{v:View}{u:Value}(hh:RH w I φ rd)(hv:x.view rd sz=some v)(hx:RV w I φ x u){m:Nat}(hm:m<=v.len) :
  ∃ vs,(∀ w':World,w'.heap=w.heap->(Builtin.firstCells sz m u).run P w'=.ok vs w')/\Flat w I (wphi φ v) sz m v.at vs:=by
 rcases view_ok hh hv hx with ⟨s,rfl,rfl,rfl⟩ | ⟨B,q,cap,rfl,hr⟩ | ⟨a,n,cap,rfl,h0,rfl⟩
 ·simp only[View.len]at hm
  refine⟨_,fun _ _=>rfl,?_⟩
  have hf:=str_flat w I s
  have hsz:(s.extract 0 m).size=m:=by simp;omega
  have hget:∀ (p:Nat) u,((s.extract 0 m).data.map fun b=>Value.int .u8 b.toNat)[p]? = some u->p<m/\(s.data.map fun b=>Value.int .u8 b.toNat)[p]? = some u:=by
   intro p u e
   have hp:p<m:=by
    have:=(Array.getElem?_eq_some_iff.1 e).1
    rw[Array.size_map]at this
    have h2:(s.extract 0 m).data.size=m:=hsz
    omega
   refine⟨hp,?_⟩
   rw[Array.getElem?_map]at e ⊢
   rw[<- e]
   congr 1
   rw[ByteArray.data_extract,Array.getElem?_extract]
   have:s.data.size=s.size:=rfl
   rw[if_pos (by omega),Nat.zero_add]
  exact⟨by simp;omega,fun p u e=>hf.one p u (hget p u e).2,fun i hi=>rfl,fun i k c u hi hc e=>hf.val i k c u (by omega) hc (hget _ u e).2⟩
 ·have hr':VRow w I φ sz (v.take m) B q:=by
   cases v with
   | list es=>
    simp only[View.len]at hm
    have hat:∀ i,i<m->View.at (.list (es.take m)) i=View.at (.list es) i:=by
     intro i hi
     simp[View.at,List.getD,List.getElem?_take,hi]
    refine⟨fun i hi=>?_,fun i hi=>?_⟩
    all_goals
     simp only[View.take,View.len,List.length_take]at hi
     have hi:i<m:=by omega
    ·rw[View.take,hat i hi];exact hr.len i (by simp only[View.len];omega)
    ·rw[View.take,hat i hi];exact hr.cells i (by simp only[View.len];omega)
   | fn n f=>
    simp only[View.len]at hm
    exact⟨fun i hi=>hr.len i (Nat.lt_of_lt_of_le hi hm),fun i hi=>hr.cells i (Nat.lt_of_lt_of_le hi hm)⟩
  have hl:(v.take m).len=m:=by
   cases v with
   | list es=>simp only[View.len]at hm;simp[View.take,View.len];omega
   | fn n f=>rfl
  obtain⟨vs,h1,h2,h3⟩:=vrow_cells hr'
  rw[hl]at h1 h3
  refine⟨vs.toArray,fun w' hw=>?_,⟨h3.size,h3.one,fun i hi=>?_,fun i k c u hi hc e=>?_⟩⟩
  ·simp only[Builtin.firstCells]
   refine run_loadCells_of vs h1 fun j v e=>?_
   have:=h2 j v e
   simpa [World.cell?,hw] using this
  all_goals
   have hat:v.at i=(v.take m).at i:=by
    cases v with
    | list es=>simp[View.take,View.at,List.getD,List.getElem?_take,hi]
    | fn n f=>rfl
   have hp:wphi φ (v.take m)=wphi φ v:=by cases v <;> rfl
  ·rw[hat];exact h3.len i hi
  ·rw[hat]at hc;rw[<- hp];exact h3.val i k c u hi hc e
 ·have:m=0:=by omega
  subst this
  refine⟨#[],fun _ _=>?_,⟨by simp,by simp,fun i hi=>by omega,fun i k c u hi=>by omega⟩⟩
  cases a with
  | none=>rfl
  | some a=>simp[Builtin.firstCells,loadCells,loadCellsFrom]
section
variable {P:Program} {tt:TT} {ρ:Operand->AV} {rd:Nat->BS} {nx:Nat} {k:AopK R} {r:R} {o:Oper} {c:Call} {b:Builtin}
theorem over_ok{od:Operand}(hm:od ∈ o.op.operands){sz b off len cm m:Nat}(hd:ρ od=.sl sz b off len cm)(h1sz:1<=sz)(hml:m<=len){resAV:AV}{resV:Value}(hres:∀ w I φ,RV w I φ resAV resV)
  {nf:Nat->List AV} {rdl:List Nat} (x':BS)
  (hsrc:∀ (rd':Nat->BS) (ρr:Operand->Value) (w:World) (φ:Phi) (I:Nat->Prop),(∀ b' ∈ b::rdl,rd' b'=rd b')->RH w I φ rd'->(∀ x ∈ o.op.operands,RV w I φ (ρ x) (ρr x)) ->
   ∃ vs:Array Value,Flat w I (vphi φ x') sz m nf vs /\ ∀ a cap w',ρr od=.slice a len cap->(match (generalizing:=false) a with | some a=>storeCells a vs.toList | none=>pure ()).run P w=.ok () w'->(execOp ρr o).run P w=.ok (.value resV) w')
  (g1:isRow x'=true) (g2:mutable x'=true) (g3:isRow (rd b)=true) (g4:mutable (rd b)=true) (g5:bsz x'=bsz (rd b)) (g6:∀ φ,vphi φ x'=vphi φ (rd b)) (g7:1<=m -> ∃ cs,elemAt (rd b) (off+m - 1)=some cs)
  (g8:∀ i cs',elemAt x' i=some cs'->(off<=i/\i<off+m/\cs'=nf (i - off))\/(¬ (off<=i/\i<off+m)/\elemAt (rd b) i=some cs')) (g9:m=0->x'=rd b)
  (hk:k resAV [(b,x')] (b::rdl)=some r):Good P o ρ rd k r:=by
 refine⟨_,_,_,hk,fun rd' ρr w φ I hrd _ hh hx=>?_⟩
 obtain⟨vs,hf,hrun⟩:=hsrc rd' ρr w φ I hrd hh hx
 have hb':=hrd b (by simp)
 have hs:=hd ▸ hx od hm
 by_cases hm0:m=0
 ·have hvs:vs = #[]:=by
   have:=hf.size
   rw[hm0,Nat.zero_mul]at this
   exact Array.eq_empty_of_size_eq_zero this
  have he:rdputs rd' [(b,x')]=rd':=by
   funext b'
   show rdput rd' b x' b'=rd' b'
   unfold rdput
   split
   ·rename_i e;rw[e,g9 hm0,hb']
   ·rfl
  obtain⟨a,cap,hu⟩:∃ a cap,ρr od=.slice a len cap:=by
   generalize ρr od=u at hs
   cases hs <;> exact⟨_,_,rfl⟩
  have:=hrun a cap w hu (by rw[hvs];cases a <;> rfl)
  exact⟨_,w,φ,I,.inl this,hres _ _ _,by rw[he];exact hh,fun base=>by rw[he];exact Step.refl _ _ _ _ _,Phi.le_refl _⟩
 ·generalize hu:ρr od=u at hs
  cases hs with
  | sl _ _ B obb _ _ _ cap q hφ hq hl hcc hs'=>
   obtain⟨w',hw1,hw2,hw3⟩:=write_range (P:=P) (p:=off) (m:=m) (nf:=nf) (vs:=vs) (x':=x') hh hφ (by rw[hb'];exact g4) (by rw[hb'];exact g3) hf h1sz (by omega)
    (by rw[hb'];exact g7 (by omega)) g1 g2 (by rw[hb'];exact g5) (by rw[hb'];exact g6 φ) (by rw[hb'];exact g8)
   have:=hrun _ cap w' hu (by simp only[];rw[hq];exact hw1)
   exact⟨_,w',φ,I,.inl this,hres _ _ _,hw2,hw3,Phi.le_refl _⟩
  | sle=>omega
theorem abcopy_ok(htt:TTok P tt)(ho:o.op=.call c)(hc:c.callee=.builtin .copy){d x:AV}{t:TypeId}{tr:List TypeId}(hargs:c.args.toList.map ρ=[d,x])
  (hts:c.argTypes.toList=t::tr) (h:abuiltK tt rd nx .copy (t::tr) [d,x] k=some r):Good P o ρ rd k r:=by
 simp only[abuiltK]at h
 obtain⟨ti,hti,h⟩:=onK_some h
 obtain⟨oa,ob,hab,had,hax⟩:=args2 hargs
 clear hargs
 have hm1:oa ∈ o.op.operands:=by simp[ho,Op.operands,Call.operands,hc,hab]
 have hm2:ob ∈ o.op.operands:=by simp[ho,Op.operands,Call.operands,hc,hab]
 have ht0:c.argTypes[0]? = some t:=by rw[<- Array.getElem?_toList,hts];rfl
 split at h
 ·rename_i e sz b off len cm hd had
  obtain⟨te,hte,h1⟩:=onK_some h
  clear h
  obtain⟨hcz,h2⟩:=cond_some h1
  clear h1
  obtain⟨hsz,h1sz⟩:=and_true' hcz
  have hsz:=Nat.eq_of_beq_eq_true hsz
  have h1sz:=Nat.le_of_ble_eq_true h1sz
  clear hcz
  subst hsz
  obtain⟨new,hnew,h⟩:=viewK_some h2
  clear h2
  have hsrc:∀ (x':BS),(∀ w I φ vn,Flat w I (wphi φ new) te.size (min new.len len) new.at vn->Flat w I (vphi φ x') te.size (min new.len len) new.at vn) ->
    ∀ (rd':Nat->BS) (ρr:Operand->Value) (w:World) (φ:Phi) (I:Nat->Prop),(∀ b' ∈ b::x.viewIds,rd' b'=rd b')->RH w I φ rd'->(∀ x ∈ o.op.operands,RV w I φ (ρ x) (ρr x)) ->
     ∃ vs:Array Value,Flat w I (vphi φ x') te.size (min new.len len) new.at vs /\ ∀ a cap w',ρr oa=.slice a len cap->(match (generalizing:=false) a with | some a=>storeCells a vs.toList | none=>pure ()).run P w=.ok () w'->(execOp ρr o).run P w=.ok (.value (.int .i64 (min new.len len:Nat))) w':=by
   intro x' hx' rd' ρr w φ I hrd hh hx
   have hxx:=hax ▸ hx ob hm2
   have hv2:x.view rd' te.size=some new:=by rw[view_agree fun b hb=>hrd b (by simp[hb])];exact hnew
   obtain⟨hl,_⟩:=read_view (P:=P) hh hv2 hxx
   obtain⟨vs,h1,h2⟩:=read_take (P:=P) hh hv2 hxx (m:=min new.len len) (Nat.min_le_left _ _)
   refine⟨vs,hx' w I φ vs h2,fun a cap w' ha hst=>?_⟩
   obtain⟨cs,hex⟩:=exec_builtin (P:=P) ho hc ρr w
   rw[hex,hab]
   have:(Builtin.copy_ c.argTypes o.type #[.slice a len cap,ρr ob]).run P w=.ok (.int .i64 (min new.len len:Nat)) w':=by
    have hnm:Nat.min new.len len=min new.len len:=rfl
    cases a with
    | none=>
     simp only[Sem.run_pure]at hst
     cases hst
     simp[Builtin.copy_,ht0,run_underlying (htt t ti hti),hd,hl w,run_sizeOf (htt e te hte),hnm,h1 w rfl,goInt]
    | some a=>
     simp only at hst
     simp[Builtin.copy_,ht0,run_underlying (htt t ti hti),hd,hl w,run_sizeOf (htt e te hte),hnm,h1 w rfl,hst,goInt]
   simp[builtin,ha,this]
  cases hb:rd b with
  | arr mu sz' es=>
   rw[hb]at h
   cases mu with
   | false=>cases h
   | true=>
   cases new with
   | fn n f=>cases h
   | list ns=>
   obtain⟨hle,h⟩:=cond_some h
   have hle:=Nat.le_of_ble_eq_true hle
   have hml:min ns.length len<=len:=Nat.min_le_right _ _
   have hml2:min ns.length len<=ns.length:=Nat.min_le_left _ _
   have htl:(ns.take (min ns.length len)).length=min ns.length len:=by simp
   refine over_ok (rd:=rd) hm1 had h1sz (m:=min ns.length len) hml (fun w I φ=>.int _ _) (.arr true sz' (es.take off++(ns.take (min ns.length len)++es.drop (off+min ns.length len)))) (hsrc _ fun w I φ vn hf=>by exact hf) rfl rfl (by rw[hb];rfl) (by rw[hb];rfl) (by rw[hb];rfl) (fun φ=>by rw[hb];rfl) ?_ ?_ ?_ h
   ·intro h1
    rw[hb]
    exact elem_list (by omega)
   ·intro i cs' e'
    rw[hb]
    simp only[elemAt]at e' ⊢
    have:=splice_list (es:=es) (ns:=ns.take (min ns.length len)) (p:=off) (by omega) i
    rw[htl]at this
    rw[this]at e'
    split at e'
    ·rename_i hpi
     refine .inl ⟨hpi.1,hpi.2,?_⟩
     rw[List.getElem?_take,if_pos (by omega)]at e'
     simp[View.at,List.getD,e']
    ·rename_i hpi
     exact .inr ⟨hpi,e'⟩
   ·intro h0
    rw[hb,h0]
    simp
  | seq mu sz' mm f=>
   rw[hb]at h
   cases mu with
   | false=>cases h
   | true=>
   generalize hnv:new=nv at h hsrc hnew
   have h:(bif vfree nv&&Nat.ble (off+len) mm then k (.int .i64 (min nv.len len:Nat)) [(b,.seq true sz' mm fun i=>bif Nat.blt i off then f i else bif Nat.blt i (off+min nv.len len)then nv.at (i - off)else f i)] (b::x.viewIds)else none)=some r:=h
   obtain⟨hcc,h⟩:=cond_some h
   obtain⟨hvf,hle⟩:=and_true' hcc
   have hle:=Nat.le_of_ble_eq_true hle
   have hml:min nv.len len<=len:=Nat.min_le_right _ _
   refine over_ok (rd:=rd) hm1 had h1sz (m:=min nv.len len) hml (fun w I φ=>.int _ _) (.seq true sz' mm fun i=>bif Nat.blt i off then f i else bif Nat.blt i (off+min nv.len len)then nv.at (i - off)else f i) (hsrc _ fun w I φ vn hf=>?_) rfl rfl (by rw[hb];rfl) (by rw[hb];rfl) (by rw[hb];rfl) (fun φ=>by rw[hb];rfl) ?_ ?_ ?_ h
   ·refine⟨hf.size,hf.one,hf.len,fun i q cc u hi hcq e'=>?_⟩
    have:=hf.val i q cc u hi hcq e'
    cases nv with
    | fn=>exact this
    | list ns=>
     simp only[vfree,List.all_eq_true]at hvf
     have hm:View.at (.list ns) i ∈ ns:=by
      simp only[View.at,List.getD,View.len]at hi ⊢
      rw[List.getElem?_eq_getElem (by omega)];exact List.getElem_mem _
     exact this.free (hvf _ hm _ (List.mem_of_getElem? hcq))
   ·intro h1
    rw[hb]
    simp only[elemAt]
    rw[if_pos (by omega)]
    exact⟨_,rfl⟩
   ·intro i cs' e'
    rw[hb]
    simp only[elemAt]at e' ⊢
    split at e'
    ·rename_i hi
     simp only[Option.some.injEq]at e'
     by_cases h1:i<off
     ·have:Nat.blt i off=true:=by rw[Nat.blt_eq];exact h1
      rw[this,cond_true]at e'
      exact .inr ⟨by omega,by rw[if_pos hi,e']⟩
     ·have hbf:Nat.blt i off=false:=by
       cases hq:Nat.blt i off with
       | false=>rfl
       | true=>rw[Nat.blt_eq]at hq;omega
      rw[hbf,cond_false]at e'
      by_cases h2:i<off+min nv.len len
      ·have:Nat.blt i (off+min nv.len len)=true:=by rw[Nat.blt_eq];exact h2
       rw[this,cond_true]at e'
       exact .inl ⟨by omega,h2,e'.symm⟩
      ·have hbf2:Nat.blt i (off+min nv.len len)=false:=by
        cases hq:Nat.blt i (off+min nv.len len)with
        | false=>rfl
        | true=>rw[Nat.blt_eq]at hq;omega
       rw[hbf2,cond_false]at e'
       exact .inr ⟨by omega,by rw[if_pos hi,e']⟩
    ·cases e'
   ·intro h0
    rw[hb,h0]
    congr 1
    funext i
    by_cases h1:i<off
    ·rw[show Nat.blt i off=true by rw[Nat.blt_eq];exact h1];rfl
    ·have hbf:Nat.blt i off=false:=by
      cases hq:Nat.blt i off with
      | false=>rfl
      | true=>rw[Nat.blt_eq]at hq;omega
     rw[hbf,cond_false,Nat.add_zero,hbf];rfl
  | _=>rw[hb]at h;cases h
 ·cases h
theorem abclear_ok(htt:TTok P tt)(ho:o.op=.call c)(hc:c.callee=.builtin .clear){x:AV}{t:TypeId}(hargs:c.args.toList.map ρ=[x])
  (hts:c.argTypes.toList=[t]) (h:abuiltK tt rd nx .clear [t] [x] k=some r):Good P o ρ rd k r:=by
 simp only[abuiltK]at h
 obtain⟨ti,hti,h⟩:=onK_some h
 obtain⟨oa,hab,hax⟩:=args1 hargs
 clear hargs
 have hm1:oa ∈ o.op.operands:=by simp[ho,Op.operands,Call.operands,hc,hab]
 have ht0:c.argTypes[0]? = some t:=by rw[<- Array.getElem?_toList,hts];rfl
 have hex:∀ (ρr:Operand->Value) (w w':World) (u:Value),(Builtin.clear_ c.argTypes o.type #[ρr oa]).run P w=.ok u w'->(execOp ρr o).run P w=.ok (.value u) w':=by
  intro ρr w w' u hu
  obtain⟨cs,e⟩:=exec_builtin (P:=P) ho hc ρr w
  rw[e,hab]
  simp[builtin,hu]
 have htup:∀ (w:World) (I:Nat->Prop) (φ:Phi),RV w I φ (.tup []) (.tuple #[]):=fun w I φ=>.tup _ _ rfl fun k c u e=>by simp at e
 have hu:=run_underlying (htt t ti hti)
 split at h
 ·rename_i e hd
  refine Good.pure h fun ρr w φ I hx=>⟨_,hex ρr w w (.tuple #[]) ?_,htup w I φ⟩
  have hp:=hx oa hm1
  rw[hax]at hp
  generalize ρr oa=u at hp
  cases hp
  simp[Builtin.clear_,ht0,hu,hd]
 ·rename_i e sz b off len cm hd hax
  obtain⟨te,hte,h1⟩:=onK_some h
  clear h
  obtain⟨z,hz,h2⟩:=onK_some h1
  clear h1
  cases h0:Nat.beq len 0 with
  | true=>
   rw[h0,cond_true]at h2
   have h0:=Nat.eq_of_beq_eq_true h0
   refine Good.pure h2 fun ρr w φ I hx=>⟨_,hex ρr w w (.tuple #[]) ?_,htup w I φ⟩
   have hp:=hx oa hm1
   rw[hax,h0]at hp
   generalize ρr oa=u at hp
   obtain⟨a,cap,rfl⟩:∃ a cap,u=.slice a 0 cap:=by cases hp <;> exact⟨_,_,rfl⟩
   cases a <;> simp[Builtin.clear_,ht0,hu,hd]
  | false=>
   rw[h0,cond_false]at h2
   have hlen:1<=len:=by
    rcases Nat.eq_zero_or_pos len with e | e
    ·subst e;simp at h0
    ·exact e
   obtain⟨hcz,h3⟩:=cond_some h2
   clear h2
   obtain⟨hsz,hcz⟩:=and_true' hcz
   obtain⟨hzl,h1sz⟩:=and_true' hcz
   have h1sz:=Nat.le_of_ble_eq_true h1sz
   have hsz:=Nat.eq_of_beq_eq_true hsz
   have hzl:=Nat.eq_of_beq_eq_true hzl
   subst hsz
   revert h3
   intro h
   have hsrc:1<=te.size -> ∀ (x':BS),
     ∀ (rd':Nat->BS) (ρr:Operand->Value) (w:World) (φ:Phi) (I:Nat->Prop),(∀ b' ∈ b::[],rd' b'=rd b')->RH w I φ rd'->(∀ x ∈ o.op.operands,RV w I φ (ρ x) (ρr x)) ->
      ∃ vs:Array Value,Flat w I (vphi φ x') te.size len (fun _=>z) vs /\ ∀ a cap w',ρr oa=.slice a len cap->(match (generalizing:=false) a with | some a=>storeCells a vs.toList | none=>pure ()).run P w=.ok () w'->(execOp ρr o).run P w=.ok (.value (.tuple #[])) w':=by
    intro h1sz x' rd' ρr w φ I hrd hh hx
    obtain⟨v,hv,_,_,hrc⟩:=run_zero (htt e te hte) hz w I (vphi φ x')
    have hzr:=hrc.zeros (by omega) len
    have hvs:z.length=v.cells.size:=hrc.1
    refine⟨Builtin.zeroCells v.cells len,⟨by simp[Builtin.zeroCells,<- hvs,hzl],hzr.2.1,fun i _=>hzl,fun i k c u hi hc e=>?_⟩,fun a cap w' ha hst=>hex ρr w w' _ ?_⟩
    ·refine hzr.2.2 (i*te.size+k) c u ?_ e
     have hk:k<te.size:=by
      have:=(List.getElem?_eq_some_iff.1 hc).1
      omega
     have hp:=idx_lt hi hk
     unfold AM.zeros
     rw[List.getElem?_map,List.getElem?_range (by rw[hzl];exact hp)]
     simp only[Option.map_some,Option.some.injEq]
     have:(i*te.size+k) % z.length=k:=by
      rw[hzl,Nat.mul_comm,Nat.mul_add_mod,Nat.mod_eq_of_lt hk]
     rw[this,List.getD,hc,Option.getD_some]
    ·rw[ha]
     obtain⟨n,rfl⟩:∃ n,len=n+1:=⟨len - 1,by omega⟩
     cases a with
     | none=>
      simp only[Sem.run_pure]at hst
      cases hst
      simp[Builtin.clear_,ht0,hu,hd]
     | some a=>
      simp only at hst
      simp[Builtin.clear_,ht0,hu,hd,hv,hst]
   split at h
   ·rename_i sz' es hb
    obtain⟨hle,h⟩:=cond_some h
    have hle:=Nat.le_of_ble_eq_true hle
    have hrl:(List.replicate len z).length=len:=by simp
    ·refine over_ok (rd:=rd) hm1 hax h1sz (m:=len) (Nat.le_refl _) htup (.arr true sz' (es.take off++(List.replicate len z++es.drop (off+len)))) (hsrc h1sz _) rfl rfl (by rw[hb];rfl) (by rw[hb];rfl) (by rw[hb];rfl) (fun φ=>by rw[hb];rfl) ?_ ?_ ?_ h
     ·intro h1
      rw[hb]
      exact elem_list (by omega)
     ·intro i cs' e'
      rw[hb]
      simp only[elemAt]at e' ⊢
      have:=splice_list (es:=es) (ns:=List.replicate len z) (p:=off) (by omega) i
      rw[hrl]at this
      rw[this]at e'
      split at e'
      ·rename_i hpi
       refine .inl ⟨hpi.1,hpi.2,?_⟩
       rw[List.getElem?_replicate,if_pos (by omega)]at e'
       cases e';rfl
      ·rename_i hpi
       exact .inr ⟨hpi,e'⟩
     ·intro h0;omega
   ·rename_i sz' mm f hb
    obtain⟨hle,h⟩:=cond_some h
    have hle:=Nat.le_of_ble_eq_true hle
    ·refine over_ok (rd:=rd) hm1 hax h1sz (m:=len) (Nat.le_refl _) htup (.seq true sz' mm fun i=>bif Nat.blt i off then f i else bif Nat.blt i (off+len)then z else f i) (hsrc h1sz _) rfl rfl (by rw[hb];rfl) (by rw[hb];rfl) (by rw[hb];rfl) (fun φ=>by rw[hb];rfl) ?_ ?_ ?_ h
     ·intro h1
      rw[hb]
      simp only[elemAt]
      rw[if_pos (by omega)]
      exact⟨_,rfl⟩
     ·intro i cs' e'
      rw[hb]
      simp only[elemAt]at e' ⊢
      split at e'
      ·rename_i hi
       simp only[Option.some.injEq]at e'
       by_cases h1:i<off
       ·have:Nat.blt i off=true:=by rw[Nat.blt_eq];exact h1
        rw[this,cond_true]at e'
        exact .inr ⟨by omega,by rw[if_pos hi,e']⟩
       ·have hbf:Nat.blt i off=false:=by
         cases hq:Nat.blt i off with
         | false=>rfl
         | true=>rw[Nat.blt_eq]at hq;omega
        rw[hbf,cond_false]at e'
        by_cases h2:i<off+len
        ·have:Nat.blt i (off+len)=true:=by rw[Nat.blt_eq];exact h2
         rw[this,cond_true]at e'
         exact .inl ⟨by omega,h2,e'.symm⟩
        ·have hbf2:Nat.blt i (off+len)=false:=by
          cases hq:Nat.blt i (off+len)with
          | false=>rfl
          | true=>rw[Nat.blt_eq]at hq;omega
         rw[hbf2,cond_false]at e'
         exact .inr ⟨by omega,by rw[if_pos hi,e']⟩
      ·cases e'
     ·intro h0;omega
   ·cases h
 ·cases h
theorem abnum_ok(ho:o.op=.call c)(hc:c.callee=.builtin b){args:List AV}(hargs:c.args.toList.map ρ=args){ts:List TypeId}(hts:c.argTypes.toList=ts)
  (hb:b=.complex\/b=.real\/b=.imag\/b=.min\/b=.max) (h:abuiltK tt rd nx b ts args k=some r):Good P o ρ rd k r:=by
 have one:∀ {x v:AV},args=[x]->k v [] []=some r->(∀ (w:World) (I:Nat->Prop) (φ:Phi) (u:Value) cs,RV w I φ x u -> ∃ u',(builtin b c.argTypes o.type cs #[u]).run P w=.ok (.value u') w/\RV w I φ v u')->Good P o ρ rd k r:=by
  intro x v e hk hr
  rw[e]at hargs
  obtain⟨oa,hab,hax⟩:=args1 hargs
  refine Good.pure hk fun ρr w φ I hx=>?_
  obtain⟨cs,hex⟩:=exec_builtin (P:=P) ho hc ρr w
  have:=hx oa (by simp[ho,Op.operands,Call.operands,hc,hab])
  rw[hax]at this
  obtain⟨u',h1,h2⟩:=hr w I φ _ cs this
  exact⟨u',by rw[hex,hab];simpa using h1,h2⟩
 have two:∀ {x y v:AV},args=[x,y]->k v [] []=some r->(∀ (w:World) (I:Nat->Prop) (φ:Phi) (u u2:Value) cs,RV w I φ x u->RV w I φ y u2 -> ∃ u',(builtin b c.argTypes o.type cs #[u,u2]).run P w=.ok (.value u') w/\RV w I φ v u')->Good P o ρ rd k r:=by
  intro x y v e hk hr
  rw[e]at hargs
  obtain⟨oa,ob,hab,hax,hbx⟩:=args2 hargs
  refine Good.pure hk fun ρr w φ I hx=>?_
  obtain⟨cs,hex⟩:=exec_builtin (P:=P) ho hc ρr w
  have g1:=hx oa (by simp[ho,Op.operands,Call.operands,hc,hab])
  have g2:=hx ob (by simp[ho,Op.operands,Call.operands,hc,hab])
  rw[hax]at g1
  rw[hbx]at g2
  obtain⟨u',h1,h2⟩:=hr w I φ _ _ cs g1 g2
  exact⟨u',by rw[hex,hab];simpa using h1,h2⟩
 rcases hb with rfl | rfl | rfl | rfl | rfl
 ·cases args with
  | nil=>cases h
  | cons x l=>cases l with
   | nil=>cases x <;> cases h
   | cons y l=>cases l with
    | cons z l=>cases x <;> cases y <;> cases h
    | nil=>
     cases x <;> try (cases h;done)
     cases y <;> try (cases h;done)
     rename_i kd a kd' a'
     have h:(bif fkindEq kd kd' then k (.cplx kd a a') [] []else none)=some r:=h
     obtain⟨hkd,h2⟩:=cond_some h
     have hkd:kd=kd':=of_decide_eq_true hkd
     clear h
     subst hkd
     refine two rfl h2 fun w I φ u u2 cs g1 g2=>?_
     cases g1;cases g2
     refine⟨.complex kd a a',?_,.cplx _ _ _⟩
     show(do let r<-((if kd=kd then pure (Value.complex kd a a')else stuck _:Sem Value));pure (Next.value r):Sem Next).run P w=_
     rw[if_pos rfl]
     rfl
 ·cases args with
  | nil=>cases h
  | cons x l=>cases l with
   | cons y l=>cases x <;> cases h
   | nil=>
    cases x <;> try (cases h;done)
    refine one rfl h fun w I φ u cs g1=>?_
    cases g1
    exact⟨_,rfl,.flt _ _⟩
 ·cases args with
  | nil=>cases h
  | cons x l=>cases l with
   | cons y l=>cases x <;> cases h
   | nil=>
    cases x <;> try (cases h;done)
    refine one rfl h fun w I φ u cs g1=>?_
    cases g1
    exact⟨_,rfl,.flt _ _⟩
 ·cases args with
  | nil=>cases h
  | cons x l=>cases l with
   | nil=>cases x <;> cases h
   | cons y l=>cases l with
    | cons z l=>cases x <;> cases y <;> cases h
    | nil=>
     cases x <;> try (cases h;done)
     cases y <;> try (cases h;done)
     rename_i kd a kd' a'
     refine two rfl h fun w I φ u u2 cs g1 g2=>?_
     cases g1;cases g2
     refine⟨.int kd (if a'<a then a' else a),by simp[builtin,Builtin.min_,Builtin.min2],?_⟩
     cases hd:decide (a'<a)with
     | true=>rw[if_pos (of_decide_eq_true hd)];exact .int _ _
     | false=>rw[if_neg (of_decide_eq_false hd)];exact .int _ _
 ·cases args with
  | nil=>cases h
  | cons x l=>cases l with
   | nil=>cases x <;> cases h
   | cons y l=>cases l with
    | cons z l=>cases x <;> cases y <;> cases h
    | nil=>
     cases x <;> try (cases h;done)
     cases y <;> try (cases h;done)
     rename_i kd a kd' a'
     refine two rfl h fun w I φ u u2 cs g1 g2=>?_
     cases g1;cases g2
     refine⟨.int kd (if a' > a then a' else a),by simp[builtin,Builtin.max_,Builtin.max2],?_⟩
     cases hd:decide (a<a')with
     | true=>rw[if_pos (show a' > a from of_decide_eq_true hd)];exact .int _ _
     | false=>rw[if_neg (show ¬ a' > a from of_decide_eq_false hd)];exact .int _ _
end
end Go.AM
end
noncomputable section
set_option linter.unusedVariables false
set_option linter.unusedSimpArgs false
namespace Go.AM
variable {R:Type}
section
variable {P:Program} {tt:TT} {ρ:Operand->AV} {rd:Nat->BS} {nx:Nat} {k:AopK R} {r:R} {o:Oper} {c:Call} {b:Builtin}
theorem abuilt_ok(htt:TTok P tt)(hnx:rd nx=.none)(ho:o.op=.call c)(hc:c.callee=.builtin b)(h:abuiltK tt rd nx b c.argTypes.toList (c.args.toList.map ρ) k=some r):Good P o ρ rd k r:=by
 generalize hargs:c.args.toList.map ρ=args at h
 generalize hts:c.argTypes.toList=ts at h
 cases b with
 | len=>
  cases args with
  | nil=>cases h
  | cons x l=>cases l with
   | cons y l=>cases h
   | nil=>cases ts with
    | nil=>cases h
    | cons t tr=>cases tr with
     | cons t2 tr=>cases h
     | nil=>exact ablen_ok htt ho hc hargs hts h
 | append=>
  cases args with
  | nil=>cases h
  | cons x l=>cases l with
   | nil=>cases h
   | cons y l=>cases l with
    | cons z l=>cases h
    | nil=>cases ts with
     | nil=>cases h
     | cons t tr=>exact abappend_ok htt hnx ho hc hargs hts h
 | copy=>
  cases args with
  | nil=>cases h
  | cons x l=>cases l with
   | nil=>cases h
   | cons y l=>cases l with
    | cons z l=>cases h
    | nil=>cases ts with
     | nil=>cases h
     | cons t tr=>exact abcopy_ok htt ho hc hargs hts h
 | clear=>
  cases args with
  | nil=>cases h
  | cons x l=>cases l with
   | cons y l=>cases h
   | nil=>cases ts with
    | nil=>cases h
    | cons t tr=>cases tr with
     | cons t2 tr=>cases h
     | nil=>exact abclear_ok htt ho hc hargs hts h
 | complex=>exact abnum_ok ho hc hargs hts (.inl rfl) h
 | real=>exact abnum_ok ho hc hargs hts (.inr (.inl rfl)) h
 | imag=>exact abnum_ok ho hc hargs hts (.inr (.inr (.inl rfl))) h
 | min=>exact abnum_ok ho hc hargs hts (.inr (.inr (.inr (.inl rfl)))) h
 | max=>exact abnum_ok ho hc hargs hts (.inr (.inr (.inr (.inr rfl)))) h
 | _=>simp[abuiltK]at h
end
end Go.AM
end
noncomputable section
set_option linter.unusedVariables false
set_option linter.unusedSimpArgs false
namespace Go.AM
def InL(φ:Phi)(l:List Nat)(B:Nat):Prop:=∃ b ∈ l,∃ o sz,φ b=some (B,o,sz)
section
variable {w:World} {I:Nat->Prop} {φ:Phi} {rd:Nat->BS}
def SnapV(w:World)(I:Nat->Prop)(φ:Phi)(l:List Nat)(v v':AV):Prop:=
 ∀ I':Nat->Prop,(∀ B,I B->I' B)->(∀ B,InL φ l B->I' B) -> ∀ u,RV w I φ v u->RV w I' Phi.no v' u
theorem SnapV.more{l l':List Nat}{v v':AV}(h:SnapV w I φ l v v')(hl:∀ b ∈ l,b ∈ l'):SnapV w I φ l' v v':=
 fun I' h1 h2 u hu=>h I' h1 (fun B ⟨b,hb,r⟩=>h2 B ⟨b,hl b hb,r⟩) u hu
def SnapL(w:World)(I:Nat->Prop)(φ:Phi)(l:List Nat)(cs cs':List AV):Prop:=
 cs'.length=cs.length /\ ∀ (k:Nat) c',cs'[k]? = some c' -> ∃ c,cs[k]? = some c/\SnapV w I φ l c c'
theorem SnapL.more{l l':List Nat}{v v':List AV}(h:SnapL w I φ l v v')(hl:∀ b ∈ l,b ∈ l'):SnapL w I φ l' v v':=
 ⟨h.1,fun k c' e=>let ⟨c,e',s⟩:=h.2 k c' e;⟨c,e',s.more hl⟩⟩
theorem SnapL.nil{l:List Nat}:SnapL w I φ l [] []:=⟨rfl,fun k c' e=>by simp at e⟩
theorem SnapL.cons{l:List Nat}{v v':AV}{cs cs':List AV}(h:SnapV w I φ l v v')(hs:SnapL w I φ l cs cs'):SnapL w I φ l (v::cs) (v'::cs'):=by
 refine⟨by simp[hs.1],fun k c' e=>?_⟩
 cases k with
 | zero=>simp at e;exact⟨v,rfl,e ▸ h⟩
 | succ k=>simp at e;obtain⟨c,e',s⟩:=hs.2 k c' e;exact⟨c,by simpa using e',s⟩
def SnapLL(w:World)(I:Nat->Prop)(φ:Phi)(l:List Nat)(es es':List (List AV)):Prop:=
 es'.length=es.length /\ ∀ (k:Nat) c',es'[k]? = some c' -> ∃ c,es[k]? = some c/\SnapL w I φ l c c'
theorem SnapLL.nil{l:List Nat}:SnapLL w I φ l [] []:=⟨rfl,fun k c' e=>by simp at e⟩
theorem SnapLL.cons{l:List Nat}{v v':List AV}{cs cs':List (List AV)}(h:SnapL w I φ l v v')(hs:SnapLL w I φ l cs cs'):SnapLL w I φ l (v::cs) (v'::cs'):=by
 refine⟨by simp[hs.1],fun k c' e=>?_⟩
 cases k with
 | zero=>simp at e;exact⟨v,rfl,e ▸ h⟩
 | succ k=>simp at e;obtain⟨c,e',s⟩:=hs.2 k c' e;exact⟨c,by simpa using e',s⟩
theorem SnapLL.more{l l':List Nat}{v v':List (List AV)}(h:SnapLL w I φ l v v')(hl:∀ b ∈ l,b ∈ l'):SnapLL w I φ l' v v':=
 ⟨h.1,fun k c' e=>let ⟨c,e',s⟩:=h.2 k c' e;⟨c,e',s.more hl⟩⟩
theorem SnapV.self{l:List Nat}{v:AV}(h:refFree v=true):SnapV w I φ l v v:=
 fun I' h1 _ u hu=>(hu.free h).mono (fun B hB=>⟨h1 B hB,rfl⟩) (fun _=>Nat.le_refl _) (Phi.le_refl _)
theorem SnapV.row{l:List Nat}{b B0 o0 sz0:Nat}{sz off len cm n:Nat}{f:Nat->List AV}(hb:φ b=some (B0,o0,sz0))(hl:b ∈ l)(hlive:0<len)
  (hn:n=len) (hlen:∀ i,i<len->(f i).length=sz)
  (hcells:∀ I':Nat->Prop,(∀ B,I B->I' B)->(∀ B,InL φ l B->I' B)->sz0=sz -> ∀ (i k:Nat) c,i<len->(f i)[k]? = some c -> ∃ u,w.cell? ⟨B0,o0+(off+i)*sz+k,none⟩=some u/\u.oneCell'=true/\RV w I' Phi.no c u) :
  SnapV w I φ l (.sl sz b off len cm) (.tr sz n f):=by
 intro I' h1 h2 u hu
 subst hn
 cases hu with
 | sl _ _ B o _ _ _ cap q hφ hq hl' hc hs=>
  rw[hb]at hφ;cases hφ
  have hc':=hcells I' h1 h2 rfl
  refine .tr sz0 n f B0 q cap (fun i k=>(w.cell? ⟨B0,o0+(off+i)*sz0+k,none⟩).getD undef) (fun _=>h2 B0 ⟨b,hl,_,_,hb⟩) hl' (fun _=>by rw[hq];have:=hs;rw[Nat.add_mul]at this;omega) hlen (fun i k c hi e=>?_) (fun i k c hi e=>?_) (fun i k c hi e=>?_)
  ·obtain⟨u,e1,e2,e3⟩:=hc' i k c hi e
   rw[e1,hq,show o0+off*sz0+i*sz0+k=o0+(off+i)*sz0+k by rw[Nat.add_mul];omega,e1];rfl
  ·obtain⟨u,e1,e2,e3⟩:=hc' i k c hi e
   rw[e1];exact e2
  ·obtain⟨u,e1,e2,e3⟩:=hc' i k c hi e
   rw[e1];exact e3
 | sle=>omega
theorem memb_iff(b:Nat):∀ l,memb b l=true ↔ b ∈ l
 | []=>by simp[memb]
 | x::r=>by
  rw[memb]
  cases h:Nat.beq x b with
  | true=>simp[Nat.eq_of_beq_eq_true h]
  | false=>
   have:x ≠ b:=fun e=>by subst e;simp at h
   rw[cond_false,memb_iff b r]
   simp[Ne.symm this]
theorem snapG_ok{rd':Nat->BS}(hh:RH w I φ rd'):∀ d,
  (∀ v v' l,snapG d rd v=some (v',l,true)->(∀ b ∈ l,rd' b=rd b)->(∀ b ∈ l,live (rd' b)=true)/\SnapV w I φ l v v') /\
  (∀ v v' l,snapLG d rd v=some (v',l,true)->(∀ b ∈ l,rd' b=rd b)->(∀ b ∈ l,live (rd' b)=true)/\SnapL w I φ l v v') /\
  (∀ v v' l,snapLLG d rd v=some (v',l,true)->(∀ b ∈ l,rd' b=rd b)->(∀ b ∈ l,live (rd' b)=true)/\SnapLL w I φ l v v'):=by
 intro d
 induction d with
 | zero=>exact⟨fun v v' l h=>(by simp[snapG]at h),fun v v' l h=>(by simp[snapLG]at h),fun v v' l h=>(by simp[snapLLG]at h)⟩
 | succ d ih=>
  obtain⟨ih1,ih2,ih3⟩:=ih
  refine⟨fun v v' l h hr=>?_,fun v v' l h hr=>?_,fun v v' l h hr=>?_⟩
  ·unfold snapG at h
   cases v with
   | ptr b i j=>
    simp only at h
    cases hb:rd b with
    | arr m s es=>
     rw[hb]at h
     simp only at h
     cases he:es[i]? with
     | none=>rw[he]at h;cases h
     | some cs=>
      rw[he]at h
      simp only at h
      cases hs:snapLG d rd cs with
      | none=>rw[hs]at h;cases h
      | some p=>
       obtain⟨cs',l',g⟩:=p
       rw[hs]at h
       cases h
       obtain⟨hl,hlen,hsn⟩:=ih2 _ _ _ hs fun b hb=>hr b (by simp[hb])
       refine⟨fun b' hb'=>?_,fun I' h1 h2 u hu=>?_⟩
       ·rcases List.mem_cons.1 hb' with e | e
        ·rw[e,hr b (by simp),hb];rfl
        ·exact hl b' e
       ·cases hu with
        | ptr _ B o sz _ _ q hφ hq=>
         obtain⟨B',o',sz',e',hrb⟩:=hh.blkO hφ (by rw[hr b (by simp),hb];rfl)
         rw[hφ]at e';cases e'
         rw[hr b (by simp),hb]at hrb
         obtain⟨rfl,_,hel,hcs⟩:=hrb
         have key:∀ (k:Nat) c',cs'[k]? = some c' -> ∃ u,w.cell? ⟨B,o+i*s+k,none⟩=some u/\u.oneCell'=true/\RV w I' Phi.no c' u:=by
          intro k c' e
          obtain⟨c,e1,e2⟩:=hsn k c' e
          obtain⟨u,a1,a2,a3⟩:=hcs i cs k c he e1
          exact⟨u,a1,a2,e2 I' h1 (fun B ⟨b',hb',r⟩=>h2 B ⟨b',by simp[hb'],r⟩) u a3⟩
         refine .tp cs' j B (o+i*s) q (fun k=>(w.cell? ⟨B,o+i*s+k,none⟩).getD undef) (h2 B ⟨b,by simp,_,_,hφ⟩) hq (fun k c e=>?_) (fun k c e=>?_) (fun k c e=>?_)
         all_goals
          obtain⟨u,a1,a2,a3⟩:=key k c e
          rw[a1]
          first | rfl | exact a2 | exact a3
    | seq m s n f=>
     rw[hb]at h
     simp only[Option.some.injEq,Prod.mk.injEq]at h
     obtain⟨rfl,rfl,hi⟩:=h
     have hi:i<n:=by simpa [Nat.blt_eq] using hi
     refine⟨fun b' hb'=>?_,fun I' h1 h2 u hu=>?_⟩
     ·simp at hb';rw[hb',hr b (by simp),hb];rfl
     ·cases hu with
      | ptr _ B o sz _ _ q hφ hq=>
       obtain⟨B',o',sz',e',hrb⟩:=hh.blkO hφ (by rw[hr b (by simp),hb];rfl)
       rw[hφ]at e';cases e'
       rw[hr b (by simp),hb]at hrb
       obtain⟨rfl,_,hel,hcs⟩:=hrb
       have key:∀ (k:Nat) c',(f i)[k]? = some c' -> ∃ u,w.cell? ⟨B,o+i*s+k,none⟩=some u/\u.oneCell'=true/\RV w I' Phi.no c' u:=by
        intro k c' e
        obtain⟨u,a1,a2,a3⟩:=hcs i k c' hi e
        exact⟨u,a1,a2,a3.mono (fun B hB=>⟨h1 B hB,rfl⟩) (fun _=>Nat.le_refl _) (Phi.le_refl _)⟩
       refine .tp (f i) j B (o+i*s) q (fun k=>(w.cell? ⟨B,o+i*s+k,none⟩).getD undef) (h2 B ⟨b,by simp,_,_,hφ⟩) hq (fun k c e=>?_) (fun k c e=>?_) (fun k c e=>?_)
       all_goals
        obtain⟨u,a1,a2,a3⟩:=key k c e
        rw[a1]
        first | rfl | exact a2 | exact a3
    | none=>rw[hb]at h;cases h
    | dead=>rw[hb]at h;cases h
    | map m es=>rw[hb]at h;cases h
    | iter m es st=>rw[hb]at h;cases h
    | sqr m s n f i0 c0 ks cur=>rw[hb]at h;cases h
    | pmap m ks val=>rw[hb]at h;cases h
    | piter m ks val rem cur=>rw[hb]at h;cases h
   | sl sz b off len cm=>
    simp only at h
    have empty:len=0->SnapV w I φ [] (.sl sz b off len cm) (.trl sz []):=by
     rintro rfl I' h1 h2 u hu
     refine .trl _ _ _ ?_ (by rintro rfl;cases hu)
     cases hu with
     | sl _ _ B o _ _ _ cap q hφ hq hl' hc hs=>
      exact .tr sz 0 _ B q cap (fun _ _=>undef) (fun h0=>absurd h0 (Nat.lt_irrefl 0)) (Nat.zero_le _) (fun h0=>absurd h0 (Nat.lt_irrefl 0)) (fun i hi=>by omega) (fun i k c hi=>by omega) (fun i k c hi=>by omega) (fun i k c hi=>by omega)
     | sle _ _ _ a=>exact .trn sz _ a
    cases hb:rd b with
    | arr m s es=>
     rw[hb]at h
     simp only at h
     cases hs:snapLLG d rd ((es.drop off).take len)with
     | none=>rw[hs]at h;cases h
     | some p=>
      obtain⟨es',l',g⟩:=p
      rw[hs]at h
      simp only[Option.some.injEq,Prod.mk.injEq]at h
      obtain⟨rfl,rfl,hg⟩:=h
      obtain⟨rfl,hg2⟩:=and_true' hg
      obtain⟨hl,hlen,hsn⟩:=ih3 _ _ _ hs fun b hb=>hr b (by simp[hb])
      refine⟨fun b' hb'=>?_,?_⟩
      ·rcases List.mem_cons.1 hb' with e | e
       ·rw[e,hr b (by simp),hb];rfl
       ·exact hl b' e
      by_cases hz:len=0
      ·have:es'=[]:=List.eq_nil_of_length_eq_zero (by rw[hlen,hz];simp)
       subst this
       exact(empty hz).more fun b' hb'=>by simp at hb'
      ·have hle:off+len<=es.length:=by
        rcases or_true' hg2 with h' | h'
        ·exact absurd (Nat.eq_of_beq_eq_true h') hz
        ·have:=Nat.le_of_ble_eq_true h';omega
       have hz:0<len:=Nat.pos_of_ne_zero hz
       obtain⟨B0,o0,sz0,hφ,hrb⟩:=hh.blkN (b:=b) (by rw[hr b (by simp),hb];exact fun h=>by first | exact h | (simp only[phantom]at h;omega)) (by rw[hr b (by simp),hb];rfl)
       rw[hr b (by simp),hb]at hrb
       obtain⟨rfl,_,hel,hcs⟩:=hrb
       have hlen':es'.length=len:=by rw[hlen];simp;omega
       have hat:∀ i,i<len -> ∃ cs',es'[i]? = some cs' /\ ∃ cs,es[off+i]? = some cs/\SnapL w I φ l' cs cs':=by
        intro i hi
        obtain⟨cs',e⟩:=elem_list (es:=es') (i:=i) (by omega)
        obtain⟨cs,e1,e2⟩:=hsn i cs' e
        rw[List.getElem?_take,if_pos hi,List.getElem?_drop]at e1
        exact⟨cs',e,cs,e1,e2⟩
       intro I' h1 h2 u hu
       refine .trl _ _ _ ?_ (by rintro rfl;cases hu)
       rw[hlen']
       by_cases hss:s=sz
       ·subst hss
        refine SnapV.row (l:=b::l') hφ (by simp) hz rfl (fun i hi=>?_) (fun I' h1 h2 _ i k c hi e=>?_) I' h1 h2 u hu
        ·obtain⟨cs',e,cs,e1,e2⟩:=hat i hi
         simp only[List.getD,e,Option.getD_some]
         rw[e2.1];exact hel _ _ e1
        ·obtain⟨cs',e',cs,e1,e2⟩:=hat i hi
         simp only[List.getD,e',Option.getD_some]at e
         obtain⟨c0,e3,e4⟩:=e2.2 k c e
         obtain⟨u,a1,a2,a3⟩:=hcs _ cs k c0 e1 e3
         exact⟨u,a1,a2,e4 I' h1 (fun B ⟨b',hb',r⟩=>h2 B ⟨b',by simp[hb'],r⟩) u a3⟩
       ·cases hu with
        | sl _ _ B o _ _ _ cap q hφ' _ _ _ _=>rw[hφ]at hφ';cases hφ';exact absurd rfl hss
        | sle=>omega
    | seq m s n f=>
     rw[hb]at h
     simp only[Option.some.injEq,Prod.mk.injEq]at h
     obtain⟨rfl,rfl,hg⟩:=h
     refine⟨fun b' hb'=>by simp at hb';rw[hb',hr b (by simp),hb];rfl,?_⟩
     by_cases hz:len=0
     ·subst hz
      intro I' h1 h2 u hu
      cases hu with
      | sl _ _ B o _ _ _ cap q hφ hq hl' hc hs=>
       exact .tr sz 0 _ B q cap (fun _ _=>undef) (fun h0=>absurd h0 (Nat.lt_irrefl 0)) (Nat.zero_le _) (fun h0=>absurd h0 (Nat.lt_irrefl 0)) (fun i hi=>by omega) (fun i k c hi=>by omega) (fun i k c hi=>by omega) (fun i k c hi=>by omega)
      | sle _ _ _ a=>exact .trn sz _ a
     ·have hle:off+len<=n:=by
       rcases or_true' hg with h' | h'
       ·exact absurd (Nat.eq_of_beq_eq_true h') hz
       ·have:=Nat.le_of_ble_eq_true h';omega
      have hz:0<len:=Nat.pos_of_ne_zero hz
      obtain⟨B0,o0,sz0,hφ,hrb⟩:=hh.blkN (b:=b) (by rw[hr b (by simp),hb];exact fun h=>by first | exact h | (simp only[phantom]at h;omega)) (by rw[hr b (by simp),hb];rfl)
      rw[hr b (by simp),hb]at hrb
      obtain⟨rfl,_,hel,hcs⟩:=hrb
      intro I' h1 h2 u hu
      by_cases hss:s=sz
      ·subst hss
       refine SnapV.row (l:=[b]) hφ (by simp) hz rfl (fun i hi=>?_) (fun I' h1 h2 _ i k c hi e=>?_) I' h1 h2 u hu
       ·exact hel _ (by omega)
       ·obtain⟨u,a1,a2,a3⟩:=hcs (i+off) k c (by omega) e
        rw[Nat.add_comm i off]at a1
        exact⟨u,a1,a2,a3.mono (fun B hB=>⟨h1 B hB,rfl⟩) (fun _=>Nat.le_refl _) (Phi.le_refl _)⟩
      ·cases hu with
       | sl _ _ B o _ _ _ cap q hφ' _ _ _ _=>rw[hφ]at hφ';cases hφ';exact absurd rfl hss
       | sle=>omega
    | sqr m s n f i0 c0 ks cur=>
     rw[hb]at h
     simp only[Option.some.injEq,Prod.mk.injEq]at h
     obtain⟨rfl,rfl,hg⟩:=h
     have hks:∀ b' ∈ liveL rd ks,live (rd b')=true:=fun b' hb'=>(List.mem_filter.1 hb').2
     refine⟨fun b' hb'=>?_,?_⟩
     ·rcases List.mem_cons.1 hb' with e | e
      ·rw[e,hr b (by simp),hb];rfl
      ·rw[hr b' hb'];exact hks b' e
     by_cases hz:len=0
     ·subst hz
      intro I' h1 h2 u hu
      cases hu with
      | sl _ _ B o _ _ _ cap q hφ hq hl' hc hs=>
       exact .tr sz 0 _ B q cap (fun _ _=>undef) (fun h0=>absurd h0 (Nat.lt_irrefl 0)) (Nat.zero_le _) (fun h0=>absurd h0 (Nat.lt_irrefl 0)) (fun i hi=>by omega) (fun i k c hi=>by omega) (fun i k c hi=>by omega) (fun i k c hi=>by omega)
      | sle _ _ _ a=>exact .trn sz _ a
     ·have hle:off+len<=n:=by
       rcases or_true' hg with h' | h'
       ·exact absurd (Nat.eq_of_beq_eq_true h') hz
       ·have:=Nat.le_of_ble_eq_true h';omega
      have hz:0<len:=Nat.pos_of_ne_zero hz
      obtain⟨B0,o0,sz0,hφ,hrb⟩:=hh.blkN (b:=b) (by rw[hr b (by simp),hb];exact fun h=>by first | exact h | (simp only[phantom]at h;omega)) (by rw[hr b (by simp),hb];rfl)
      rw[hr b (by simp),hb]at hrb
      obtain⟨rfl,_,hel,hcs⟩:=hrb
      intro I' h1 h2 u hu
      have hE:∀ cs,(snE (snapLG d rd cs) (liveL rd ks) cs).length=cs.length /\ ∀ (k:Nat) c',(snE (snapLG d rd cs) (liveL rd ks) cs)[k]? = some c' -> ∃ c,cs[k]? = some c/\SnapV w I φ (b::liveL rd ks) c c':=by
       intro cs
       have fall:(cs.map fun _=>AV.undef).length=cs.length /\ ∀ (k:Nat) c',(cs.map fun _=>AV.undef)[k]? = some c' -> ∃ c,cs[k]? = some c/\SnapV w I φ (b::liveL rd ks) c c':=by
        refine⟨by simp,fun k c' e=>?_⟩
        rw[List.getElem?_map]at e
        cases e0:cs[k]? with
        | none=>rw[e0]at e;cases e
        | some c=>rw[e0]at e;cases e;exact⟨c,rfl,fun _ _ _ u _=>.undef u⟩
       unfold snE
       cases hs:snapLG d rd cs with
       | none=>exact fall
       | some p=>
        obtain⟨cs',l,g⟩:=p
        simp only
        cases hgl:g&&l.all (fun b=>memb b (liveL rd ks))with
        | false=>rw[cond_false];exact fall
        | true=>
         rw[cond_true]
         obtain⟨rfl,hall⟩:=and_true' hgl
         have hmem:∀ b' ∈ l,b' ∈ liveL rd ks:=fun b' hb'=>(memb_iff b' _).1 (List.all_eq_true.1 hall b' hb')
         obtain⟨_,hlen,hsn⟩:=ih2 _ _ _ hs fun b' hb'=>hr b' (by simp[hmem b' hb'])
         exact⟨hlen,fun k c' e=>let ⟨c,e1,e2⟩:=hsn k c' e;⟨c,e1,e2.more fun b' hb'=>by simp[hmem b' hb']⟩⟩
      by_cases hss:s=sz
      ·subst hss
       refine SnapV.row (l:=b::liveL rd ks) hφ (by simp) hz rfl (fun i hi=>?_) (fun I' h1 h2 _ i k c hi e=>?_) I' h1 h2 u hu
       ·rw[(hE _).1];exact hel _ (by omega)
       ·obtain⟨c0,e1,e2⟩:=(hE _).2 k c e
        obtain⟨u,a1,a2,a3⟩:=hcs (i+off) k c0 (by omega) e1
        rw[Nat.add_comm i off]at a1
        exact⟨u,a1,a2,e2 I' h1 h2 u a3⟩
      ·cases hu with
       | sl _ _ B o _ _ _ cap q hφ' _ _ _ _=>rw[hφ]at hφ';cases hφ';exact absurd rfl hss
       | sle=>omega
    | _=>
     rw[hb]at h
     simp only[Option.some.injEq,Prod.mk.injEq]at h
     obtain⟨rfl,rfl,hg⟩:=h
     exact⟨fun b' hb'=>by simp at hb',empty (Nat.eq_of_beq_eq_true hg)⟩
   | sn sz b n=>
    simp only at h
    have empty:n=0 -> ∀ f:Nat->List AV,SnapV w I φ [] (.sn sz b n) (.tr sz n f):=by
     rintro rfl f I' h1 h2 u hu
     cases hu with
     | sn0 _ _ a=>exact .trn sz f a
     | sn _ _ _ B o cap hφ hl hs=>
      exact .tr sz 0 f B o cap (fun _ _=>undef) (fun h0=>absurd h0 (Nat.lt_irrefl 0)) (Nat.zero_le _) (fun h0=>absurd h0 (Nat.lt_irrefl 0)) (fun i hi=>by omega) (fun i k c hi=>by omega) (fun i k c hi=>by omega) (fun i k c hi=>by omega)
    have full:∀ (l':List Nat) (f:Nat->List AV),b ∈ l'->(∀ i,i<n->(f i).length=sz) ->
      (∀ B o,φ b=some (B,o,sz) -> ∀ I':Nat->Prop,(∀ B,I B->I' B)->(∀ B,InL φ l' B->I' B) -> ∀ (i k:Nat) c,i<n->(f i)[k]? = some c -> ∃ u,w.cell? ⟨B,o+i*sz+k,none⟩=some u/\u.oneCell'=true/\RV w I' Phi.no c u) ->
      SnapV w I φ l' (.sn sz b n) (.tr sz n f):=by
     intro l' f hb' hlen hcells I' h1 h2 u hu
     cases hu with
     | sn0 _ _ a=>exact .trn sz f a
     | sn _ _ _ B o cap hφ hl hs=>
      have hc':=hcells B o hφ I' h1 h2
      refine .tr sz n f B o cap (fun i k=>(w.cell? ⟨B,o+i*sz+k,none⟩).getD undef) (fun _=>h2 B ⟨b,hb',_,_,hφ⟩) hl (fun _=>hs) hlen (fun i k c hi e=>?_) (fun i k c hi e=>?_) (fun i k c hi e=>?_)
      ·obtain⟨u,e1,e2,e3⟩:=hc' i k c hi e
       rw[e1];rfl
      ·obtain⟨u,e1,e2,e3⟩:=hc' i k c hi e
       rw[e1];exact e2
      ·obtain⟨u,e1,e2,e3⟩:=hc' i k c hi e
       rw[e1];exact e3
    split at h
    ·rename_i m s n' f hb
     simp only[Option.some.injEq,Prod.mk.injEq]at h
     obtain⟨rfl,rfl,hg⟩:=h
     have hle:=Nat.le_of_ble_eq_true hg
     have hl':live (rd' b)=true:=by rw[hr b (by simp),hb];rfl
     refine⟨fun b' hb'=>by simp at hb';rw[hb'];exact hl',?_⟩
     rcases Nat.eq_zero_or_pos n with h0 | h0
     ·exact(empty h0 f).more fun b' hb'=>by simp at hb'
     ·have hat:∀ B o sz',φ b=some (B,o,sz')->RB w I φ B o sz' (.seq m s n' f):=fun B o sz' e=>by
       have:=hh.at e hl'
       rwa [hr b (by simp),hb]at this
      by_cases hphi:∃ B o,φ b=some (B,o,sz)
      ·obtain⟨B1,o1,e1⟩:=hphi
       obtain⟨rfl,_,hel,hcs⟩:=hat B1 o1 sz e1
       refine full [b] f (by simp) (fun i hi=>hel i (Nat.lt_of_lt_of_le hi hle)) (fun B o e I' h1 h2 i k c hi hc=>?_)
       rw[e1]at e;cases e
       obtain⟨u,a1,a2,a3⟩:=hcs i k c (Nat.lt_of_lt_of_le hi hle) hc
       exact⟨u,a1,a2,a3.mono (fun B hB=>⟨h1 B hB,rfl⟩) (fun _=>Nat.le_refl _) (Phi.le_refl _)⟩
      ·intro I' h1 h2 u hu
       cases hu with
       | sn0=>exact absurd h0 (Nat.lt_irrefl 0)
       | sn _ _ _ B o cap hφ hl hs=>exact absurd ⟨B,o,hφ⟩ hphi
    ·rename_i m s n' f i0 c0 ks cur hb
     simp only[Option.some.injEq,Prod.mk.injEq]at h
     obtain⟨rfl,rfl,hg⟩:=h
     have hle:=Nat.le_of_ble_eq_true hg
     have hl':live (rd' b)=true:=by rw[hr b (by simp),hb];rfl
     have hks:∀ b' ∈ liveL rd ks,live (rd b')=true:=fun b' hb'=>(List.mem_filter.1 hb').2
     refine⟨fun b' hb'=>?_,?_⟩
     ·rcases List.mem_cons.1 hb' with e | e
      ·rw[e];exact hl'
      ·rw[hr b' hb'];exact hks b' e
     have hE:∀ cs,(snE (snapLG d rd cs) (liveL rd ks) cs).length=cs.length /\ ∀ (k:Nat) c',(snE (snapLG d rd cs) (liveL rd ks) cs)[k]? = some c' -> ∃ c,cs[k]? = some c/\SnapV w I φ (b::liveL rd ks) c c':=by
      intro cs
      have fall:(cs.map fun _=>AV.undef).length=cs.length /\ ∀ (k:Nat) c',(cs.map fun _=>AV.undef)[k]? = some c' -> ∃ c,cs[k]? = some c/\SnapV w I φ (b::liveL rd ks) c c':=by
       refine⟨by simp,fun k c' e=>?_⟩
       rw[List.getElem?_map]at e
       cases e0:cs[k]? with
       | none=>rw[e0]at e;cases e
       | some c=>rw[e0]at e;cases e;exact⟨c,rfl,fun _ _ _ u _=>.undef u⟩
      unfold snE
      cases hs:snapLG d rd cs with
      | none=>exact fall
      | some p=>
       obtain⟨cs',l,g⟩:=p
       simp only
       cases hgl:g&&l.all (fun b=>memb b (liveL rd ks))with
       | false=>rw[cond_false];exact fall
       | true=>
        rw[cond_true]
        obtain⟨rfl,hall⟩:=and_true' hgl
        have hmem:∀ b' ∈ l,b' ∈ liveL rd ks:=fun b' hb'=>(memb_iff b' _).1 (List.all_eq_true.1 hall b' hb')
        obtain⟨_,hlen,hsn⟩:=ih2 _ _ _ hs fun b' hb'=>hr b' (by simp[hmem b' hb'])
        exact⟨hlen,fun k c' e=>let ⟨c,e1,e2⟩:=hsn k c' e;⟨c,e1,e2.more fun b' hb'=>by simp[hmem b' hb']⟩⟩
     rcases Nat.eq_zero_or_pos n with h0 | h0
     ·exact(empty h0 _).more fun b' hb'=>by simp at hb'
     ·have hat:∀ B o sz',φ b=some (B,o,sz')->RB w I φ B o sz' (.sqr m s n' f i0 c0 ks cur):=fun B o sz' e=>by
       have:=hh.at e hl'
       rwa [hr b (by simp),hb]at this
      by_cases hphi:∃ B o,φ b=some (B,o,sz)
      ·obtain⟨B1,o1,e1⟩:=hphi
       obtain⟨rfl,_,hel,hcs⟩:=hat B1 o1 sz e1
       refine full (b::liveL rd ks) _ (by simp) (fun i hi=>by rw[(hE _).1];exact hel i (Nat.lt_of_lt_of_le hi hle)) (fun B o e I' h1 h2 i k c hi hc=>?_)
       rw[e1]at e;cases e
       obtain⟨c0,e2,e3⟩:=(hE _).2 k c hc
       obtain⟨u,a1,a2,a3⟩:=hcs i k c0 (Nat.lt_of_lt_of_le hi hle) e2
       exact⟨u,a1,a2,e3 I' h1 h2 u a3⟩
      ·intro I' h1 h2 u hu
       cases hu with
       | sn0=>exact absurd h0 (Nat.lt_irrefl 0)
       | sn _ _ _ B o cap hφ hl hs=>exact absurd ⟨B,o,hφ⟩ hphi
    ·simp only[Option.some.injEq,Prod.mk.injEq]at h
     obtain⟨rfl,rfl,hg⟩:=h
     exact⟨fun b' hb'=>by simp at hb',empty (Nat.eq_of_beq_eq_true hg) _⟩
   | agg cs=>
    simp only at h
    cases hs:snapLG d rd cs with
    | none=>rw[hs]at h;cases h
    | some p=>
     obtain⟨cs',l',g⟩:=p
     rw[hs]at h
     cases h
     obtain⟨hl,hlen,hsn⟩:=ih2 _ _ _ hs fun b hb=>hr b (by simp[hb])
     refine⟨hl,fun I' h1 h2 u hu=>?_⟩
     cases hu with
     | agg _ vs hl h1' hr=>
      refine .agg _ _ (hlen.trans hl) h1' fun k c u e e'=>?_
      obtain⟨c0,e1,e2⟩:=hsn k c e
      exact e2 I' h1 h2 u (hr k c0 u e1 e')
   | tup cs=>
    simp only at h
    cases hs:snapLG d rd cs with
    | none=>rw[hs]at h;cases h
    | some p=>
     obtain⟨cs',l',g⟩:=p
     rw[hs]at h
     cases h
     obtain⟨hl,hlen,hsn⟩:=ih2 _ _ _ hs fun b hb=>hr b (by simp[hb])
     refine⟨hl,fun I' h1 h2 u hu=>?_⟩
     cases hu with
     | tup _ vs hl hr=>
      refine .tup _ _ (hlen.trans hl) fun k c u e e'=>?_
      obtain⟨c0,e1,e2⟩:=hsn k c e
      exact e2 I' h1 h2 u (hr k c0 u e1 e')
   | fn f a c=>
    simp only at h
    cases hs:snapLG d rd a with
    | none=>rw[hs]at h;cases h
    | some p=>
     obtain⟨a',l1,g1⟩:=p
     cases hs2:snapLG d rd c with
     | none=>rw[hs,hs2]at h;cases h
     | some p=>
      obtain⟨c',l2,g2⟩:=p
      rw[hs,hs2]at h
      simp only[Option.some.injEq,Prod.mk.injEq]at h
      obtain⟨rfl,rfl,hg⟩:=h
      obtain⟨rfl,rfl⟩:=and_true' hg
      obtain⟨hl1,hlen1,hsn1⟩:=ih2 _ _ _ hs fun b hb=>hr b (by simp[hb])
      obtain⟨hl2,hlen2,hsn2⟩:=ih2 _ _ _ hs2 fun b hb=>hr b (by simp[hb])
      refine⟨fun b hb=>(List.mem_append.1 hb).elim (hl1 b) (hl2 b),fun I' h1 h2 u hu=>?_⟩
      cases hu with
      | fn _ _ _ va vc hla hlc ha hc=>
       refine .fn _ _ _ _ _ (hlen1.trans hla) (hlen2.trans hlc) (fun k c u e e'=>?_) (fun k c u e e'=>?_)
       ·obtain⟨c0,e1,e2⟩:=hsn1 k c e
        exact e2 I' h1 (fun B ⟨b,hb,r⟩=>h2 B ⟨b,by simp[hb],r⟩) u (ha k c0 u e1 e')
       ·obtain⟨c0,e1,e2⟩:=hsn2 k c e
        exact e2 I' h1 (fun B ⟨b,hb,r⟩=>h2 B ⟨b,by simp[hb],r⟩) u (hc k c0 u e1 e')
   | mp b=>cases h
   | _=>cases h;exact⟨fun b hb=>by simp at hb,SnapV.self rfl⟩
  ·unfold snapLG at h
   cases v with
   | nil=>cases h;exact⟨fun b hb=>by simp at hb,SnapL.nil⟩
   | cons x r=>
    simp only at h
    cases hs:snapG d rd x with
    | none=>rw[hs]at h;cases h
    | some p=>
     obtain⟨x',l1,g1⟩:=p
     cases hs2:snapLG d rd r with
     | none=>rw[hs,hs2]at h;cases h
     | some p=>
      obtain⟨r',l2,g2⟩:=p
      rw[hs,hs2]at h
      simp only[Option.some.injEq,Prod.mk.injEq]at h
      obtain⟨rfl,rfl,hg⟩:=h
      obtain⟨rfl,rfl⟩:=and_true' hg
      obtain⟨a1,a2⟩:=ih1 _ _ _ hs fun b hb=>hr b (by simp[hb])
      obtain⟨b1,b2⟩:=ih2 _ _ _ hs2 fun b hb=>hr b (by simp[hb])
      exact⟨fun b hb=>(List.mem_append.1 hb).elim (a1 b) (b1 b),SnapL.cons (a2.more fun b hb=>List.mem_append_left _ hb) (b2.more fun b hb=>List.mem_append_right _ hb)⟩
  ·unfold snapLLG at h
   cases v with
   | nil=>cases h;exact⟨fun b hb=>by simp at hb,SnapLL.nil⟩
   | cons x r=>
    simp only at h
    cases hs:snapLG d rd x with
    | none=>rw[hs]at h;cases h
    | some p=>
     obtain⟨x',l1,g1⟩:=p
     cases hs2:snapLLG d rd r with
     | none=>rw[hs,hs2]at h;cases h
     | some p=>
      obtain⟨r',l2,g2⟩:=p
      rw[hs,hs2]at h
      simp only[Option.some.injEq,Prod.mk.injEq]at h
      obtain⟨rfl,rfl,hg⟩:=h
      obtain⟨rfl,rfl⟩:=and_true' hg
      obtain⟨a1,a2⟩:=ih2 _ _ _ hs fun b hb=>hr b (by simp[hb])
      obtain⟨b1,b2⟩:=ih3 _ _ _ hs2 fun b hb=>hr b (by simp[hb])
      exact⟨fun b hb=>(List.mem_append.1 hb).elim (a1 b) (b1 b),SnapLL.cons (a2.more fun b hb=>List.mem_append_left _ hb) (b2.more fun b hb=>List.mem_append_right _ hb)⟩
theorem ungard_some{α:Type}{x:Option (α × List Nat × Bool)}{v:α}{l:List Nat}:ungard x=some (v,l) ↔ x=some (v,l,true):=by
 cases x with
 | none=>simp[ungard]
 | some p=>
  obtain⟨a,b,g⟩:=p
  cases g <;> simp[ungard]
theorem snap_ok{w:World}{I:Nat->Prop}{φ:Phi}{rd:Nat->BS}(hh:RH w I φ rd)(d:Nat) :
  (∀ v v' l,snap d rd v=some (v',l)->(∀ b ∈ l,live (rd b)=true)/\SnapV w I φ l v v') /\
  (∀ v v' l,snapL d rd v=some (v',l)->(∀ b ∈ l,live (rd b)=true)/\SnapL w I φ l v v') /\
  (∀ v v' l,snapLL d rd v=some (v',l)->(∀ b ∈ l,live (rd b)=true)/\SnapLL w I φ l v v'):=
 ⟨fun v v' l h=>(snapG_ok hh d).1 v v' l (ungard_some.1 h) fun _ _=>rfl,fun v v' l h=>(snapG_ok hh d).2.1 v v' l (ungard_some.1 h) fun _ _=>rfl,fun v v' l h=>(snapG_ok hh d).2.2 v v' l (ungard_some.1 h) fun _ _=>rfl⟩
end
end Go.AM
end
noncomputable section
set_option linter.unusedVariables false
set_option linter.unusedSimpArgs false
namespace Go.AM
theorem renL_map(ρ:Nat->Option Nat):∀ cs,renL ρ cs=cs.map (ren ρ)
 | []=>by simp[renL]
 | v::r=>by rw[renL,renL_map ρ r];rfl
theorem renL_get{ρ:Nat->Option Nat}{cs:List AV}{k:Nat}{c':AV}(h:(renL ρ cs)[k]? = some c'):∃ c,cs[k]? = some c/\c'=ren ρ c:=by
 rw[renL_map,List.getElem?_map]at h
 cases e:cs[k]? with
 | none=>rw[e]at h;cases h
 | some c=>rw[e]at h;cases h;exact⟨c,rfl,rfl⟩
section
variable {w:World} {I:Nat->Prop}
theorem RV.ren{φ:Phi}{v:AV}{u:Value}(h:RV w I φ v u):∀ {φ2:Phi} {ρ:Nat->Option Nat},(∀ b b',ρ b=some b'->φ2 b'=φ b)->RV w I φ2 (ren ρ v) u:=by
 induction h with
 | undef v=>intros;simp only[AM.ren];exact .undef v
 | bool b=>intros;simp only[AM.ren];exact .bool b
 | int k n=>intros;simp only[AM.ren];exact .int k n
 | flt k n=>intros;simp only[AM.ren];exact .flt k n
 | cplx k a b=>intros;simp only[AM.ren];exact .cplx k a b
 | str s l h=>intros;simp only[AM.ren];exact .str s l h
 | nilp=>intros;simp only[AM.ren];exact .nilp
 | ptr b B o sz i j q h hq=>
  intro φ2 ρ hρ
  simp only[AM.ren]
  cases e:ρ b with
  | none=>exact .undef _
  | some b'=>exact .ptr b' B o sz i j q ((hρ b b' e).trans h) hq
 | tp cs j B o q u hB hq hc h1 hr _=>intros;simp only[AM.ren];exact .tp cs j B o q u hB hq hc h1 hr
 | nils=>intros;simp only[AM.ren];exact .nils
 | sl sz b B o off len cm cap q h hq hl hc hs=>
  intro φ2 ρ hρ
  simp only[AM.ren]
  cases e:ρ b with
  | none=>exact .undef _
  | some b'=>exact .sl sz b' B o off len cm cap q ((hρ b b' e).trans h) hq hl hc hs
 | sle sz b off a=>
  intro φ2 ρ hρ
  simp only[AM.ren]
  cases e:ρ b with
  | none=>exact .undef _
  | some b'=>exact .sle sz b' off a
 | tr sz n f B o cap u hB hn hcp hlen hc h1 hr _=>intros;simp only[AM.ren];exact .tr sz n f B o cap u hB hn hcp hlen hc h1 hr
 | trn sz f a=>intros;simp only[AM.ren];exact .trn sz f a
 | trl sz es v h hz _=>intros;simp only[AM.ren];exact .trl sz es v (h.free rfl) hz
 | agg cs vs hl h1 _ ih=>
  intro φ2 ρ hρ
  simp only[AM.ren]
  refine .agg _ vs (by rw[renL_map];simpa using hl) h1 fun k c u e e'=>?_
  obtain⟨c0,e1,rfl⟩:=renL_get e
  exact ih k c0 u e1 e' hρ
 | tup cs vs hl _ ih=>
  intro φ2 ρ hρ
  simp only[AM.ren]
  refine .tup _ vs (by rw[renL_map];simpa using hl) fun k c u e e'=>?_
  obtain⟨c0,e1,rfl⟩:=renL_get e
  exact ih k c0 u e1 e' hρ
 | fn f a c va vc hla hlc _ _ iha ihc=>
  intro φ2 ρ hρ
  simp only[AM.ren]
  refine .fn f _ _ va vc (by rw[renL_map];simpa using hla) (by rw[renL_map];simpa using hlc) (fun k c u e e'=>?_) (fun k c u e e'=>?_)
  ·obtain⟨c0,e1,rfl⟩:=renL_get e
   exact iha k c0 u e1 e' hρ
  ·obtain⟨c0,e1,rfl⟩:=renL_get e
   exact ihc k c0 u e1 e' hρ
 | nilf=>intros;simp only[AM.ren];exact .nilf
 | nilm=>intros;simp only[AM.ren];exact .nilm
 | mp b B h=>
  intro φ2 ρ hρ
  simp only[AM.ren]
  cases e:ρ b with
  | none=>exact .undef _
  | some b'=>exact .mp b' B ((hρ b b' e).trans h)
 | sn0 sz b a=>
  intro φ2 ρ hρ
  simp only[AM.ren]
  cases e:ρ b with
  | none=>exact .undef _
  | some b'=>exact .sn0 sz b' a
 | sn sz b n B o cap h hl hs=>
  intro φ2 ρ hρ
  simp only[AM.ren]
  cases e:ρ b with
  | none=>exact .undef _
  | some b'=>exact .sn sz b' n B o cap ((hρ b b' e).trans h) hl hs
 | tn sz n f v h ih=>
  intro φ2 ρ hρ
  have:=ih hρ
  simp only[AM.ren]at this ⊢
  exact .tn sz n f v this
theorem RB.ren{φ φ2:Phi}{ρ:Nat->Option Nat}{B o sz:Nat}{x:BS}(h:RB w I φ B o sz x)(hρ:∀ b b',ρ b=some b'->φ2 b'=φ b):RB w I φ2 B o sz (renB ρ x):=by
 cases x with
 | none=>exact h
 | dead=>exact h
 | arr m s es=>
  obtain⟨h0,h1,h2,h3⟩:=h
  refine⟨h0,h1,fun i cs e=>?_,fun i cs k c e e'=>?_⟩
  ·rw[List.getElem?_map]at e
   cases e0:es[i]? with
   | none=>rw[e0]at e;cases e
   | some c0=>rw[e0]at e;cases e;rw[renL_map];simpa using h2 i c0 e0
  ·rw[List.getElem?_map]at e
   cases e0:es[i]? with
   | none=>rw[e0]at e;cases e
   | some c0=>
    rw[e0]at e;cases e
    obtain⟨c1,e1,rfl⟩:=renL_get e'
    obtain⟨u,a1,a2,a3⟩:=h3 i c0 k c1 e0 e1
    exact⟨u,a1,a2,a3.ren hρ⟩
 | seq m s n f=>exact h
 | sqr m s n f i0 c0 ks cur=>
  obtain⟨h0,h1,h2,h3⟩:=h
  have hr:∀ i,rowX (fun i=>renL ρ (f i)) i0 (renL ρ c0) i=renL ρ (rowX f i0 c0 i):=fun i=>by
   unfold rowX
   cases Nat.beq i i0 <;> rfl
  refine⟨h0,h1,fun i hi=>by rw[hr,renL_map];simpa using h2 i hi,fun i k c hi e=>?_⟩
  rw[hr]at e
  obtain⟨c1,e1,rfl⟩:=renL_get e
  obtain⟨u,a1,a2,a3⟩:=h3 i k c1 hi e1
  exact⟨u,a1,a2,a3.ren hρ⟩
 | pmap m ks val=>exact h
 | piter m ks val rem cur=>exact h
 | map m es=>
  simp only[renB]
  cases hc:es.all (fun p=>refFree p.1)with
  | false=>trivial
  | true=>
   rw[cond_true]
   obtain⟨h0,h1,mes,clock,h2,h3,h4,hbn⟩:=h
   refine⟨h0,h1,mes,clock,h2,by simpa using h3,fun i kv e a b=>?_,hbn⟩
   rw[List.getElem?_map]at a
   cases e0:es[i]? with
   | none=>rw[e0]at a;cases a
   | some p=>
    rw[e0]at a;cases a
    obtain⟨x,y,z⟩:=h4 i p e e0 b
    exact⟨x.free (List.all_eq_true.1 hc _ (List.mem_of_getElem? e0)),y.ren hρ,z⟩
 | iter m es st=>exact h
theorem phantom_ren(ρ:Nat->Option Nat){x:BS}(h:phantom x):phantom (renB ρ x):=by
 cases x <;> first | exact h | exact h.elim
theorem renB_kind(ρ:Nat->Option Nat)(x:BS):(live (renB ρ x)=true->live x=true)/\(mutable (renB ρ x)=true->mutable x=true)/\(renB ρ x=.none->x=.none)/\(live (renB ρ x)=true->mutable (renB ρ x)=mutable x):=by
 cases x with
 | map m es=>
  simp only[renB]
  cases es.all (fun p=>refFree p.1) <;> simp[live,mutable]
 | _=>simp[renB,live,mutable]
theorem hasTreeL_get:∀ {cs:List AV} {k:Nat} {c:AV},hasTreeL cs=false->cs[k]? = some c->hasTree c=false
 | [],k,c,_,e=>by simp at e
 | v::r,0,c,h,e=>by
  simp only[hasTreeL,Bool.or_eq_false_iff]at h
  simp at e;exact e ▸ h.1
 | v::r,k+1,c,h,e=>by
  simp only[hasTreeL,Bool.or_eq_false_iff]at h
  simp at e;exact hasTreeL_get h.2 e
theorem RV.treeless{φ:Phi}{v:AV}{u:Value}(h:RV w I φ v u)(J:Nat->Prop):hasTree v=false->RV w J φ v u:=by
 induction h with
 | undef v=>intros;exact .undef v
 | bool b=>intros;exact .bool b
 | int k n=>intros;exact .int k n
 | flt k n=>intros;exact .flt k n
 | cplx k a b=>intros;exact .cplx k a b
 | str s l h=>intros;exact .str s l h
 | nilp=>intros;exact .nilp
 | ptr b B o sz i j q h hq=>intros;exact .ptr b B o sz i j q h hq
 | tp cs j B o q u hB hq hc h1 hr _=>intro ht;simp[hasTree]at ht
 | nils=>intros;exact .nils
 | sl sz b B o off len cm cap q h hq hl hc hs=>intros;exact .sl sz b B o off len cm cap q h hq hl hc hs
 | sle sz b off a=>intros;exact .sle sz b off a
 | tr sz n f B o cap u hB hn hcp hlen hc h1 hr _=>intro ht;simp[hasTree]at ht
 | trn sz f a=>intros;exact .trn sz f a
 | trl sz es v h hz _=>
  intro ht
  cases es with
  | cons e es=>simp[hasTree]at ht
  | nil=>
   refine .trl sz [] v ?_ hz
   simp only[List.length_nil]at h ⊢
   cases h with
   | tr _ _ _ B o cap u hB hn hcp hlen hc h1 hr=>exact .tr sz 0 _ B o cap u (fun h=>absurd h (Nat.lt_irrefl 0)) hn (fun h=>absurd h (Nat.lt_irrefl 0)) (fun i hi=>by omega) (fun i k c hi=>by omega) (fun i k c hi=>by omega) (fun i k c hi=>by omega)
   | trn _ _ a=>exact .trn sz _ a
 | agg cs vs hl h1 _ ih=>
  intro ht
  exact .agg cs vs hl h1 fun k c u e e'=>ih k c u e e' (hasTreeL_get (by simpa [hasTree] using ht) e)
 | tup cs vs hl _ ih=>
  intro ht
  exact .tup cs vs hl fun k c u e e'=>ih k c u e e' (hasTreeL_get (by simpa [hasTree] using ht) e)
 | fn f a c va vc hla hlc _ _ iha ihc=>
  intro ht
  simp only[hasTree,Bool.or_eq_false_iff]at ht
  exact .fn f a c va vc hla hlc (fun k c u e e'=>iha k c u e e' (hasTreeL_get ht.1 e)) (fun k c u e e'=>ihc k c u e e' (hasTreeL_get ht.2 e))
 | nilf=>intros;exact .nilf
 | nilm=>intros;exact .nilm
 | mp b B h=>intros;exact .mp b B h
 | sn0 sz b a=>intros;exact .sn0 sz b a
 | sn sz b n B o cap h hl hs=>intros;exact .sn sz b n B o cap h hl hs
 | tn=>intro ht;simp[hasTree]at ht
theorem blkHasTree_mut{x:BS}(h:blkHasTree x=false)(hl:live x=true):mutable x=true:=by
 cases x <;> simp_all [blkHasTree,live,mutable]
theorem RB.treeless{φ:Phi}{B o sz:Nat}{x:BS}(h:RB w I φ B o sz x)(J:Nat->Prop)(ht:blkHasTree x=false):RB w J φ B o sz x:=by
 cases x with
 | none=>trivial
 | dead=>trivial
 | arr m s es=>
  obtain⟨h0,h1,h2,h3⟩:=h
  simp only[blkHasTree,Bool.or_eq_false_iff,List.any_eq_false]at ht
  refine⟨h0,h1,h2,fun i cs k c e e'=>?_⟩
  obtain⟨u,a1,a2,a3⟩:=h3 i cs k c e e'
  exact⟨u,a1,a2,a3.treeless J (hasTreeL_get (by simpa using ht.2 cs (List.mem_of_getElem? e)) e')⟩
 | seq m s n f=>simp[blkHasTree]at ht
 | map m es=>
  obtain⟨h0,h1,mes,clock,h2,h3,h4,hbn⟩:=h
  simp only[blkHasTree,Bool.or_eq_false_iff,List.any_eq_false]at ht
  refine⟨h0,h1,mes,clock,h2,h3,fun i kv e a b=>?_,hbn⟩
  obtain⟨x,y,z⟩:=h4 i kv e a b
  have:=ht.2 kv (List.mem_of_getElem? a)
  simp only[Bool.not_eq_true,Bool.or_eq_false_iff]at this
  exact⟨x.treeless J this.1,y.treeless J this.2,z⟩
 | iter m es st=>cases ht
 | sqr m s n f i0 c0 ks cur=>cases ht
 | pmap m ks val=>cases ht
 | piter m ks val rem cur=>cases ht
def Distinct(l:List Nat):Prop:=∀ (i j b:Nat),l[i]? = some b->l[j]? = some b->i=j
theorem memb_mem(b:Nat):∀ l,memb b l=true ↔ b ∈ l
 | []=>by simp[memb]
 | x::r=>by
  rw[memb]
  cases h:Nat.beq x b with
  | true=>simp[Nat.eq_of_beq_eq_true h]
  | false=>
   have:x ≠ b:=fun e=>by subst e;simp at h
   rw[cond_false,memb_mem b r]
   simp[Ne.symm this]
theorem Distinct.snoc{l:List Nat}(h:Distinct l){b:Nat}(hb:b ∉ l):Distinct (l++[b]):=by
 intro i j c e e'
 rw[List.getElem?_append]at e e'
 split at e
 ·split at e'
  ·exact h i j c e e'
  ·have hc:c ∈ l:=List.mem_of_getElem? e
   have:c=b:=by
    have:=List.mem_of_getElem? e'
    simpa using this
   exact absurd (this ▸ hc) hb
 ·split at e'
  ·have hc:c ∈ l:=List.mem_of_getElem? e'
   have:c=b:=by
    have:=List.mem_of_getElem? e
    simpa using this
   exact absurd (this ▸ hc) hb
  ·have h1:i - l.length=0:=by
    rcases Nat.eq_zero_or_pos (i - l.length)with h0 | h0
    ·exact h0
    ·rw[List.getElem?_eq_none (by simp;omega)]at e;cases e
   have h2:j - l.length=0:=by
    rcases Nat.eq_zero_or_pos (j - l.length)with h0 | h0
    ·exact h0
    ·rw[List.getElem?_eq_none (by simp;omega)]at e';cases e'
   omega
theorem reach_ok(rd:Nat->BS):∀ (d:Nat) (r acc:List Nat),Distinct acc->Distinct (reach d rd r acc) /\ ∃ t,reach d rd r acc=acc++t
 | 0,r,acc,h=>⟨h,[],by simp[reach]⟩
 | d+1,[],acc,h=>⟨h,[],by simp[reach]⟩
 | d+1,b::r,acc,h=>by
  rw[reach]
  cases hm:memb b acc with
  | true=>rw[cond_true];exact reach_ok rd d r acc h
  | false=>
   rw[cond_false]
   have hb:b ∉ acc:=fun e=>by rw[(memb_mem b acc).2 e]at hm;cases hm
   obtain⟨h1,t,h2⟩:=reach_ok rd d (kids (rd b)++r) (acc++[b]) (h.snoc hb)
   exact⟨h1,[b]++t,by rw[h2];simp⟩
theorem Distinct.nil:Distinct []:=fun i j b e=>by simp at e
theorem range_get{n i b:Nat}(e:(List.range n)[i]? = some b):i<n/\b=i:=by
 rcases Nat.lt_or_ge i n with h | h
 ·rw[List.getElem?_range h]at e;cases e;exact⟨h,rfl⟩
 ·rw[List.getElem?_eq_none (by simpa using h)]at e;cases e
theorem Distinct.range(n:Nat):Distinct (List.range n):=fun i j b e e'=>(range_get e).2.symm.trans (range_get e').2
theorem indexOf_some(b:Nat):∀ (l:List Nat) (n i:Nat),indexOf b l n=some i->n<=i/\l[i - n]? = some b
 | [],n,i,h=>by simp[indexOf]at h
 | x::r,n,i,h=>by
  rw[indexOf]at h
  cases hx:Nat.beq x b with
  | true=>
   rw[hx,cond_true]at h
   cases h
   exact⟨Nat.le_refl _,by simp[Nat.eq_of_beq_eq_true hx]⟩
  | false=>
   rw[hx,cond_false]at h
   obtain⟨h1,h2⟩:=indexOf_some b r (n+1) i h
   refine⟨by omega,?_⟩
   have:i - n=(i - (n+1))+1:=by omega
   rw[this];simpa using h2
def reheap(ids:List Nat)(rd:Nat->BS):Heap:=ids.map fun b=>renB (fun b=>indexOf b ids 0) (rd b)
def rephi(ids:List Nat)(φ:Phi):Phi:=fun i=>(ids[i]?).bind φ
theorem hget_reheap(ids:List Nat)(rd:Nat->BS)(i:Nat):hget (reheap ids rd) i=match ids[i]? with
  | some b=>renB (fun b=>indexOf b ids 0) (rd b)
  | .none=>.none:=by
 simp only[hget,reheap,List.getD,List.getElem?_map]
 cases ids[i]? <;> rfl
theorem rephi_ren{ids:List Nat}{φ:Phi}(b b':Nat)(h:indexOf b ids 0=some b'):rephi ids φ b'=φ b:=by
 have:=(indexOf_some b ids 0 b' h).2
 simp only[Nat.sub_zero]at this
 simp[rephi,this]
theorem RH.renum{φ:Phi}{rd:Nat->BS}(h:RH w I φ rd){ids:List Nat}(hd:Distinct ids):RH w I (rephi ids φ) (hget (reheap ids rd)):=by
 have key:∀ i,live (hget (reheap ids rd) i)=true -> ∃ b,ids[i]? = some b/\hget (reheap ids rd) i=renB (fun b=>indexOf b ids 0) (rd b)/\live (rd b)=true/\rephi ids φ i=φ b/\mutable (hget (reheap ids rd) i)=mutable (rd b):=by
  intro i hl
  have e0:=hget_reheap ids rd i
  cases e:ids[i]? with
  | none=>rw[e]at e0;rw[e0]at hl;cases hl
  | some b=>
   rw[e]at e0
   simp only at e0
   rw[e0]at hl
   exact⟨b,rfl,e0,(renB_kind _ _).1 hl,by simp[rephi,e],by rw[e0];exact(renB_kind _ _).2.2.2 hl⟩
 refine⟨fun i e=>?_,fun i hl=>?_,fun i j B o sz o' sz' hm hm' e e'=>?_,fun i B o sz hm e=>?_,fun i B o sz hl hm e=>?_,h.lt⟩
 ·have e0:=hget_reheap ids rd i
  cases e1:ids[i]? with
  | none=>simp[rephi,e1]
  | some b=>
   rw[e1]at e0
   simp only at e0
   rw[e0]at e
   simp only[rephi,e1,Option.bind_some]
   exact h.none b ((renB_kind _ _).2.2.1 e)
 ·obtain⟨b,h1,h2,h3,h4,h5⟩:=key i hl
  rcases h.blk b h3 with ⟨B,o,sz,e,r⟩ | ⟨e,hp⟩
  ·exact .inl ⟨B,o,sz,h4.trans e,by rw[h2];exact r.ren fun b b'=>rephi_ren b b'⟩
  ·exact .inr ⟨h4.trans e,by rw[h2];exact phantom_ren _ hp⟩
 ·obtain⟨b,h1,h2,h3,h4,h5⟩:=key i (live_of_mutable hm)
  obtain⟨b',h1',h2',h3',h4',h5'⟩:=key j (live_of_mutable hm')
  have:=h.inj b b' B o sz o' sz' (h5 ▸ hm) (h5' ▸ hm') (h4 ▸ e) (h4' ▸ e')
  subst this
  exact hd i j b h1 h1'
 ·obtain⟨b,h1,h2,h3,h4,h5⟩:=key i (live_of_mutable hm)
  exact h.disj b B o sz (h5 ▸ hm) (h4 ▸ e)
 ·obtain⟨b,h1,h2,h3,h4,h5⟩:=key i hl
  exact h.imm b B o sz h3 (h5 ▸ hm) (h4 ▸ e)
theorem mut_renum{φ:Phi}{rd:Nat->BS}{ids:List Nat}{B:Nat}(h:Mut (rephi ids φ) (hget (reheap ids rd)) B):Mut φ rd B:=by
 obtain⟨i,o,sz,hm,e⟩:=h
 have e0:=hget_reheap ids rd i
 cases e1:ids[i]? with
 | none=>rw[e1]at e0;rw[e0]at hm;cases hm
 | some b=>
  rw[e1]at e0
  simp only at e0
  rw[e0]at hm
  exact⟨b,o,sz,(renB_kind _ _).2.1 hm,by simpa [rephi,e1] using e⟩
end
end Go.AM
end
noncomputable section
set_option linter.unusedVariables false
set_option linter.unusedSimpArgs false
namespace Go.AM
theorem rdputs_append(rd:Nat->BS):∀ l l',rdputs rd (l++l')=rdputs (rdputs rd l) l'
 | [],l'=>rfl
 | (b,x)::r,l'=>by rw[List.cons_append];exact rdputs_append (rdput rd b x) r l'
theorem rdputs_not(b:Nat):∀ (l:Wr) (rd:Nat->BS),(∀ p ∈ l,p.1 ≠ b)->rdputs rd l b=rd b
 | [],rd,_=>rfl
 | (b',x)::r,rd,h=>by
  rw[rdputs,rdputs_not b r _ fun p hp=>h p (by simp[hp]),rdput_ne _ _ (fun e=>h (b',x) (by simp) e.symm)]
theorem rdputs_frozen(g rd:Nat->BS)(b:Nat):∀ (l:List Nat),rdputs rd (l.map fun b=>(b,frozen (g b))) b=if b ∈ l then frozen (g b)else rd b:=by
 intro l
 induction l generalizing rd with
 | nil=>simp[rdputs]
 | cons x r ih=>
  simp only[List.map_cons,rdputs,ih]
  by_cases h1:b ∈ r
  ·simp[h1]
  ·simp only[h1,if_false,List.mem_cons]
   by_cases h2:b=x
   ·subst h2;simp
   ·rw[rdput_ne _ _ h2];simp[h2]
theorem rdputs_imports(nx b:Nat):∀ (l:List BS) (i:Nat) (rd:Nat->BS),rdputs rd (imports nx i l) b=if nx+i<=b/\b<nx+i+l.length then l.getD (b - (nx+i)) .none else rd b
 | [],i,rd=>by simp[imports,rdputs];omega
 | x::r,i,rd=>by
  simp only[imports,rdputs,rdputs_imports nx b r (i+1)]
  by_cases h1:nx+(i+1)<=b/\b<nx+(i+1)+r.length
  ·rw[if_pos h1,if_pos (by simp;omega)]
   have:b - (nx+i)=(b - (nx+(i+1)))+1:=by omega
   rw[this];simp
  ·rw[if_neg h1]
   by_cases h2:b=nx+i
   ·subst h2
    rw[rdput_same,if_pos (by simp)];simp
   ·rw[rdput_ne _ _ h2,if_neg (by simp;omega)]
theorem imports_mem{nx:Nat}:∀ {l:List BS} {i j:Nat},j<l.length -> ∃ x,(nx+i+j,x) ∈ imports nx i l
 | [],i,j,h=>by simp at h
 | x::r,i,0,h=>⟨x,by simp[imports]⟩
 | x::r,i,j+1,h=>by
  obtain⟨y,hy⟩:=imports_mem (nx:=nx) (l:=r) (i:=i+1) (j:=j) (by simpa using h)
  exact⟨y,by simp only[imports,List.mem_cons];right;rw[show nx+i+(j+1)=nx+(i+1)+j by omega];exact hy⟩
theorem phantom_frozen{x:BS}(h:phantom x):phantom (frozen x):=by
 cases x <;> first | exact h | exact h.elim
theorem frozen_kind(x:BS):live (frozen x)=live x/\mutable (frozen x)=false/\(frozen x=.none->x=.none):=by
 cases x <;> simp[frozen,live,mutable]
theorem RB.frozen{w:World}{I:Nat->Prop}{φ:Phi}{B o sz:Nat}{x:BS}(h:RB w I φ B o sz x):RB w I φ B o sz (frozen x):=by
 cases x with
 | none=>trivial
 | dead=>trivial
 | arr m s es=>exact⟨h.1,let ⟨c,e,fz,hc,_⟩:=h.2.1;⟨c,e,fz,hc,fun h=>by cases h⟩,h.2.2⟩
 | seq m s n f=>exact⟨h.1,let ⟨c,e,fz,hc,_⟩:=h.2.1;⟨c,e,fz,hc,fun h=>by cases h⟩,h.2.2⟩
 | sqr m s n f i0 c0 ks cur=>exact⟨h.1,let ⟨c,e,fz,hc,_⟩:=h.2.1;⟨c,e,fz,hc,fun h=>by cases h⟩,h.2.2⟩
 | map m es=>exact h
 | iter m es st=>exact h
 | pmap m ks val=>exact h
 | piter m ks val rem cur=>exact h
theorem RB.lt{w:World}{I:Nat->Prop}{φ:Phi}{B o sz:Nat}{x:BS}(h:RB w I φ B o sz x)(hl:live x=true):B<w.heap.size:=by
 cases x with
 | arr m s es=>obtain⟨_,⟨c,e,fz,hc,_⟩,_⟩:=h;exact lt_of_heap hc
 | seq m s n f=>obtain⟨_,⟨c,e,fz,hc,_⟩,_⟩:=h;exact lt_of_heap hc
 | map m es=>obtain⟨_,_,mes,clock,hc,_⟩:=h;exact lt_of_heap hc
 | iter m es st=>obtain⟨_,_,mm,since,seen,mes,clock,hc,_⟩:=h;exact lt_of_heap hc
 | sqr m s n f i0 c0 ks cur=>obtain⟨_,⟨c,e,fz,hc,_⟩,_⟩:=h;exact lt_of_heap hc
 | pmap m ks val=>obtain⟨_,_,mes,clock,hc,_⟩:=h;exact lt_of_heap hc
 | piter m ks val rem cur=>obtain⟨_,_,mm,since,seen,mes,clock,hc,_⟩:=h;exact lt_of_heap hc
 | none=>cases hl
 | dead=>cases hl
def phiIn(nx n:Nat)(φ φ':Phi):Phi:=fun b=>if nx<=b/\b<nx+n then φ' (b - nx)else φ b
theorem RH.merge{w w':World}{I I2:Nat->Prop}{φ φ':Phi}{rd:Nat->BS}{bs:Heap}{nx:Nat}{t:Bool}{rch:List Nat}(hh:RH w I φ rd)(hr:∀ b ∈ rch,live (rd b)=true)
  (hn:∀ i,i<bs.length->rd (nx+i)=.none) (ext:Ext (fun _=>False) w w')
  (ha:∀ B,I B->I2 B) (hb:∀ B,I2 B->I B\/(t=true/\InL φ rch B)\/w.heap.size<=B) (hd:t=true -> ∀ B,InL φ rch B->I2 B)
  (hx:RH w' I2 φ' (hget bs)) (hnew:∀ B,Mut φ' (hget bs) B->w.heap.size<=B) (g:Nat->BS) (hg:∀ b ∈ rch,g b=rd b) :
  ∃ φ2,(∀ b b',shift nx bs.length b=some b'->φ2 b'=φ' b)/\Phi.le φ φ2 /\
   RH w' I2 φ2 (rdputs rd ((bif t then rch.map fun b=>(b,frozen (g b))else [])++imports nx 0 (bs.map (renB (shift nx bs.length))))) /\
   (∀ base,base<=nx->Step base rd φ I w (rdputs rd ((bif t then rch.map fun b=>(b,frozen (g b))else [])++imports nx 0 (bs.map (renB (shift nx bs.length))))) φ2 I2 w'):=by
 have hsz:=ext.size
 have hk:∀ B,B<w.heap.size->w'.heap[B]? = w.heap[B]? := fun B h=>ext.keep B h fun f=>f
 have hcs:=ext.csize
 have hrd:∀ b,rdputs rd ((bif t then rch.map fun b=>(b,frozen (g b))else [])++imports nx 0 (bs.map (renB (shift nx bs.length)))) b =
   if nx<=b/\b<nx+bs.length then renB (shift nx bs.length) (hget bs (b - nx))else if t=true/\b ∈ rch then frozen (rd b)else rd b:=by
  intro b
  rw[rdputs_append,rdputs_imports]
  simp only[Nat.add_zero,List.length_map]
  by_cases h1:nx<=b/\b<nx+bs.length
  ·rw[if_pos h1,if_pos h1]
   simp only[List.getD,List.getElem?_map,hget]
   have:b - nx<bs.length:=by omega
   rw[List.getElem?_eq_getElem this];rfl
  ·rw[if_neg h1,if_neg h1]
   cases t with
   | false=>simp[rdputs]
   | true=>
    rw[cond_true,rdputs_frozen]
    by_cases h2:b ∈ rch
    ·simp[h2,hg b h2]
    ·simp[h2]
 generalize rdputs rd ((bif t then rch.map fun b=>(b,AM.frozen (g b))else [])++imports nx 0 (bs.map (renB (shift nx bs.length))))=rd2 at hrd ⊢
 have hsh:∀ b b',shift nx bs.length b=some b'->b<bs.length/\b'=nx+b:=by
  intro b b' e
  unfold shift at e
  cases h:Nat.blt b bs.length with
  | false=>rw[h]at e;cases e
  | true=>rw[h,cond_true]at e;cases e;exact⟨by simpa [Nat.blt_eq] using h,rfl⟩
 have hphi:∀ b b',shift nx bs.length b=some b'->phiIn nx bs.length φ φ' b'=φ' b:=by
  intro b b' e
  obtain⟨h1,rfl⟩:=hsh b b' e
  unfold phiIn
  rw[if_pos (by omega),Nat.add_sub_cancel_left]
 have hle:Phi.le φ (phiIn nx bs.length φ φ'):=by
  intro b p e
  unfold phiIn
  by_cases h1:nx<=b/\b<nx+bs.length
  ·have:=hh.none b (by have:=hn (b - nx) (by omega);rwa [show nx+(b - nx)=b by omega]at this)
   rw[this]at e;cases e
  ·rw[if_neg h1];exact e
 have hI:∀ B,I B->I2 B/\w'.heap[B]? = w.heap[B]? := fun B hB=>⟨ha B hB,hk B (hh.lt B hB)⟩
 have cases2:∀ b,live (rd2 b)=true->(∃ i,b=nx+i/\i<bs.length/\rd2 b=renB (shift nx bs.length) (hget bs i)/\live (hget bs i)=true/\mutable (rd2 b)=mutable (hget bs i)/\phiIn nx bs.length φ φ' b=φ' i) \/
   (¬ (nx<=b/\b<nx+bs.length)/\live (rd b)=true/\(mutable (rd2 b)=true->mutable (rd b)=true/\rd2 b=rd b/\(t=true->b ∉ rch))/\(rd2 b=rd b\/(rd2 b=frozen (rd b)/\t=true/\b ∈ rch))/\phiIn nx bs.length φ φ' b=φ b):=by
  intro b hl
  have e:=hrd b
  by_cases h1:nx<=b/\b<nx+bs.length
  ·rw[if_pos h1]at e
   rw[e]at hl
   refine .inl ⟨b - nx,by omega,by omega,e,(renB_kind _ _).1 hl,by rw[e];exact(renB_kind _ _).2.2.2 hl,by unfold phiIn;rw[if_pos h1]⟩
  ·rw[if_neg h1]at e
   have hp:phiIn nx bs.length φ φ' b=φ b:=by unfold phiIn;rw[if_neg h1]
   by_cases h2:t=true/\b ∈ rch
   ·rw[if_pos h2]at e
    rw[e]at hl
    exact .inr ⟨h1,(frozen_kind _).1 ▸ hl,fun hm=>(by rw[e,(frozen_kind _).2.1]at hm;cases hm),.inr ⟨e,h2.1,h2.2⟩,hp⟩
   ·rw[if_neg h2]at e
    rw[e]at hl
    exact .inr ⟨h1,hl,fun hm=>⟨e ▸ hm,e,fun ht hb=>h2 ⟨ht,hb⟩⟩,.inl e,hp⟩
 have hltB:∀ b B o sz,live (rd b)=true->φ b=some (B,o,sz)->B<w.heap.size:=by
  intro b B o sz hl e
  have r:=hh.at e hl
  exact r.lt hl
 have hmut:∀ B,Mut (phiIn nx bs.length φ φ') rd2 B->Mut φ rd B\/w.heap.size<=B:=by
  rintro B ⟨b,o,sz,hm,e⟩
  rcases cases2 b (live_of_mutable hm)with ⟨i,h1,h2,h3,h4,h5,h6⟩ | ⟨h1,h2,h3,h4,h5⟩
  ·exact .inr (hnew B ⟨i,o,sz,h5 ▸ hm,h6 ▸ e⟩)
  ·exact .inl ⟨b,o,sz,(h3 hm).1,h5 ▸ e⟩
 refine⟨phiIn nx bs.length φ φ',hphi,hle,⟨fun b e=>?_,fun b hl=>?_,fun b b' B o sz o' sz' hm hm' e e'=>?_,fun b B o sz hm e hB=>?_,fun b B o sz hl hm e=>?_,hx.lt⟩,fun base hbase=>
  ⟨fun b p _ e=>hle b p e,ha,fun B hB=>?_,hmut,ext.weaken fun _ f=>f.elim⟩⟩
 ·have e0:=hrd b
  rw[e]at e0
  by_cases h1:nx<=b/\b<nx+bs.length
  ·rw[if_pos h1]at e0
   unfold phiIn
   rw[if_pos h1]
   exact hx.none _ ((renB_kind _ _).2.2.1 e0.symm)
  ·rw[if_neg h1]at e0
   unfold phiIn
   rw[if_neg h1]
   by_cases h2:t=true/\b ∈ rch
   ·rw[if_pos h2]at e0
    exact hh.none b ((frozen_kind _).2.2 e0.symm)
   ·rw[if_neg h2]at e0
    exact hh.none b e0.symm
 ·rcases cases2 b hl with ⟨i,h1,h2,h3,h4,h5,h6⟩ | ⟨h1,h2,h3,h4,h5⟩
  ·rcases hx.blk i h4 with ⟨B,o,sz,e,r⟩ | ⟨e,hp⟩
   ·exact .inl ⟨B,o,sz,h6.trans e,by rw[h3];exact r.ren hphi⟩
   ·exact .inr ⟨h6.trans e,by rw[h3];exact phantom_ren _ hp⟩
  ·rcases hh.blk b h2 with ⟨B,o,sz,e,r⟩ | ⟨e,hp⟩
   ·have r':=r.mono (w':=w') hI hcs hle (hk B (r.lt h2))
    refine .inl ⟨B,o,sz,h5.trans e,?_⟩
    rcases h4 with h4 | ⟨h4,_⟩
    ·rw[h4];exact r'
    ·rw[h4];exact r'.frozen
   ·refine .inr ⟨h5.trans e,?_⟩
    rcases h4 with h4 | ⟨h4,_⟩
    ·rw[h4];exact hp
    ·rw[h4];exact phantom_frozen hp
 ·rcases cases2 b (live_of_mutable hm)with ⟨i,h1,h2,h3,h4,h5,h6⟩ | ⟨h1,h2,h3,h4,h5⟩
  ·rcases cases2 b' (live_of_mutable hm')with ⟨i',h1',h2',h3',h4',h5',h6'⟩ | ⟨h1',h2',h3',h4',h5'⟩
   ·have:=hx.inj i i' B o sz o' sz' (h5 ▸ hm) (h5' ▸ hm') (h6 ▸ e) (h6' ▸ e')
    rw[h1,h1',this]
   ·have a1:=hnew B ⟨i,o,sz,h5 ▸ hm,h6 ▸ e⟩
    have a2:=hltB b' B o' sz' h2' (h5' ▸ e')
    omega
  ·rcases cases2 b' (live_of_mutable hm')with ⟨i',h1',h2',h3',h4',h5',h6'⟩ | ⟨h1',h2',h3',h4',h5'⟩
   ·have a1:=hnew B ⟨i',o',sz',h5' ▸ hm',h6' ▸ e'⟩
    have a2:=hltB b B o sz h2 (h5 ▸ e)
    omega
   ·exact hh.inj b b' B o sz o' sz' (h3 hm).1 (h3' hm').1 (h5 ▸ e) (h5' ▸ e')
 ·rcases cases2 b (live_of_mutable hm)with ⟨i,h1,h2,h3,h4,h5,h6⟩ | ⟨h1,h2,h3,h4,h5⟩
  ·exact hx.disj i B o sz (h5 ▸ hm) (h6 ▸ e) hB
  ·have hm0:=(h3 hm).1
   have e0:φ b=some (B,o,sz):=h5 ▸ e
   rcases hb B hB with hB | ⟨ht,b1,hb1,o1,sz1,e1⟩ | hB
   ·exact hh.disj b B o sz hm0 e0 hB
   ·cases hm1:mutable (rd b1)with
    | true=>
     have:=hh.inj b b1 B o sz o1 sz1 hm0 hm1 e0 e1
     subst this
     exact(h3 hm).2.2 ht hb1
    | false=>exact hh.disj b B o sz hm0 e0 (hh.imm b1 B o1 sz1 (hr b1 hb1) hm1 e1)
   ·have:=hltB b B o sz h2 e0
    omega
 ·rcases cases2 b hl with ⟨i,h1,h2,h3,h4,h5,h6⟩ | ⟨h1,h2,h3,h4,h5⟩
  ·exact hx.imm i B o sz h4 (h5 ▸ hm) (h6 ▸ e)
  ·have e0:φ b=some (B,o,sz):=h5 ▸ e
   rcases h4 with h4 | ⟨h4,ht,hbr⟩
   ·exact ha B (hh.imm b B o sz h2 (h4 ▸ hm) e0)
   ·exact hd ht B ⟨b,hbr,o,sz,e0⟩
 ·rcases hb B hB with hB | ⟨ht,b1,hb1,o1,sz1,e1⟩ | hB
  ·exact .inl hB
  ·cases hm1:mutable (rd b1)with
   | true=>exact .inr (.inl ⟨b1,o1,sz1,hm1,e1⟩)
   | false=>exact .inl (hh.imm b1 B o1 sz1 (hr b1 hb1) hm1 e1)
  ·exact .inr (.inr hB)
def Ans(P:Program)(f:Nat)(ra:Array Value)(w:World)(K:Value->World->Prop):Prop:=
 ((callFunc f ra).run P w=.ok (.enter f ra) w/\Calls P f ra w fun e w'=>∃ u,e=.returned u/\K u w') \/ ∃ u w',(callFunc f ra).run P w=.ok (.value u) w'/\K u w'
theorem Ans.mono{P:Program}{f:Nat}{ra:Array Value}{w:World}{K K':Value->World->Prop}(h:Ans P f ra w K)(hk:∀ u w',K u w'->K' u w'):Ans P f ra w K':=by
 rcases h with ⟨h1,h2⟩ | ⟨u,w',h1,h2⟩
 ·exact .inl ⟨h1,Calls.mono h2 fun e w' ⟨u,he,hu⟩=>⟨u,he,hk u w' hu⟩⟩
 ·exact .inr ⟨u,w',h1,hk u w' h2⟩
def RVs(w:World)(I:Nat->Prop)(φ:Phi)(l:List AV)(ra:Array Value):Prop:=l.length=ra.size /\ ∀ (k:Nat) x u,l[k]? = some x->ra[k]? = some u->RV w I φ x u
def Contract(P:Program)(f:Nat)(args:List AV)(hp:Heap)(res:AV)(hp':Heap):Prop:=
 ∀ (w:World) (I:Nat->Prop) (φ:Phi) (ra:Array Value),RH w I φ (hget hp)->RVs w I φ args ra ->
  Ans P f ra w fun u w'=>∃ φ' I',RV w' I' φ' res u/\RH w' I' φ' (hget hp')/\Step hp.length (hget hp) φ I w (hget hp') φ' I' w'
def RunOk{R:Type}(P:Program)(run:CallK R):Prop:=∀ f args hp k r,run f args hp k=some r -> ∃ res hp',k res hp'=some r/\hp.length<=hp'.length/\Contract P f args hp res hp'
theorem hget_nil(b:Nat):hget [] b=.none:=by simp[hget]
theorem RH.empty(w:World)(I:Nat->Prop)(h:∀ B,I B->B<w.heap.size):RH w I Phi.no (hget []):=by
 refine⟨fun _ _=>rfl,fun b hl=>?_,fun b b' B o sz o' sz' hm=>?_,fun b B o sz hm=>?_,fun b B o sz hl=>?_,h⟩
 ·rw[hget_nil]at hl;cases hl
 ·rw[hget_nil]at hm;cases hm
 ·rw[hget_nil]at hm;cases hm
 ·rw[hget_nil]at hl;cases hl
theorem not_mut_nil{φ:Phi}{B:Nat}(h:Mut φ (hget []) B):False:=by
 obtain⟨b,o,sz,hm,_⟩:=h
 rw[hget_nil]at hm;cases hm
theorem Contract.renum{P:Program}{f:Nat}{args:List AV}{res:AV}{hp':Heap}(h:Contract P f args [] res hp'){ids:List Nat}(hd:Distinct ids) :
  Contract P f args [] (ren (fun b=>indexOf b ids 0) res) (reheap ids (hget hp')):=by
 intro w I φ ra hh hx
 refine(h w I φ ra hh hx).mono fun u w' ⟨φ',I',h1,h2,h3⟩=>⟨rephi ids φ',I',h1.ren fun b b'=>rephi_ren b b',h2.renum hd,⟨fun b p hb=>absurd hb (Nat.not_lt_zero b),h3.Ile,h3.Inew,fun B hB=>h3.mt B (mut_renum hB),h3.ext⟩⟩
def Eff.rd(rd:Nat->BS):Eff->Nat->BS
 | .wr l=>rdputs rd l
 | .full h=>hget h
theorem Eff.apply_rd(h:Heap)(e:Eff):hget (e.apply h)=e.rd (hget h):=by
 cases e with
 | wr l=>exact hget_hputs h l
 | full h'=>rfl
def Eff.fits(rd rd':Nat->BS):Eff->Prop
 | .wr l=>∀ p ∈ l,rd' p.1=rd p.1
 | .full _=>rd'=rd
def CallSim(P:Program)(f:Nat)(args:List AV)(len:Nat)(rd:Nat->BS)(v:AV)(e:Eff)(rdl:List Nat):Prop:=
 ∀ (rd':Nat->BS) (w:World) (I:Nat->Prop) (φ:Phi) (ra:Array Value),(∀ b ∈ rdl,rd' b=rd b)->e.fits rd rd'->RH w I φ rd'->RVs w I φ args ra ->
  Ans P f ra w fun u w'=>∃ φ' I',RV w' I' φ' v u/\RH w' I' φ' (e.rd rd')/\(∀ base,base<=len->Step base rd' φ I w (e.rd rd') φ' I' w')/\Phi.le φ φ'
theorem snap_args{w:World}{I:Nat->Prop}{φ:Phi}{rd rd':Nat->BS}{args args':List AV}{ra:Array Value}{l:List Nat}(hh:RH w I φ rd')(hx:RVs w I φ args ra){d:Nat}(hs:snapL d rd args=some (args',l))(hr:∀ b ∈ l,rd' b=rd b) :
  (∀ b ∈ l,live (rd' b)=true)/\RVs w (fun B=>I B\/InL φ l B) Phi.no args' ra:=by
 obtain⟨h1,h2,h3⟩:=(snapG_ok hh d).2.1 _ _ _ (ungard_some.1 hs) hr
 refine⟨h1,h2.trans hx.1,fun k x u e e'=>?_⟩
 obtain⟨c,e1,e2⟩:=h3 k x e
 exact e2 _ (fun B hB=>.inl hB) (fun B hB=>.inr hB) u (hx.2 k c u e1 e')
theorem inL_lt{w:World}{I:Nat->Prop}{φ:Phi}{rd:Nat->BS}(hh:RH w I φ rd){l:List Nat}(hl:∀ b ∈ l,live (rd b)=true){B:Nat}(h:InL φ l B):B<w.heap.size:=by
 obtain⟨b,hb,o,sz,e⟩:=h
 have r:=hh.at e (hl b hb)
 exact r.lt (hl b hb)
theorem own_ok{R:Type}{P:Program}{f m:Nat}{args args':List AV}{hp:Heap}{rch:List Nat}{r0:AV}{bs:Heap}{k:OperK R}{r:R}(hs:snapL depth (hget hp) args=some (args',rch))
  (hc:Contract P f args' [] r0 bs) (hn:∀ b,hp.length<=b->hget hp b=.none) (h:finishCall m (hget hp) hp.length rch r0 bs k=some r) :
  ∃ v l,k v (.wr l) rch=some r/\CallSim P f args hp.length (hget hp) v (.wr l) rch:=by
 obtain⟨t,ht⟩:∃ t,t=(hasTree r0||bs.any blkHasTree):=⟨_,rfl⟩
 have hfz:(bif hasTree r0||bs.any blkHasTree then rch.map fun b=>(b,frozen (hget hp b))else []:Wr)=(bif t then rch.map fun b=>(b,frozen (hget hp b))else []):=by rw[ht]
 have leaves:∀ (rd':Nat->BS) (w:World) (I:Nat->Prop) (φ:Phi) (ra:Array Value),(∀ b ∈ rch,rd' b=hget hp b)->RH w I φ rd'->RVs w I φ args ra ->
   (∀ b ∈ rch,live (rd' b)=true)/\Ans P f ra w fun u w'=>∃ φ' I3,RV w' I3 φ' r0 u/\RH w' I3 φ' (hget bs)/\Ext (fun _=>False) w w'/\(∀ B,Mut φ' (hget bs) B->w.heap.size<=B) /\
    (∀ B,I B->I3 B)/\(∀ B,I3 B->I B\/(t=true/\InL φ rch B)\/w.heap.size<=B)/\(t=true -> ∀ B,InL φ rch B->I3 B):=by
  intro rd' w I φ ra hrd hh hx
  obtain⟨hl,hx'⟩:=snap_args hh hx hs hrd
  refine⟨hl,(hc w (fun B=>I B\/InL φ rch B) Phi.no ra (RH.empty w _ fun B hB=>hB.elim (hh.lt B) (inL_lt hh hl)) hx').mono fun u w' ⟨φ',I',h1,h2,h3⟩=>?_⟩
  have ext:Ext (fun _=>False) w w':=h3.ext.weaken fun B h=>not_mut_nil h
  have hnew:∀ B,Mut φ' (hget bs) B->w.heap.size<=B:=fun B hB=>(h3.mt B hB).elim (fun h=>(not_mut_nil h).elim) id
  cases hb:t with
  | true=>
   refine⟨φ',I',h1,h2,ext,hnew,fun B hB=>h3.Ile B (.inl hB),fun B hB=>?_,fun _ B hB=>h3.Ile B (.inr hB)⟩
   rcases h3.Inew B hB with (h | h) | h | h
   ·exact .inl h
   ·exact .inr (.inl ⟨rfl,h⟩)
   ·exact(not_mut_nil h).elim
   ·exact .inr (.inr h)
  | false=>
   rw[hb]at ht
   obtain⟨ht1,ht2⟩:=Bool.or_eq_false_iff.1 ht.symm
   have htl:∀ b,blkHasTree (hget bs b)=false:=by
    intro b
    simp only[hget,List.getD]
    cases e:bs[b]? with
    | none=>rfl
    | some x=>simpa using (List.any_eq_false.1 ht2) x (List.mem_of_getElem? e)
   refine⟨φ',I,h1.treeless I ht1,⟨h2.none,fun b hb=>?_,h2.inj,fun b B o sz hm e hB=>?_,fun b B o sz hl hm e=>?_,fun B hB=>Nat.lt_of_lt_of_le (hh.lt B hB) ext.size⟩,ext,hnew,fun B hB=>hB,fun B hB=>.inl hB,fun h=>by cases h⟩
   ·rcases h2.blk b hb with ⟨B,o,sz,e,r⟩ | hp
    ·exact .inl ⟨B,o,sz,e,r.treeless I (htl b)⟩
    ·exact .inr hp
   ·have:=hnew B ⟨b,o,sz,hm,e⟩
    have:=hh.lt B hB
    omega
   ·rw[blkHasTree_mut (htl b) hl]at hm;cases hm
 unfold finishCall at h
 rw[hfz]at h
 split at h
 ·
  refine⟨_,_,h,fun rd' w I φ ra hrd hfit hh hx=>?_⟩
  obtain⟨hl,hans⟩:=leaves rd' w I φ ra hrd hh hx
  refine hans.mono fun u w' ⟨φ',I3,h1,h2,h3,h4,h5,h6,h7⟩=>?_
  have hno:∀ i,i<bs.length->rd' (hp.length+i)=.none:=by
   intro i hi
   obtain⟨x,hx'⟩:=imports_mem (nx:=hp.length) (l:=bs.map (renB (shift hp.length bs.length))) (i:=0) (j:=i) (by simpa using hi)
   have:=hfit _ (List.mem_append_right _ hx')
   simp only[Nat.add_zero]at this
   rw[this]
   exact hn _ (Nat.le_add_right _ _)
  obtain⟨φ2,g1,g2,g3,g4⟩:=hh.merge (t:=t) hl hno h3 h5 h6 h7 h2 h4 (hget hp) (fun b hb=>(hrd b hb).symm)
  exact⟨φ2,I3,h1.ren g1,g3,g4,g2⟩
 ·
  split at h
  ·rename_i r1 l1 g1 hs1
   obtain⟨hg,h⟩:=cond_some h
   subst hg
   replace hs1:=ungard_some.2 hs1
   refine⟨_,_,h,fun rd' w I φ ra hrd hfit hh hx=>?_⟩
   obtain⟨hl,hans⟩:=leaves rd' w I φ ra hrd hh hx
   refine hans.mono fun u w' ⟨φ',I3,h1,h2,h3,h4,h5,h6,h7⟩=>?_
   obtain⟨s1,s2⟩:=(snap_ok h2 depth).1 _ _ _ hs1
   have hr:=s2 (fun B=>I3 B\/InL φ' l1 B) (fun B hB=>.inl hB) (fun B hB=>.inr hB) u h1
   have hb:∀ B,(I3 B\/InL φ' l1 B)->I B\/(t=true/\InL φ rch B)\/w.heap.size<=B:=by
    rintro B (hB | ⟨b,hb,o,sz,e⟩)
    ·exact h6 B hB
    ·cases hm:mutable (hget bs b)with
     | true=>exact .inr (.inr (h4 B ⟨b,o,sz,hm,e⟩))
     | false=>exact h6 B (h2.imm b B o sz (s1 b hb) hm e)
   obtain⟨φ2,g1,g2,g3,g4⟩:=hh.merge (t:=t) (bs:=[]) (I2:=fun B=>I3 B\/InL φ' l1 B) (φ':=Phi.no) hl (fun i hi=>by simp at hi) h3 (fun B hB=>.inl (h5 B hB))
    hb (fun ht B hB=>.inl (h7 ht B hB)) (RH.empty w' _ fun B hB=>hB.elim (h2.lt B) (inL_lt h2 s1)) (fun B hB=>(not_mut_nil hB).elim) (hget hp) (fun b hb=>(hrd b hb).symm)
   simp only[List.map_nil,imports,List.append_nil]at g3 g4
   exact⟨φ2,_,hr.mono (fun B hB=>⟨hB,rfl⟩) (fun _=>Nat.le_refl _) (Phi.no_le _),g3,g4,g2⟩
  ·cases h
end Go.AM
end
noncomputable section
set_option linter.unusedVariables false
set_option linter.unusedSimpArgs false
namespace Go.AM
theorem hput_length(h:Heap)(b:Nat)(x:BS):h.length<=(hput h b x).length:=by
 induction b generalizing h with
 | zero=>cases h <;> simp[hput]
 | succ b ih=>cases h with
  | nil=>simp
  | cons y h=>simp only[hput,List.length_cons];have:=ih h;omega
theorem hputs_length(l:Wr):∀ h:Heap,h.length<=(hputs h l).length:=by
 induction l with
 | nil=>intro h;exact Nat.le_refl _
 | cons p r ih=>intro h;obtain⟨b,x⟩:=p;exact Nat.le_trans (hput_length h b x) (ih _)
theorem hget_ge{h:Heap}{b:Nat}(hb:h.length<=b):hget h b=.none:=by
 simp[hget,List.getD,List.getElem?_eq_none hb]
theorem hget_frozen(h:Heap)(ρ:Nat->Option Nat)(b:Nat):hget (h.map fun x=>frozen (renB ρ x)) b=frozen (renB ρ (hget h b)):=by
 simp only[hget,List.getD,List.getElem?_map]
 cases h[b]? <;> rfl
structure EnvOk(P:Program)(env:Env):Prop where
 tt:TTok P env.tt
 orc:∀ f args hp A,env.orc f args hp=some A->A.g=true->Contract P f args hp (A.r A.a).1 (A.r A.a).2/\hp.length<=(A.r A.a).2.length
variable {R:Type}
theorem insL_some{l:List Nat}{b b':Nat}(h:insL l b=some b'):b ∈ l/\b'=b:=by
 unfold insL at h
 cases hm:memb b l with
 | false=>rw[hm]at h;cases h
 | true=>rw[hm]at h;cases h;exact⟨(memb_mem b l).1 hm,rfl⟩
theorem keep_length(l:List Nat):∀ (hp:Heap) (i:Nat),(keep l i hp).length=hp.length
 | [],i=>rfl
 | x::r,i=>by simp[keep,keep_length l r (i+1)]
theorem hget_keep(l:List Nat):∀ (hp:Heap) (i b:Nat),hget (keep l i hp) b=if b<hp.length/\i+b ∈ l then renB (insL l) (hget hp b)else .none
 | [],i,b=>by simp[keep,hget]
 | x::r,i,0=>by
  simp only[keep,hget,List.getD_cons_zero,List.length_cons,Nat.add_zero]
  cases hm:memb i l with
  | true=>rw[if_pos ⟨by omega,(memb_mem i l).1 hm⟩];rfl
  | false=>rw[if_neg (fun h=>by rw[(memb_mem i l).2 h.2]at hm;cases hm)];rfl
 | x::r,i,b+1=>by
  have:=hget_keep l r (i+1) b
  simp only[hget,keep,List.getD_cons_succ,List.length_cons]at this ⊢
  rw[this,show i+1+b=i+(b+1) by omega]
  by_cases h:b<r.length/\i+(b+1) ∈ l
  ·rw[if_pos h,if_pos ⟨by omega,h.2⟩]
  ·rw[if_neg h,if_neg (fun h'=>h ⟨by omega,h'.2⟩)]
theorem rdputs_map(F:Nat->BS)(b:Nat):∀ (l:List Nat) (rd:Nat->BS),rdputs rd (l.map fun b=>(b,F b)) b=if b ∈ l then F b else rd b:=by
 intro l
 induction l with
 | nil=>intro rd;simp[rdputs]
 | cons x r ih=>
  intro rd
  simp only[List.map_cons,rdputs,ih]
  by_cases h:b ∈ r
  ·rw[if_pos h,if_pos (List.mem_cons_of_mem _ h)]
  ·rw[if_neg h]
   by_cases e:b=x
   ·subst e;rw[if_pos (by simp),rdput_same]
   ·rw[if_neg (by simp[e,h]),rdput_ne _ _ e]
section
variable {P:Program} {env:Env} {run:CallK R} {hp:Heap} {r:R}
theorem keep_ok{f:Nat}{args:List AV}{ids:List Nat}(hids:∀ b ∈ ids,b<hp.length){res:AV}{h':Heap}(hlen:hp.length<=h'.length)
  (hc:Contract P f (renL (insL ids) args) (keep ids 0 hp) res h') {S:List Nat} (hS:∀ b,b ∈ S ↔ b ∈ ids\/(hp.length<=b/\b<h'.length)) :
  CallSim P f args hp.length (hget hp) (ren (insL S) res) (.wr (S.map fun b=>(b,renB (insL S) (hget h' b)))) ids:=by
 intro rd' w I φ ra hrd hfit hh hx
 have hfit:∀ b ∈ S,rd' b=hget hp b:=fun b hb=>hfit (b,renB (insL S) (hget h' b)) (List.mem_map.2 ⟨b,hb,rfl⟩)
 classical
 let φr:Phi:=fun b=>if b ∈ ids then φ b else none
 have hφr:∀ b b',insL ids b=some b'->φr b'=φ b:=by
  intro b b' e
  obtain⟨h1,rfl⟩:=insL_some e
  simp only[φr,if_pos h1]
 have hrR:∀ b,hget (keep ids 0 hp) b=if b ∈ ids then renB (insL ids) (rd' b)else .none:=by
  intro b
  rw[hget_keep,Nat.zero_add]
  by_cases h:b ∈ ids
  ·rw[if_pos ⟨hids b h,h⟩,if_pos h,hrd b h]
  ·rw[if_neg (fun h'=>h h'.2),if_neg h]
 have hx':RVs w I φr (renL (insL ids) args) ra:=by
  refine⟨by rw[renL_map];simpa using hx.1,fun k x u e e'=>?_⟩
  obtain⟨c,e1,rfl⟩:=renL_get e
  exact(hx.2 k c u e1 e').ren hφr
 have hin:∀ b,live (hget (keep ids 0 hp) b)=true->b ∈ ids/\live (rd' b)=true/\hget (keep ids 0 hp) b=renB (insL ids) (rd' b):=by
  intro b hl
  rw[hrR]at hl ⊢
  by_cases h:b ∈ ids
  ·rw[if_pos h]at hl ⊢;exact⟨h,(renB_kind _ _).1 hl,rfl⟩
  ·rw[if_neg h]at hl;cases hl
 have hinm:∀ b,mutable (hget (keep ids 0 hp) b)=true->b ∈ ids/\mutable (rd' b)=true:=by
  intro b hl
  rw[hrR]at hl
  by_cases h:b ∈ ids
  ·rw[if_pos h]at hl;exact⟨h,(renB_kind _ _).2.1 hl⟩
  ·rw[if_neg h]at hl;cases hl
 have hφid:∀ b,b ∈ ids->φr b=φ b:=fun b h=>by simp only[φr,if_pos h]
 have hhR:RH w I φr (hget (keep ids 0 hp)):=by
  refine⟨fun b e=>?_,fun b hl=>?_,fun b b' B o sz o' sz' hm hm' e e'=>?_,fun b B o sz hm e=>?_,fun b B o sz hl hm e=>?_,hh.lt⟩
  ·by_cases h:b ∈ ids
   ·rw[hrR,if_pos h]at e
    rw[hφid b h]
    exact hh.none b ((renB_kind _ _).2.2.1 e)
   ·simp only[φr,if_neg h]
  ·obtain⟨h1,h2,h3⟩:=hin b hl
   rcases hh.blk b h2 with ⟨B,o,sz,e,r⟩ | ⟨e,hp⟩
   ·exact .inl ⟨B,o,sz,by rw[hφid b h1];exact e,by rw[h3];exact r.ren hφr⟩
   ·exact .inr ⟨by rw[hφid b h1];exact e,by rw[h3];exact phantom_ren _ hp⟩
  ·obtain⟨h1,h2⟩:=hinm b hm
   obtain⟨h1',h2'⟩:=hinm b' hm'
   rw[hφid b h1]at e
   rw[hφid b' h1']at e'
   exact hh.inj b b' B o sz o' sz' h2 h2' e e'
  ·obtain⟨h1,h2⟩:=hinm b hm
   rw[hφid b h1]at e
   exact hh.disj b B o sz h2 e
  ·obtain⟨h1,h2,h3⟩:=hin b hl
   rw[hφid b h1]at e
   refine hh.imm b B o sz h2 ?_ e
   rw[h3]at hm hl
   rw[<- (renB_kind _ _).2.2.2 hl];exact hm
 have hMut:∀ B,Mut φr (hget (keep ids 0 hp)) B -> ∃ b o sz,b ∈ ids/\mutable (rd' b)=true/\φ b=some (B,o,sz):=by
  rintro B ⟨b,o,sz,hm,e⟩
  obtain⟨h1,h2⟩:=hinm b hm
  rw[hφid b h1]at e
  exact⟨b,o,sz,h1,h2,e⟩
 refine(hc w I φr ra hhR hx').mono fun u w' ⟨φ1,I1,a1,a2,a3⟩=>?_
 let φ2:Phi:=fun b=>if b ∈ S then φ1 b else φ b
 have hφ2:∀ b b',insL S b=some b'->φ2 b'=φ1 b:=by
  intro b b' e
  obtain⟨h1,rfl⟩:=insL_some e
  simp only[φ2,if_pos h1]
 have hφS:∀ b,b ∈ S->φ2 b=φ1 b:=fun b h=>by simp only[φ2,if_pos h]
 have hφN:∀ b,b ∉ S->φ2 b=φ b:=fun b h=>by simp only[φ2,if_neg h]
 have hle:Phi.le φ φ2:=by
  intro b p e
  by_cases h:b ∈ S
  ·rw[hφS b h]
   rcases(hS b).1 h with h1 | ⟨h1,_⟩
   ·exact a3.le b p (by rw[keep_length];exact hids b h1) (by rw[hφid b h1];exact e)
   ·have:=hh.none b ((hfit b h).trans (hget_ge h1))
    rw[e]at this;cases this
  ·rw[hφN b h];exact e
 have hE:∀ b,(Eff.wr (S.map fun b=>(b,renB (insL S) (hget h' b)))).rd rd' b=if b ∈ S then renB (insL S) (hget h' b)else rd' b:=fun b=>rdputs_map _ b S rd'
 have hsub:∀ b,b ∈ ids->b ∈ S:=fun b h=>(hS b).2 (.inl h)
 have hkeep:∀ b B o sz,b ∉ S->live (rd' b)=true->φ b=some (B,o,sz) -> ¬ Mut φr (hget (keep ids 0 hp)) B:=by
  intro b B o sz hb hl e hM
  obtain⟨b1,o1,sz1,h1,h2,e1⟩:=hMut B hM
  cases hm:mutable (rd' b)with
  | true=>
   have:=hh.inj b b1 B o sz o1 sz1 hm h2 e e1
   subst this
   exact hb (hsub _ h1)
  | false=>exact hh.disj b1 B o1 sz1 h2 e1 (hh.imm b B o sz hl hm e)
 have hIk:∀ B,I B->I1 B/\w'.heap[B]? = w.heap[B]? := fun B hB=>⟨a3.Ile B hB,a3.ext.keep B (hh.lt B hB) fun hM=>by
  obtain⟨b1,o1,sz1,_,h2,e1⟩:=hMut B hM
  exact hh.disj b1 B o1 sz1 h2 e1 hB⟩
 have hlt:∀ b B o sz,live (rd' b)=true->φ b=some (B,o,sz)->B<w.heap.size:=by
  intro b B o sz hl e
  have r:=hh.at e hl
  exact r.lt hl
 have cross:∀ b b' B o sz o' sz',b ∈ S->b' ∉ S->mutable (hget h' b)=true->mutable (rd' b')=true->φ1 b=some (B,o,sz)->φ b'=some (B,o',sz')->False:=by
  intro b b' B o sz o' sz' hb hb' hm hm' e e'
  rcases a3.mt B ⟨b,o,sz,hm,e⟩with hM | hge
  ·exact hkeep b' B o' sz' hb' (live_of_mutable hm') e' hM
  ·have:=hlt b' B o' sz' (live_of_mutable hm') e'
   omega
 have hnew:RH w' I1 φ2 ((Eff.wr (S.map fun b=>(b,renB (insL S) (hget h' b)))).rd rd'):=by
  refine⟨fun b e=>?_,fun b hl=>?_,fun b b' B o sz o' sz' hm hm' e e'=>?_,fun b B o sz hm e=>?_,fun b B o sz hl hm e=>?_,a2.lt⟩
  ·rw[hE]at e
   by_cases h:b ∈ S
   ·rw[if_pos h]at e;rw[hφS b h];exact a2.none b ((renB_kind _ _).2.2.1 e)
   ·rw[if_neg h]at e;rw[hφN b h];exact hh.none b e
  ·rw[hE]at hl ⊢
   by_cases h:b ∈ S
   ·rw[if_pos h]at hl ⊢
    rcases a2.blk b ((renB_kind _ _).1 hl)with ⟨B,o,sz,e,r⟩ | ⟨e,hp⟩
    ·exact .inl ⟨B,o,sz,by rw[hφS b h];exact e,r.ren hφ2⟩
    ·exact .inr ⟨by rw[hφS b h];exact e,phantom_ren _ hp⟩
   ·rw[if_neg h]at hl ⊢
    rcases hh.blk b hl with ⟨B,o,sz,e,r⟩ | ⟨e,hp⟩
    rotate_left
    ·exact .inr ⟨by rw[hφN b h];exact e,hp⟩
    exact .inl ⟨B,o,sz,by rw[hφN b h];exact e,r.mono hIk a3.ext.csize hle (a3.ext.keep B (r.lt hl) (hkeep b B o sz h hl e))⟩
  ·rw[hE]at hm hm'
   by_cases h:b ∈ S
   ·rw[if_pos h]at hm
    rw[hφS b h]at e
    by_cases h':b' ∈ S
    ·rw[if_pos h']at hm'
     rw[hφS b' h']at e'
     exact a2.inj b b' B o sz o' sz' ((renB_kind _ _).2.1 hm) ((renB_kind _ _).2.1 hm') e e'
    ·rw[if_neg h']at hm'
     rw[hφN b' h']at e'
     exact(cross b b' B o sz o' sz' h h' ((renB_kind _ _).2.1 hm) hm' e e').elim
   ·rw[if_neg h]at hm
    rw[hφN b h]at e
    by_cases h':b' ∈ S
    ·rw[if_pos h']at hm'
     rw[hφS b' h']at e'
     exact(cross b' b B o' sz' o sz h' h ((renB_kind _ _).2.1 hm') hm e' e).elim
    ·rw[if_neg h']at hm'
     rw[hφN b' h']at e'
     exact hh.inj b b' B o sz o' sz' hm hm' e e'
  ·rw[hE]at hm
   by_cases h:b ∈ S
   ·rw[if_pos h]at hm
    rw[hφS b h]at e
    exact a2.disj b B o sz ((renB_kind _ _).2.1 hm) e
   ·rw[if_neg h]at hm
    rw[hφN b h]at e
    intro hB
    rcases a3.Inew B hB with h1 | h1 | h1
    ·exact hh.disj b B o sz hm e h1
    ·exact hkeep b B o sz h (live_of_mutable hm) e h1
    ·have:=hlt b B o sz (live_of_mutable hm) e
     omega
  ·rw[hE]at hl hm
   by_cases h:b ∈ S
   ·rw[if_pos h]at hl hm
    rw[hφS b h]at e
    exact a2.imm b B o sz ((renB_kind _ _).1 hl) (by rw[<- (renB_kind _ _).2.2.2 hl];exact hm) e
   ·rw[if_neg h]at hl hm
    rw[hφN b h]at e
    exact a3.Ile B (hh.imm b B o sz hl hm e)
 have hM1:∀ B,Mut φr (hget (keep ids 0 hp)) B->Mut φ rd' B:=fun B hM=>by
  obtain⟨b1,o1,sz1,_,h2,e1⟩:=hMut B hM
  exact⟨b1,o1,sz1,h2,e1⟩
 refine⟨φ2,I1,a1.ren hφ2,hnew,fun base hb=>⟨fun b p _ e=>hle b p e,a3.Ile,fun B hB=>(a3.Inew B hB).imp id (fun h=>h.imp (hM1 B) id),fun B hB=>?_,a3.ext.weaken hM1⟩,hle⟩
 obtain⟨b,o,sz,hm,e⟩:=hB
 rw[hE]at hm
 by_cases h:b ∈ S
 ·rw[if_pos h]at hm
  rw[hφS b h]at e
  exact(a3.mt B ⟨b,o,sz,(renB_kind _ _).2.1 hm,e⟩).imp (hM1 B) id
 ·rw[if_neg h]at hm
  rw[hφN b h]at e
  exact .inl ⟨b,o,sz,hm,e⟩
theorem indexOf_mem{b:Nat}:∀ {l:List Nat} {n:Nat},b ∈ l -> ∃ i,indexOf b l n=some i
 | [],n,h=>by cases h
 | x::r,n,h=>by
  unfold indexOf
  cases hx:Nat.beq x b with
  | true=>exact⟨n,rfl⟩
  | false=>
   rcases List.mem_cons.1 h with e | h
   ·subst e;simp at hx
   ·exact indexOf_mem h
theorem backI_backR{n:Nat}{ids:List Nat}(hd:Distinct ids)(hids:∀ b ∈ ids,b<n){i b:Nat}(h:backR n ids i=some b):backI n ids b=some i:=by
 unfold backR at h
 unfold backI
 cases e:ids[i]? with
 | some b'=>
  rw[e]at h;cases h
  obtain⟨i',hi⟩:=indexOf_mem (n:=0) (List.mem_of_getElem? e)
  have:=(indexOf_some b ids 0 i' hi).2
  rw[Nat.sub_zero]at this
  rw[hi,hd i' i b this e]
 | none=>
  rw[e]at h;cases h
  have hi:ids.length<=i:=by
   rcases Nat.lt_or_ge i ids.length with h | h
   ·rw[List.getElem?_eq_getElem h]at e;cases e
   ·exact h
  cases e2:indexOf (n+(i - ids.length)) ids 0 with
  | some j=>
   have:=(indexOf_some _ ids 0 j e2).2
   rw[Nat.sub_zero]at this
   have:=hids _ (List.mem_of_getElem? this)
   omega
  | none=>
   have:Nat.ble n (n+(i - ids.length))=true:=by rw[Nat.ble_eq];omega
   rw[this]
   show some (ids.length+(n+(i - ids.length) - n))=some i
   congr 1;omega
theorem backI_inj{n:Nat}{ids:List Nat}(hids:∀ b ∈ ids,b<n){b b' i:Nat}(h:backI n ids b=some i)(h':backI n ids b'=some i):b=b':=by
 have key:∀ b,backI n ids b=some i->(ids[i]? = some b)\/(ids.length<=i/\n<=b/\i=ids.length+(b - n)):=by
  intro b h
  unfold backI at h
  cases e:indexOf b ids 0 with
  | some j=>
   rw[e]at h;cases h
   have:=(indexOf_some b ids 0 i e).2
   rw[Nat.sub_zero]at this
   exact .inl this
  | none=>
   rw[e]at h
   simp only at h
   obtain⟨h1,h2⟩:=cond_some h
   cases h2
   exact .inr ⟨Nat.le_add_right _ _,Nat.le_of_ble_eq_true h1,rfl⟩
 rcases key b h with h1 | ⟨h1,h2,h3⟩
 ·rcases key b' h' with g1 | ⟨g1,g2,g3⟩
  ·rw[h1]at g1;exact Option.some.inj g1
  ·have:=(List.getElem?_eq_some_iff.1 h1).1;omega
 ·rcases key b' h' with g1 | ⟨g1,g2,g3⟩
  ·have:=(List.getElem?_eq_some_iff.1 g1).1;omega
  ·omega
theorem Contract.move{f:Nat}{args:List AV}{hk:Heap}{ids:List Nat}{n:Nat}(hd:Distinct ids)(hids:∀ b ∈ ids,b<n)(hn:hk.length=n)(hno:∀ b,b ∉ ids->hget hk b=.none){res:AV}{h5:Heap}(hlen:ids.length<=h5.length)
  (hc:Contract P f (renL (fun b=>indexOf b ids 0) args) (reheap ids (hget hk)) res h5) {h':Heap} (hh':∀ b,hget h' b=backB n ids h5 b):Contract P f args hk (ren (backR n ids) res) h':=by
 intro w I φ ra hh hx
 have hx5:RVs w I (rephi ids φ) (renL (fun b=>indexOf b ids 0) args) ra:=by
  refine⟨by rw[renL_map];simpa using hx.1,fun k x u e e'=>?_⟩
  obtain⟨c,e1,rfl⟩:=renL_get e
  exact(hx.2 k c u e1 e').ren fun b b'=>rephi_ren b b'
 refine(hc w I (rephi ids φ) ra (hh.renum hd) hx5).mono fun u w' ⟨φ5,I5,a1,a2,a3⟩=>?_
 have hlr:(reheap ids (hget hk)).length=ids.length:=by simp[reheap]
 let φ':Phi:=fun b=>(backI n ids b).bind φ5
 have hφ':∀ i b,backR n ids i=some b->φ' b=φ5 i:=fun i b e=>by simp only[φ',backI_backR hd hids e,Option.bind_some]
 have hget':∀ b,live (hget h' b)=true -> ∃ i,backI n ids b=some i/\hget h' b=renB (backR n ids) (hget h5 i)/\live (hget h5 i)=true/\φ' b=φ5 i:=by
  intro b hl
  rw[hh']at hl ⊢
  unfold backB at hl ⊢
  cases e:backI n ids b with
  | none=>rw[e]at hl;cases hl
  | some i=>
   rw[e]at hl
   exact⟨i,rfl,rfl,(renB_kind _ _).1 hl,by simp only[φ',e,Option.bind_some]⟩
 have hmut:∀ b,mutable (hget h' b)=true -> ∃ i,backI n ids b=some i/\mutable (hget h5 i)=true/\φ' b=φ5 i:=by
  intro b hm
  obtain⟨i,h1,h2,_,h4⟩:=hget' b (live_of_mutable hm)
  rw[h2]at hm
  exact⟨i,h1,(renB_kind _ _).2.1 hm,h4⟩
 have hM:∀ B,Mut (rephi ids φ) (hget (reheap ids (hget hk))) B->Mut φ (hget hk) B:=fun B=>mut_renum
 refine⟨φ',I5,a1.ren hφ',⟨fun b e=>?_,fun b hl=>?_,fun b b' B o sz o' sz' hm hm' e e'=>?_,fun b B o sz hm e=>?_,fun b B o sz hl hm e=>?_,a2.lt⟩,⟨fun b p hb e=>?_,a3.Ile,fun B hB=>(a3.Inew B hB).imp id (fun h=>h.imp (hM B) id),fun B hB=>?_,a3.ext.weaken hM⟩⟩
 ·rw[hh']at e
  unfold backB at e
  simp only[φ']
  cases e1:backI n ids b with
  | none=>rfl
  | some i=>
   rw[e1]at e
   exact a2.none i ((renB_kind _ _).2.2.1 e)
 ·obtain⟨i,h1,h2,h3,h4⟩:=hget' b hl
  rcases a2.blk i h3 with ⟨B,o,sz,e,r⟩ | ⟨e,hp⟩
  ·exact .inl ⟨B,o,sz,h4.trans e,by rw[h2];exact r.ren hφ'⟩
  ·exact .inr ⟨h4.trans e,by rw[h2];exact phantom_ren _ hp⟩
 ·obtain⟨i,h1,h2,h3⟩:=hmut b hm
  obtain⟨i',h1',h2',h3'⟩:=hmut b' hm'
  have:=a2.inj i i' B o sz o' sz' h2 h2' (h3 ▸ e) (h3' ▸ e')
  subst this
  exact backI_inj hids h1 h1'
 ·obtain⟨i,h1,h2,h3⟩:=hmut b hm
  exact a2.disj i B o sz h2 (h3 ▸ e)
 ·obtain⟨i,h1,h2,h3,h4⟩:=hget' b hl
  refine a2.imm i B o sz h3 ?_ (h4 ▸ e)
  rw[h2]at hl hm
  rw[<- (renB_kind _ _).2.2.2 hl];exact hm
 ·have hbi:b ∈ ids:=by
   refine Classical.byContradiction fun hb'=>?_
   have:=hh.none b (hno b hb')
   rw[e]at this;cases this
  obtain⟨i,hi⟩:=indexOf_mem (n:=0) hbi
  have h1:=(indexOf_some b ids 0 i hi).2
  rw[Nat.sub_zero]at h1
  have h2:backI n ids b=some i:=by unfold backI;rw[hi]
  simp only[φ',h2,Option.bind_some]
  refine a3.le i p (by rw[hlr];exact(List.getElem?_eq_some_iff.1 h1).1) ?_
  simp[rephi,h1,e]
 ·obtain⟨b,o,sz,hm,e⟩:=hB
  obtain⟨i,h1,h2,h3⟩:=hmut b hm
  exact(a3.mt B ⟨i,o,sz,h2,h3 ▸ e⟩).imp (hM B) id
theorem Distinct.filter{l:List Nat}(h:Distinct l)(p:Nat->Bool):Distinct (l.filter p):=by
 have nd:l.Pairwise (· ≠ ·):=List.pairwise_iff_getElem.2 fun i j hi hj hij he=>by
  have:=h i j l[i] (List.getElem?_eq_getElem hi) (by rw[he,List.getElem?_eq_getElem hj])
  omega
 have nf:(l.filter p).Pairwise (· ≠ ·):=nd.filter p
 intro i j b e e'
 obtain⟨hi,ei⟩:=List.getElem?_eq_some_iff.1 e
 obtain⟨hj,ej⟩:=List.getElem?_eq_some_iff.1 e'
 rcases Nat.lt_trichotomy i j with hlt | heq | hgt
 ·exact absurd (ei.trans ej.symm) (List.pairwise_iff_getElem.1 nf i j hi hj hlt)
 ·exact heq
 ·exact absurd (ej.trans ei.symm) (List.pairwise_iff_getElem.1 nf j i hj hi hgt)
theorem heap_of(n m:Nat)(F:Nat->BS)(h:∀ b,n+m<=b->F b=.none):∃ H:Heap,H.length=n+m /\ ∀ b,hget H b=F b:=by
 refine⟨(List.range (n+m)).map F,by simp,fun b=>?_⟩
 simp only[hget,List.getD,List.getElem?_map]
 rcases Nat.lt_or_ge b (n+m)with hb | hb
 ·rw[List.getElem?_range hb];rfl
 ·rw[List.getElem?_eq_none (by simpa using hb),h b hb];rfl
theorem back_ok{f:Nat}{args:List AV}{ids:List Nat}(hd:Distinct ids)(hids:∀ b ∈ ids,b<hp.length){res:AV}{h5:Heap}(hlen:ids.length<=h5.length)
  (hc:Contract P f (renL (fun b=>indexOf b ids 0) (renL (insL ids) args)) (ids.map fun b=>renB (fun b=>indexOf b ids 0) (hget (keep ids 0 hp) b)) res h5) {k:OperK R} (h:back hp.length ids res h5 k=some r) :
  ∃ v e rdl,k v e rdl=some r/\hp.length<=(e.apply hp).length/\CallSim P f args hp.length (hget hp) v e rdl:=by
 have hidx:∀ b,hp.length+(h5.length - ids.length)<=b->backB hp.length ids h5 b=.none:=by
  intro b hb
  unfold backB backI
  cases e:indexOf b ids 0 with
  | some i=>
   have:=(indexOf_some b ids 0 i e).2
   rw[Nat.sub_zero]at this
   have:=hids _ (List.mem_of_getElem? this)
   omega
  | none=>
   have:Nat.ble hp.length b=true:=by rw[Nat.ble_eq];omega
   rw[this]
   simp only[cond_true]
   rw[hget_ge (by omega)]
   rfl
 obtain⟨H,hl,hH⟩:=heap_of hp.length (h5.length - ids.length) (backB hp.length ids h5) hidx
 have hm:=Contract.move (n:=hp.length) hd hids (keep_length ids hp 0) (fun b hb=>by rw[hget_keep,Nat.zero_add,if_neg (fun h=>hb h.2)]) hlen hc hH
 unfold back at h
 have hS:∀ b,b ∈ ids++(List.range (h5.length - ids.length)).map (fun i=>hp.length+i) ↔ b ∈ ids\/(hp.length<=b/\b<H.length):=by
  intro b
  simp only[List.mem_append,List.mem_map,List.mem_range]
  refine or_congr Iff.rfl ⟨fun⟨i,h1,h2⟩=>by omega,fun h=>⟨b - hp.length,by omega,by omega⟩⟩
 have hk:=keep_ok (P:=P) (hp:=hp) hids (by omega) hm hS
 have hfun:(fun b=>(b,renB (insL (ids++(List.range (h5.length - ids.length)).map fun i=>hp.length+i)) (hget H b)))=fun b=>(b,renB (insL (ids++(List.range (h5.length - ids.length)).map fun i=>hp.length+i)) (backB hp.length ids h5 b)):=by
  funext b;rw[hH]
 rw[hfun]at hk
 exact⟨_,_,_,h,hputs_length _ hp,hk⟩
theorem call_ok(henv:EnvOk P env)(hrun:RunOk P run){f:Nat}{args:List AV}{k:OperK R}(h:callK env run hp hp.length f args k=some r) :
  ∃ v e rdl,k v e rdl=some r/\hp.length<=(e.apply hp).length/\CallSim P f args hp.length (hget hp) v e rdl:=by
 unfold callK at h
 split at h
 ·
  obtain⟨res,hp',h1,h2,hc⟩:=hrun _ _ _ _ _ h
  refine⟨_,_,_,h1,h2,fun rd' w I φ ra _ hfit hh hx=>?_⟩
  have hfit:rd'=hget hp:=hfit
  subst hfit
  refine(hc w I φ ra hh hx).mono fun u w' ⟨φ',I',a1,a2,a3⟩=>⟨φ',I',a1,a2,fun base hb=>a3.mono hb,fun b p e=>?_⟩
  refine a3.le b p ?_ e
  rcases Nat.lt_or_ge b hp.length with hb | hb
  ·exact hb
  ·rw[hh.none b (hget_ge hb)]at e;cases e
 ·
  obtain⟨res,hp',h1,h2,hc⟩:=hrun _ _ _ _ _ h
  obtain⟨hcond,h1⟩:=cond_some h1
  obtain⟨hf,ht⟩:=and_true' hcond
  have ht:hasTree res=false:=by simpa using ht
  refine⟨_,_,_,h1,Nat.le_refl _,fun rd' w I φ ra hrd _ hh hx=>?_⟩
  have hrd:∀ b,b<hp.length->rd' b=hget hp b:=fun b hb=>hrd b (by simpa using hb)
  have hbl:∀ b b',below hp.length b=some b'->b<hp.length/\b'=b:=by
   intro b b' e
   unfold below at e
   cases hb:Nat.blt b hp.length with
   | false=>rw[hb]at e;cases e
   | true=>rw[hb]at e;cases e;exact⟨by simpa [Nat.blt_eq] using hb,rfl⟩
  let φr:Phi:=fun b=>if b<hp.length then φ b else none
  have hφr:∀ b b',below hp.length b=some b'->φr b'=φ b:=by
   intro b b' e
   obtain⟨h1,rfl⟩:=hbl b b' e
   simp only[φr,if_pos h1]
  have hx':RVs w I φr (renL (below hp.length) args) ra:=by
   refine⟨by rw[renL_map];simpa using hx.1,fun k x u e e'=>?_⟩
   obtain⟨c,e1,rfl⟩:=renL_get e
   exact(hx.2 k c u e1 e').ren hφr
  generalize hpf:(hp.map fun x=>frozen (renB (below hp.length) x))=hpz at hc
  have hzf:∀ b,hget hpz b=frozen (renB (below hp.length) (hget hp b)):=fun b=>by rw[<- hpf];exact hget_frozen hp _ b
  have hlive:∀ b,live (hget hpz b)=true->b<hp.length/\live (rd' b)=true/\hget hpz b=frozen (renB (below hp.length) (rd' b)):=by
   intro b hl
   rw[hzf]at hl ⊢
   rw[(frozen_kind _).1]at hl
   have hl:=(renB_kind _ _).1 hl
   have hb:b<hp.length:=by
    rcases Nat.lt_or_ge b hp.length with hb | hb
    ·exact hb
    ·rw[hget_ge hb]at hl;cases hl
   exact⟨hb,by rw[hrd b hb];exact hl,by rw[hrd b hb]⟩
  let I3:Nat->Prop:=fun B=>I B \/ ∃ b o sz,live (rd' b)=true/\φ b=some (B,o,sz)
  have hI3:∀ B,I3 B->B<w.heap.size:=by
   rintro B (hB | ⟨b,o,sz,hl,e⟩)
   ·exact hh.lt B hB
   ·have r:=hh.at e hl
    exact r.lt hl
  have hmt:∀ b,mutable (hget hpz b)=false:=fun b=>by rw[hzf];exact(frozen_kind _).2.1
  have hh3:RH w I3 φr (hget hpz):=by
   refine⟨fun b e=>?_,fun b hl=>?_,fun b b' B o sz o' sz' hm=>?_,fun b B o sz hm=>?_,fun b B o sz hl _ e=>?_,hI3⟩
   ·rw[hzf]at e
    have e:=(renB_kind _ _).2.2.1 ((frozen_kind _).2.2 e)
    simp only[φr]
    split
    ·rename_i hb;exact hh.none b ((hrd b hb).trans e)
    ·rfl
   ·obtain⟨hb,hl',he⟩:=hlive b hl
    rcases hh.blk b hl' with ⟨B,o,sz,e,r⟩ | ⟨e,hp⟩
    rotate_left
    ·exact .inr ⟨by simp only[φr,if_pos hb,e],by rw[he];exact phantom_frozen (phantom_ren _ hp)⟩
    have r1:=r.mono (w':=w) (I':=I3) (φ':=φ) (fun B hB=>⟨.inl hB,rfl⟩) (fun _=>Nat.le_refl _) (Phi.le_refl _) rfl
    have r2:=r1.ren hφr
    exact .inl ⟨B,o,sz,by simp only[φr,if_pos hb,e],by rw[he];exact r2.frozen⟩
   ·rw[hmt]at hm;cases hm
   ·rw[hmt]at hm;cases hm
   ·obtain⟨hb,hl',he⟩:=hlive b hl
    simp only[φr,if_pos hb]at e
    exact .inr ⟨b,o,sz,hl',e⟩
  have hx3:RVs w I3 φr (renL (below hp.length) args) ra:=⟨hx'.1,fun k x u e e'=>(hx'.2 k x u e e').mono (fun B hB=>⟨.inl hB,rfl⟩) (fun _=>Nat.le_refl _) (Phi.le_refl _)⟩
  refine(hc w I3 φr ra hh3 hx3).mono fun u w' ⟨φ',I',a1,a2,a3⟩=>?_
  have ext:Ext (fun _=>False) w w':=a3.ext.weaken fun B ⟨b,o,sz,hm,_⟩=>by rw[hmt]at hm;cases hm
  have hk:∀ B,B<w.heap.size->w'.heap[B]? = w.heap[B]? := fun B h=>ext.keep B h fun f=>f
  refine⟨φ,I,(a1.flat hf).treeless I ht,?_,fun base hb=>⟨fun _ _ _ e=>e,fun _ hB=>hB,fun _ hB=>.inl hB,fun _ hB=>.inl hB,ext.weaken fun _ f=>f.elim⟩,Phi.le_refl _⟩
  refine⟨hh.none,fun b hl=>?_,hh.inj,hh.disj,hh.imm,fun B hB=>Nat.lt_of_lt_of_le (hh.lt B hB) ext.size⟩
  rcases hh.blk b hl with ⟨B,o,sz,e,r⟩ | hp
  ·exact .inl ⟨B,o,sz,e,r.mono (fun B hB=>⟨hB,hk B (hh.lt B hB)⟩) ext.csize (Phi.le_refl _) (hk B (r.lt hl))⟩
  ·exact .inr hp
 ·
  obtain⟨res,h',h1,h2,hc⟩:=hrun _ _ _ _ _ h
  rw[keep_length]at h2
  refine⟨_,_,_,h1,hputs_length _ hp,keep_ok (fun b hb=>?_) h2 hc fun b=>?_⟩
  ·have:=(List.mem_filter.1 hb).2
   simpa [Nat.blt_eq] using this
  ·simp only[List.mem_append,List.mem_map,List.mem_range]
   refine or_congr Iff.rfl ⟨fun⟨i,h1,h2⟩=>by omega,fun h=>⟨b - hp.length,by omega,by omega⟩⟩
 ·
  have hids:∀ b ∈ (reach big (hget hp) (rootsL args) []).filter (fun b=>Nat.blt b hp.length),b<hp.length:=fun b hb=>by
   have:=(List.mem_filter.1 hb).2
   simpa [Nat.blt_eq] using this
  have hd:Distinct ((reach big (hget hp) (rootsL args) []).filter fun b=>Nat.blt b hp.length):=(reach_ok (hget hp) big (rootsL args) [] Distinct.nil).1.filter _
  simp only at h
  split at h
  ·rename_i A ho
   obtain⟨hg,h⟩:=cond_some h
   obtain⟨h1,h2⟩:=henv.orc _ _ _ _ ho hg
   exact back_ok hd hids (by simpa using h2) h1 h
  ·obtain⟨res,h5,h1,h2,hc⟩:=hrun _ _ _ _ _ h
   exact back_ok hd hids (by simpa using h2) hc h1
 ·
  split at h
  ·cases h
  ·rename_i args' rch g hs
   have hc0:=cond_some h
   clear h
   obtain⟨hg0,h⟩:=hc0
   subst hg0
   replace hs:=ungard_some.2 hs
   split at h
   ·rename_i A ho
    obtain⟨hg1,h⟩:=cond_some h
    obtain⟨v,l,h1,h2⟩:=own_ok hs (henv.orc _ _ _ _ ho hg1).1 (fun b=>hget_ge) h
    exact⟨v,.wr l,rch,h1,hputs_length l hp,h2⟩
   ·obtain⟨res,hp',h1,_,hc⟩:=hrun _ _ _ _ _ h
    obtain⟨v,l,h1,h2⟩:=own_ok hs (hc.renum (reach_ok (hget hp') big (roots res) [] Distinct.nil).1) (fun b=>hget_ge) h1
    exact⟨v,.wr l,rch,h1,hputs_length l hp,h2⟩
def OpSim(P:Program)(o:Oper)(fr:Nat->AV)(len:Nat)(rd:Nat->BS)(v:AV)(e:Eff)(rdl:List Nat):Prop:=
 ∀ (rd':Nat->BS) (a:Act) (w:World) (φ:Phi) (I:Nat->Prop),(∀ b ∈ rdl,rd' b=rd b)->e.fits rd rd'->RH w I φ rd'->(∀ x ∈ o.op.operands,RV w I φ (evalO fr x) (a.eval x)) ->
  ∀ (K:Act->World->Prop) (Q:Exit->Act->World->Prop),(∀ u w' φ' I',RV w' I' φ' v u->RH w' I' φ' (e.rd rd')->(∀ base,base<=len->Step base rd' φ I w (e.rd rd') φ' I' w')->Phi.le φ φ'->K (a.put o.dst u) w') ->
   o.wp P a w K Q
theorem Good.opSim{o:Oper}{fr:Nat->AV}{k:OperK R}{len:Nat}{rd:Nat->BS}(h:Good P o (evalO fr) rd (fun v wr rd=>k v (.wr wr) rd) r) :
  ∃ v wr rdl,k v (.wr wr) rdl=some r/\OpSim P o fr len rd v (.wr wr) rdl:=by
 obtain⟨v,wr,rdl,h1,h2⟩:=h
 refine⟨v,wr,rdl,h1,fun rd' a w φ I hrd hfit hh hx K Q hK=>?_⟩
 obtain⟨u,w',φ',I',hrun,hv,hh',hst,hle⟩:=h2 rd' a.eval w φ I hrd hfit hh hx
 have:=hK u w' φ' I' hv hh' (fun base _=>hst base) hle
 unfold Oper.wp
 rcases hrun with hrun | ⟨hrun,rfl⟩
 ·rw[hrun];exact this
 ·rw[hrun];exact this
theorem map_get{α β:Type}{f:α->β}{l:List α}{i:Nat}{y:β}(h:(l.map f)[i]? = some y):∃ x,l[i]? = some x/\y=f x:=by
 rw[List.getElem?_map]at h
 cases e:l[i]? with
 | none=>rw[e]at h;cases h
 | some x=>rw[e]at h;cases h;exact⟨x,rfl,rfl⟩
theorem RVs.append{w:World}{I:Nat->Prop}{φ:Phi}{l l':List AV}{a a':Array Value}(h:RVs w I φ l a)(h':RVs w I φ l' a'):RVs w I φ (l++l') (a++a'):=by
 refine⟨by simp[h.1,h'.1],fun k x u e e'=>?_⟩
 rw[List.getElem?_append]at e
 rw[Array.getElem?_append]at e'
 rw[h.1]at e
 split at e
 ·rename_i hk;rw[if_pos hk]at e';exact h.2 k x u e e'
 ·rename_i hk;rw[if_neg hk]at e';exact h'.2 _ x u e e'
theorem mskCs_get{l:List Nat}:∀ {cs:List AV} {i k:Nat} {c:AV},(mskCs l i cs)[k]? = some c -> ∃ c0,cs[k]? = some c0/\(c=c0\/c=.undef)
 | [],_,_,_,e=>by simp[mskCs]at e
 | c0::r,i,0,c,e=>by
  simp only[mskCs,List.getElem?_cons_zero,Option.some.injEq]at e
  refine⟨c0,rfl,?_⟩
  cases hm:memb i l with
  | true=>rw[hm]at e;exact .inr e.symm
  | false=>rw[hm]at e;exact .inl e.symm
 | c0::r,i,k+1,c,e=>by
  simp only[mskCs,List.getElem?_cons_succ]at e ⊢
  exact mskCs_get e
theorem mskCs_length{l:List Nat}:∀ {cs:List AV} {i:Nat},(mskCs l i cs).length=cs.length
 | [],_=>rfl
 | c::r,i=>by simp only[mskCs,List.length_cons,mskCs_length]
theorem mskArgs_ok{l:List Nat}{w:World}{I:Nat->Prop}{φ:Phi}{args:List AV}{ra:Array Value}(h:RVs w I φ args ra):RVs w I φ (mskArgs l args) ra:=by
 unfold mskArgs
 split
 ·exact h
 ·split
  ·rename_i cs r
   refine⟨by rw[<- h.1];simp,fun k x u e e'=>?_⟩
   cases k with
   | succ k=>exact h.2 (k+1) x u (by simpa using e) e'
   | zero=>
    simp at e
    subst e
    have hv:=h.2 0 (.agg cs) u (by simp) e'
    cases hv with
    | agg _ vs hl h1 hr=>
     refine .agg _ vs (mskCs_length.trans hl) h1 fun k c u e e'=>?_
     obtain⟨c0,e0,hc⟩:=mskCs_get e
     rcases hc with rfl | rfl
     ·exact hr k _ u e0 e'
     ·exact .undef u
  ·exact h
theorem oper_ok(henv:EnvOk P env)(hrun:RunOk P run){fr:Nat->AV}{o:Oper}{k:OperK R}(h:operK env run fr hp hp.length o k=some r) :
  ∃ v e rdl,k v e rdl=some r/\hp.length<=(e.apply hp).length/\OpSim P o fr hp.length (hget hp) v e rdl:=by
 have hnx:hget hp hp.length=.none:=hget_ge (Nat.le_refl _)
 unfold operK at h
 split at h
 ·rename_i c hc
  split at h
  ·rename_i b hb
   obtain⟨v,wr,rdl,h1,h2⟩:=(abuilt_ok henv.tt hnx hc hb h).opSim (len:=hp.length)
   exact⟨v,.wr wr,rdl,h1,hputs_length wr hp,h2⟩
  ·cases h
  ·rename_i f hf
   split at h
   ·rename_i g first cap hfn
    obtain⟨v,e,rdl,h1,h2,h3⟩:=call_ok henv hrun h
    refine⟨v,e,rdl,h1,h2,fun rd' a w φ I hrd hfit hh hx K Q hK=>?_⟩
    have hv:=hx f (by simp[hc,Op.operands,Call.operands,hf])
    rw[hfn]at hv
    generalize hu:a.eval f=u at hv
    cases hv with
    | fn _ _ _ va vc hla hlc ha hcc=>
     have hxa:RVs w I φ (c.args.toList.map (evalO fr)) (c.args.map a.eval):=by
      refine⟨by simp,fun i x u e e'=>?_⟩
      obtain⟨y,e1,rfl⟩:=map_get e
      rw[Array.getElem?_map]at e'
      rw[Array.getElem?_toList]at e1
      rw[e1]at e'
      cases e'
      exact hx y (by simp[hc,Op.operands,Call.operands,hf];exact .inr (Array.mem_of_getElem? e1))
     have hxs:RVs w I φ (first++(c.args.toList.map (evalO fr)++cap)) (va++c.args.map a.eval++vc):=by
      rw[Array.append_assoc]
      exact RVs.append ⟨hla,ha⟩ (hxa.append ⟨hlc,hcc⟩)
     have hans:=h3 rd' w I φ _ hrd hfit hh (mskArgs_ok hxs)
     have hex:(execOp a.eval o).run P w=(callFunc g (va++c.args.map a.eval++vc)).run P w:=by
      simp[execOp,hc,resolve,hf,hu,Deferred.ofValue,invoke]
     unfold Oper.wp
     rw[hex]
     rcases hans with ⟨e1,e2⟩ | ⟨u,w',e1,φ',I',b1,b2,b3,b4⟩
     ·rw[e1,Oper.upon_enter]
      refine Calls.mono e2 fun e w' ⟨u,he,φ',I',b1,b2,b3,b4⟩=>?_
      subst he
      exact hK u w' φ' I' b1 b2 b3 b4
     ·rw[e1,Oper.upon_value]
      exact hK u w' φ' I' b1 b2 b3 b4
   ·cases h
 ·obtain⟨v,wr,rdl,h1,h2⟩:=(aop_ok henv.tt hnx h).opSim (len:=hp.length)
  exact⟨v,.wr wr,rdl,h1,hputs_length wr hp,h2⟩
end
end Go.AM
end
noncomputable section
set_option linter.unusedVariables false
set_option linter.unusedSimpArgs false
namespace Go.AM
variable {R:Type}
def FrOk(w:World)(I:Nat->Prop)(φ:Phi)(fr:Nat->AV)(a:Act):Prop:=∀ t,RV w I φ (fr t) (a.eval (.tmp t))
structure StOk(w:World)(I:Nat->Prop)(φ:Phi)(s:St)(a:Act):Prop where
 hh:RH w I φ (hget s.hp)
 fr:FrOk w I φ (fget s.fr) a
theorem FrOk.eval{w:World}{I:Nat->Prop}{φ:Phi}{fr:Nat->AV}{a:Act}(h:FrOk w I φ fr a)(x:Operand):RV w I φ (evalO fr x) (a.eval x):=by
 cases x with
 | tmp t=>exact h t
 | const v=>exact ofVal_ok w I φ v
 | global g=>exact .undef _
 | func f=>exact .fn _ [] [] #[] #[] rfl rfl (fun k x u e=>by simp at e) (fun k x u e=>by simp at e)
theorem FrOk.step{w w':World}{I I':Nat->Prop}{φ φ':Phi}{rd rd':Nat->BS}{base:Nat}{fr:Nat->AV}{a:Act}(h:FrOk w I φ fr a)(hh:RH w I φ rd)(s:Step base rd φ I w rd' φ' I' w')(le:Phi.le φ φ') :
  FrOk w' I' φ' fr a:=fun t=>(h t).step hh s le
theorem FrOk.put{w:World}{I:Nat->Prop}{φ:Phi}{fr:Fr}{a:Act}{d:Option Nat}{v:AV}{u:Value}(h:FrOk w I φ (fget fr) a)(hv:RV w I φ v u)(hd:dstOk a.tmps.size d=true) :
  FrOk w I φ (fget (fput fr d v)) (a.put d u):=by
 intro t
 cases d with
 | none=>exact h t
 | some d=>
  have hd:d<a.tmps.size:=by simpa [dstOk,Nat.blt_eq] using hd
  simp only[fput,fget,Act.put,Act.eval,Array.getD_eq_getD_getElem?]
  cases e:Nat.beq d t with
  | true=>
   have e:=Nat.eq_of_beq_eq_true e
   subst e
   rw[cond_true,Array.getElem?_setIfInBounds_self_of_lt hd]
   exact hv
  | false=>
   have hne:d ≠ t:=fun e'=>by subst e';simp at e
   rw[cond_false,Array.getElem?_setIfInBounds_ne hne]
   have:=h t
   simp only[Act.eval,Array.getD_eq_getD_getElem?]at this
   exact this
theorem dstOk_le{n m:Nat}{d:Option Nat}(h:dstOk n d=true)(hl:n<=m):dstOk m d=true:=by
 cases d with
 | none=>rfl
 | some d=>simp only[dstOk,Nat.blt_eq]at h ⊢;omega
@[simp] theorem put_size(a:Act)(d:Option Nat)(u:Value):(a.put d u).tmps.size=a.tmps.size:=by cases d <;> simp[Act.put]
@[simp] theorem put_defers'(a:Act)(d:Option Nat)(u:Value):(a.put d u).defers=a.defers:=by cases d <;> simp[Act.put]
theorem RV.skip(w:World)(I:Nat->Prop)(φ:Phi):RV w I φ (.tup []) Go.undef:=.tup _ _ rfl fun k c u e=>by simp at e
theorem guard_ok{w:World}{I:Nat->Prop}{φ:Phi}{fr:Nat->AV}{a:Act}(h:FrOk w I φ fr a){ops:Array Oper}{o:Oper}{b:Bool}(hg:guardV ops fr o=some b) :
  Region.wanted o (yielded ops a.tmps)=b:=by
 unfold guardV at hg
 unfold Region.wanted
 cases ho:o.guard with
 | none=>rw[ho]at hg;cases hg;rfl
 | some p=>
  obtain⟨j,want⟩:=p
  rw[ho]at hg
  simp only at hg ⊢
  unfold yielded
  cases hj:(ops[j]?).bind (·.dst)with
  | none=>rw[hj]at hg;cases hg
  | some d=>
   rw[hj]at hg
   simp only at hg
   have hd:=h d
   generalize fr d=v at hg hd
   cases v <;> simp only at hg <;> try cases hg
   case tup.refl=>
    simp only[Act.eval,Array.getD_eq_getD_getElem?]at hd
    simp only[Option.bind_some]
    cases ht:a.tmps[d]? with
    | none=>rfl
    | some u=>
     rw[ht]at hd
     simp only[Option.getD_some]at hd
     cases hd
     rfl
   rename_i c
   simp only[Act.eval,Array.getD_eq_getD_getElem?]at hd
   simp only[Option.bind_some]
   cases ht:a.tmps[d]? with
   | none=>rw[ht]at hd;simp[undef]at hd;cases hd
   | some u=>
    rw[ht]at hd
    simp only[Option.getD_some]at hd
    cases hd
    cases c <;> cases want <;> rfl
theorem guardK_inv{R:Type}{ops:Array Oper}{o:Oper}{fr:Fr}{k:Bool->Fr->Option R}{r:R}(h:guardK ops o fr k=some r) :
  ∃ g fr',k g fr'=some r/\guardV ops (fget fr) o=some g/\fget fr'=fget fr:=by
 unfold guardK at h
 unfold guardV
 cases ho:o.guard with
 | none=>rw[ho]at h;exact⟨true,fr,h,rfl,rfl⟩
 | some p=>
  obtain⟨j,want⟩:=p
  rw[ho]at h
  simp only at h ⊢
  cases hj:(ops[j]?).bind (·.dst)with
  | none=>rw[hj]at h;cases h
  | some d=>
   rw[hj]at h
   simp only at h ⊢
   have same:∀ b,fget fr d=.bool b->fget ((d,.bool b)::fr)=fget fr:=by
    intro b e
    funext t
    simp only[fget]
    cases ht:Nat.beq d t with
    | false=>rfl
    | true=>have:=Nat.eq_of_beq_eq_true ht;subst this;rw[cond_true,e]
   cases hd:fget fr d <;> rw[hd]at h <;> simp only at h <;> try cases h
   case tup=>exact⟨false,fr,h,rfl,rfl⟩
   case bool b=>
    cases b with
    | true=>exact⟨want,_,h,by cases want <;> rfl,same true hd⟩
    | false=>exact⟨!want,_,h,by cases want <;> rfl,same false hd⟩
theorem Eff.fits_refl{rd:Nat->BS}(e:Eff):e.fits rd rd:=by
 cases e with
 | wr l=>exact fun _ _=>rfl
 | full h=>exact rfl
section
variable {P:Program} {env:Env} {run:CallK R} {r:R}
theorem ops_plain(henv:EnvOk P env)(hrun:RunOk P run){nt:Nat}{ops:Array Oper}:∀ (l:List Oper) (i:Nat) (recs:List Rec) (s:St) (k:St->Option R),opsK env run nt ops false l i recs s k=some r ->
  ∃ s',k s'=some r/\s.hp.length<=s'.hp.length /\ ∀ (w:World) (I:Nat->Prop) (φ:Phi) (a:Act),StOk w I φ s a->nt<=a.tmps.size -> ∀ Q:Exit->Act->World->Prop,
   (∀ a' w' φ' I',nt<=a'.tmps.size->a'.defers=a.defers->StOk w' I' φ' s' a'->(∀ base,base<=s.hp.length->Step base (hget s.hp) φ I w (hget s'.hp) φ' I' w')->Q .normal a' w')->wpList P ops Q l a w:=by
 intro l
 induction l with
 | nil=>
  intro i recs s k h
  refine⟨s,h,Nat.le_refl _,fun w I φ a hs ha Q hQ=>hQ a w φ I ha rfl hs fun base _=>Step.refl _ _ _ _ _⟩
 | cons o rest ih=>
  intro i recs s k h
  unfold opsK at h
  obtain⟨hd,h⟩:=cond_some h
  obtain⟨g,fr',h,hg,hfr⟩:=guardK_inv h
  cases g with
  | true=>
   obtain⟨v,e,rdl,h1,h2,h3⟩:=oper_ok henv hrun h
   obtain⟨s',g1,g2,g3⟩:=ih _ _ _ _ h1
   refine⟨s',g1,Nat.le_trans h2 g2,fun w I φ a hs ha Q hQ=>?_⟩
   unfold wpList
   rw[if_pos (guard_ok hs.fr hg)]
   have hfr1:FrOk w I φ (fget fr') a:=by rw[hfr];exact hs.fr
   refine .inl (h3 (hget s.hp) a w φ I (fun _ _=>rfl) (Eff.fits_refl e) hs.hh (fun x _=>hfr1.eval x) _ _ fun u w' φ' I' b1 b2 b3 b4=>?_)
   have hs':StOk w' I' φ' {fr:=fput fr' o.dst v,hp:=e.apply s.hp} (a.put o.dst u):=
    ⟨by rw[Eff.apply_rd];exact b2,(hfr1.step hs.hh (b3 0 (Nat.zero_le _)) b4).put b1 (dstOk_le hd ha)⟩
   refine g3 w' I' φ' (a.put o.dst u) hs' (by simpa using ha) Q fun a' w'' φ'' I'' c1 c2 c3 c4=>hQ a' w'' φ'' I'' c1 (by simpa using c2) c3 fun base hb=>?_
   have:=b3 base hb
   rw[<- Eff.apply_rd]at this
   exact this.trans (c4 base (Nat.le_trans hb h2))
  | false=>
   obtain⟨s',g1,g2,g3⟩:=ih _ _ _ _ h
   refine⟨s',g1,g2,fun w I φ a hs ha Q hQ=>?_⟩
   unfold wpList
   rw[if_neg (by rw[guard_ok hs.fr hg];simp)]
   have hfr1:FrOk w I φ (fget fr') a:=by rw[hfr];exact hs.fr
   refine g3 w I φ (a.put o.dst undef) ⟨hs.hh,hfr1.put (RV.skip _ _ _) (dstOk_le hd ha)⟩ (by simpa using ha) Q fun a' w'' φ'' I'' c1 c2 c3 c4=>hQ a' w'' φ'' I'' c1 (by simpa using c2) c3 c4
end
end Go.AM
end
noncomputable section
set_option linter.unusedVariables false
set_option linter.unusedSimpArgs false
namespace Go.AM
variable {R:Type}
structure Upd(β:Type) where
 u:(Nat->β)->Nat->β
 T:Nat->Prop
structure Upd.Law{β:Type}(x:Upd β):Prop where
 off:∀ f b,¬ x.T b->x.u f b=f b
 loc:∀ f g b,f b=g b->x.u f b=x.u g b
def foldU{β:Type}(L:Nat->Bool):Nat->List (Upd β)->(Nat->β)->Nat->β
 | _,[],f=>f
 | i,x::xs,f=>foldU L (i+1) xs (bif L i then x.u f else f)
section
variable {β:Type} {L L':Nat->Bool}
theorem foldU_congr{b:Nat}:∀ (xs:List (Upd β)) (i:Nat) (f f':Nat->β),(∀ x ∈ xs,x.Law)->(∀ (j:Nat) x,xs[j]? = some x->x.T b->L (i+j)=L' (i+j))->f b=f' b->foldU L i xs f b=foldU L' i xs f' b
 | [],i,f,f',_,_,h=>h
 | x::xs,i,f,f',hl,ht,h=>by
  simp only[foldU]
  refine foldU_congr xs (i+1) _ _ (fun y hy=>hl y (by simp[hy])) (fun j y e hy=>?_) ?_
  ·have:=ht (j+1) y (by simpa using e) hy
   rwa [show i+(j+1)=i+1+j by omega]at this
  ·by_cases hx:x.T b
   ·have:=ht 0 x rfl hx
    simp only[Nat.add_zero]at this
    rw[this]
    cases L' i with
    | true=>exact(hl x (by simp)).loc f f' b h
    | false=>exact h
   ·have e1:(bif L i then x.u f else f) b=f b:=by
     cases L i with
     | true=>exact(hl x (by simp)).off f b hx
     | false=>rfl
    have e2:(bif L' i then x.u f' else f') b=f' b:=by
     cases L' i with
     | true=>exact(hl x (by simp)).off f' b hx
     | false=>rfl
    rw[e1,e2,h]
theorem foldU_keep{b:Nat}:∀ (xs:List (Upd β)) (i:Nat) (f:Nat->β),(∀ x ∈ xs,x.Law)->(∀ (j:Nat) x,xs[j]? = some x->x.T b->L (i+j)=false)->foldU L i xs f b=f b
 | [],i,f,_,_=>rfl
 | x::xs,i,f,hl,ht=>by
  simp only[foldU]
  rw[foldU_keep xs (i+1) _ (fun y hy=>hl y (by simp[hy])) fun j y e hy=>?_]
  ·by_cases hx:x.T b
   ·have:=ht 0 x rfl hx
    simp only[Nat.add_zero]at this
    rw[this];rfl
   ·cases L i with
    | true=>exact(hl x (by simp)).off f b hx
    | false=>rfl
  ·have:=ht (j+1) y (by simpa using e) hy
   rwa [show i+(j+1)=i+1+j by omega]at this
theorem foldU_false:∀ (xs:List (Upd β)) (i:Nat) (f:Nat->β),(∀ j,L (i+j)=false)->foldU L i xs f=f
 | [],i,f,_=>rfl
 | x::xs,i,f,h=>by
  have h0:L i=false:=h 0
  simp only[foldU,h0,cond_false]
  exact foldU_false xs (i+1) f fun j=>by rw[show i+1+j=i+(j+1) by omega];exact h (j+1)
theorem foldU_add{b:Nat}{x:Upd β}:∀ (xs:List (Upd β)) (i m:Nat) (f:Nat->β),(∀ y ∈ xs,y.Law)->xs[m]? = some x->L (i+m)=false->(∀ j,L' j=(L j||decide (j=i+m))) ->
  (x.T b -> ∀ (j:Nat) y,xs[j]? = some y->m<j->y.T b->L (i+j)=false)->foldU L' i xs f b=x.u (foldU L i xs f) b
 | [],i,m,f,_,hm,_,_,_=>by simp at hm
 | y::xs,i,0,f,hl,hm,hL,hL',ht=>by
  simp at hm
  subst hm
  simp only[Nat.add_zero]at hL hL'
  have hlx:∀ z ∈ xs,z.Law:=fun z hz=>hl z (by simp[hz])
  have e0:L' i=true:=by rw[hL'];simp
  simp only[foldU,hL,e0,cond_true,cond_false]
  have hne:∀ j,L' (i+1+j)=L (i+1+j):=fun j=>by
   rw[hL']
   have:¬ (i+1+j=i):=by omega
   simp[this]
  by_cases hx:y.T b
  ·have hz:∀ (j:Nat) z,xs[j]? = some z->z.T b->L (i+1+j)=false:=by
    intro j z e hz
    have:=ht hx (j+1) z (by simpa using e) (by omega) hz
    rwa [show i+(j+1)=i+1+j by omega]at this
   rw[foldU_keep xs (i+1) _ hlx fun j z e hzT=>(hne j).trans (hz j z e hzT)]
   exact(hl y (by simp)).loc _ _ b (foldU_keep xs (i+1) _ hlx hz).symm
  ·rw[(hl y (by simp)).off _ b hx]
   exact foldU_congr xs (i+1) _ _ hlx (fun j z e _=>hne j) ((hl y (by simp)).off f b hx)
 | y::xs,i,m+1,f,hl,hm,hL,hL',ht=>by
  have hLi:L' i=L i:=by
   rw[hL']
   have:¬ (i=i+(m+1)):=by omega
   simp[this]
  simp only[foldU,hLi]
  refine foldU_add xs (i+1) m _ (fun z hz=>hl z (by simp[hz])) (by simpa using hm) (by rwa [show i+1+m=i+(m+1) by omega]) (fun j=>by rw[hL',show i+1+m=i+(m+1) by omega]) fun hx j z e hj hz=>?_
  have:=ht hx (j+1) z (by simpa using e) (by omega) hz
  rwa [show i+(j+1)=i+1+j by omega]at this
end
structure Ent where
 ran:Bool
 v:AV
 e:Eff
 rdl:List Nat
def Ent.skipped:Ent:=⟨false,.tup [],.wr [],[]⟩
def Eff.touch:Eff->Nat->Prop
 | .wr l,b=>∃ p ∈ l,p.1=b
 | .full _,_=>True
def Ent.mem(x:Ent):Upd BS:=⟨x.e.rd,x.e.touch⟩
def putF(d:Option Nat)(v:AV)(fr:Nat->AV):Nat->AV:=fun t=>if d=some t then v else fr t
def Ent.tmp(o:Oper)(x:Ent):Upd AV:=⟨putF o.dst x.v,fun t=>o.dst=some t⟩
theorem rdputs_congr(b:Nat):∀ (l:Wr) (f g:Nat->BS),f b=g b->rdputs f l b=rdputs g l b
 | [],f,g,h=>h
 | (b',x)::r,f,g,h=>by
  refine rdputs_congr b r _ _ ?_
  unfold rdput
  split
  ·rfl
  ·exact h
theorem Ent.mem_law(x:Ent):x.mem.Law:=by
 refine⟨fun f b h=>?_,fun f g b h=>?_⟩
 ·cases he:x.e with
  | wr l=>
   simp only[Ent.mem,he,Eff.rd,Eff.touch]at h ⊢
   exact rdputs_not b l f fun p hp e=>h ⟨p,hp,e⟩
  | full h'=>simp only[Ent.mem,he,Eff.touch]at h;exact(h trivial).elim
 ·cases he:x.e with
  | wr l=>simp only[Ent.mem,he,Eff.rd];exact rdputs_congr b l f g h
  | full h'=>simp only[Ent.mem,he,Eff.rd]
theorem Ent.tmp_law(o:Oper)(x:Ent):(x.tmp o).Law:=by
 refine⟨fun f b h=>?_,fun f g b h=>?_⟩
 ·simp only[Ent.tmp]at h ⊢;simp only[putF,if_neg h]
 ·simp only[Ent.tmp,putF];split <;> first | rfl | exact h
theorem fget_fput(fr:Fr)(d:Option Nat)(v:AV):fget (fput fr d v)=putF d v (fget fr):=by
 funext t
 cases d with
 | none=>simp[fput,putF]
 | some d=>
  simp only[fput,fget,putF,Option.some.injEq]
  cases h:Nat.beq d t with
  | true=>rw[cond_true,if_pos (Nat.eq_of_beq_eq_true h)]
  | false=>rw[cond_false,if_neg (fun e=>by subst e;simp at h)]
def Ent.null(x:Ent):Prop:=x.e=.wr []/\x.rdl=[]
def Ent.meet(x:Ent)(b:Nat):Prop:=x.e.touch b\/b ∈ x.rdl
def QuietE(A:List Nat)(i:Nat)(x:Ent)(j:Nat)(y:Ent):Prop:=
 (∀ b,(x.e.touch b/\y.meet b)\/(y.e.touch b/\x.meet b)->behind A j i=true)/\(∀ h,x.e=.full h -> ¬ y.null->behind A j i=true)/\(∀ h,y.e=.full h -> ¬ x.null->behind A j i=true)
def recsOf:Nat->List Ent->List Rec->List Rec
 | _,[],recs=>recs
 | i,x::xs,recs=>recsOf (i+1) xs (bif x.ran then recOf i x.e x.rdl recs else recs)
def Chain(P:Program)(nt:Nat)(ops:Array Oper):List Oper->List Ent->St->St->Prop
 | [],[],s,s'=>s=s'
 | o::os,x::xs,s,s'=>dstOk nt o.dst=true/\guardV ops (fget s.fr) o=some x.ran/\(x.ran=true->OpSim P o (fget s.fr) s.hp.length (hget s.hp) x.v x.e x.rdl)/\(x.ran=false->x=.skipped) /\
   s.hp.length<=(x.e.apply s.hp).length/\Chain P nt ops os xs {fr:=fput s.fr o.dst x.v,hp:=x.e.apply s.hp} s'
 | _,_,_,_=>False
section
variable {P:Program} {env:Env} {run:CallK R} {r:R}
theorem ops_chain(henv:EnvOk P env)(hrun:RunOk P run){nt:Nat}{ops:Array Oper}:∀ (l:List Oper) (i:Nat) (recs:List Rec) (s1 s:St) (k:St->Option R),fget s1.fr=fget s.fr->s1.hp=s.hp->opsK env run nt ops true l i recs s1 k=some r ->
  ∃ xs s' s2,k s2=some r/\fget s2.fr=fget s'.fr/\s2.hp=s'.hp/\Chain P nt ops l xs s s'/\quietAll (ancsGo ops.toList []) (recsOf i xs recs)=true:=by
 intro l
 induction l with
 | nil=>
  intro i recs s1 s k hf hh h
  unfold opsK at h
  obtain⟨h1,h2⟩:=cond_some h
  exact⟨[],s,s1,h2,hf,hh,rfl,h1⟩
 | cons o rest ih=>
  intro i recs s1 s k hf hh h
  unfold opsK at h
  obtain⟨hd,h⟩:=cond_some h
  obtain⟨g,fr',h,hg,hfr⟩:=guardK_inv h
  rw[hf]at hg hfr
  cases g with
  | true=>
   obtain⟨v,e,rdl,h1,h2,h3⟩:=oper_ok henv hrun h
   rw[hfr,hh]at h3
   rw[hh]at h2 h1
   obtain⟨xs,s',s2,g1,g2,g3,g4,g5⟩:=ih _ _ {fr:=fput fr' o.dst v,hp:=e.apply s.hp} {fr:=fput s.fr o.dst v,hp:=e.apply s.hp} _ (by simp only[fget_fput,hfr]) rfl h1
   exact⟨⟨true,v,e,rdl⟩::xs,s',s2,g1,g2,g3,⟨hd,hg,fun _=>h3,fun h=>(by cases h),h2,g4⟩,g5⟩
  | false=>
   obtain⟨xs,s',s2,g1,g2,g3,g4,g5⟩:=ih _ _ {fr:=fput fr' o.dst (.tup []),hp:=s1.hp} {fr:=fput s.fr o.dst (.tup []),hp:=s.hp} _ (by simp only[fget_fput,hfr]) hh h
   exact⟨Ent.skipped::xs,s',s2,g1,g2,g3,⟨hd,hg,fun h=>(by cases h),fun _=>rfl,Nat.le_refl _,g4⟩,g5⟩
theorem Chain.length{nt:Nat}{ops:Array Oper}:∀ {os:List Oper} {xs:List Ent} {s s':St},Chain P nt ops os xs s s'->xs.length=os.length/\s.hp.length<=s'.hp.length
 | [],[],s,s',h=>⟨rfl,by cases h;exact Nat.le_refl _⟩
 | o::os,x::xs,s,s',h=>by
  obtain⟨_,_,_,_,h1,h2⟩:=h
  have:=Chain.length h2
  exact⟨by simp[this.1],Nat.le_trans h1 this.2⟩
 | [],_::_,s,s',h=>h.elim
 | _::_,[],s,s',h=>h.elim
def mems(xs:List Ent):List (Upd BS):=xs.map Ent.mem
def tmpsU:List Oper->List Ent->List (Upd AV)
 | o::os,x::xs=>x.tmp o::tmpsU os xs
 | _,_=>[]
theorem Chain.nth{nt:Nat}{ops:Array Oper}:∀ {os:List Oper} {xs:List Ent} {s s':St} {i0:Nat},Chain P nt ops os xs s s' -> ∀ (i:Nat) o x,os[i]? = some o->xs[i]? = some x ->
  dstOk nt o.dst=true /\ ∃ fr len,s.hp.length<=len/\guardV ops fr o=some x.ran/\(x.ran=true->OpSim P o fr len (foldU (fun j=>decide (j<i0+i)) i0 (mems xs) (hget s.hp)) x.v x.e x.rdl)/\(x.ran=false->x=.skipped) /\
   fr=foldU (fun j=>decide (j<i0+i)) i0 (tmpsU os xs) (fget s.fr)
 | [],_,s,s',i0,h,i,o,x,e,_=>by simp at e
 | o'::os,[],s,s',i0,h,i,o,x,e,_=>h.elim
 | o'::os,y::xs,s,s',i0,h,0,o,x,e,e'=>by
  obtain⟨h1,h2,h3,h4,h5,h6⟩:=h
  simp at e e'
  subst e;subst e'
  have hf:∀ {β:Type} (us:List (Upd β)) (f:Nat->β),foldU (fun j=>decide (j<i0+0)) i0 us f=f:=by
   intro β us f
   exact foldU_false us i0 f fun j=>by simp
  refine⟨h1,fget s.fr,s.hp.length,Nat.le_refl _,h2,fun hr=>?_,h4,(hf _ _).symm⟩
  rw[hf];exact h3 hr
 | o'::os,y::xs,s,s',i0,h,i+1,o,x,e,e'=>by
  obtain⟨h1,h2,h3,h4,h5,h6⟩:=h
  obtain⟨g1,fr,len,g2,g3,g4,g5,g6⟩:=Chain.nth (i0:=i0+1) h6 i o x (by simpa using e) (by simpa using e')
  have hlt:decide (i0<i0+(i+1))=true:=by simp
  refine⟨g1,fr,len,Nat.le_trans h5 g2,g3,fun hr=>?_,g5,?_⟩
  ·have:=g4 hr
   simp only[mems,List.map_cons,foldU,hlt,cond_true]
   rw[Eff.apply_rd,show i0+1+i=i0+(i+1) by omega]at this
   exact this
  ·simp only[tmpsU,foldU,hlt,cond_true]
   rw[g6,fget_fput,show i0+1+i=i0+(i+1) by omega]
   rfl
end
end Go.AM
end
noncomputable section
set_option linter.unusedVariables false
set_option linter.unusedSimpArgs false
namespace Go.AM
variable {R:Type}
def namesO(ops:Array Oper)(o:Oper):List Nat:=
 o.dst.toList++((o.op.operands.toList.filterMap fun | .tmp t=>some t | _=>none)++(match o.guard with | some (j,_)=>((ops[j]?).bind (·.dst)).toList | none=>[]))
def ordered(A:List Nat)(i j:Nat):Bool:=bif Nat.blt i j then behind A j i else behind A i j
def tmpsFor(A:List Nat)(ns:List Nat)(i:Nat):List Oper->Nat->Bool
 | [],_=>true
 | o::r,j=>(match o.dst with | some d=>!(memb d ns)||(Nat.beq i j||ordered A i j) | none=>true)&&tmpsFor A ns i r (j+1)
def tempsGo(A:List Nat)(ops:Array Oper)(all:List Oper):List Oper->Nat->Bool
 | [],_=>true
 | o::r,i=>(o.after.toList.all fun e=>!bindsAny e||Nat.blt e.on i)&&(tmpsFor A (namesO ops o) i all 0&&tempsGo A ops all r (i+1))
def tempsOk(ops:Array Oper):Bool:=tempsGo (ancsGo ops.toList []) ops ops.toList ops.toList 0
def okCode:Code->Bool
 | .region _ ops draw=>!draw||tempsOk ops
 | .seq a b=>okCode a&&okCode b
 | .cond _ a b=>okCode a&&okCode b
 | .block _ a=>okCode a
 | .loop a=>okCode a
 | .scope a=>okCode a
 | _=>true
theorem memb_true{b:Nat}:∀ {l:List Nat},b ∈ l->memb b l=true
 | x::r,h=>by
  unfold memb
  cases hx:Nat.beq x b with
  | true=>rfl
  | false=>
   rw[cond_false]
   rcases List.mem_cons.1 h with e | h
   ·subst e;simp at hx
   ·exact memb_true h
theorem tmpsFor_spec{A ns:List Nat}{i:Nat}:∀ {l:List Oper} {j0:Nat},tmpsFor A ns i l j0=true -> ∀ (j:Nat) o d,l[j]? = some o->o.dst=some d->d ∈ ns->i ≠ j0+j->ordered A i (j0+j)=true
 | [],_,_,j,o,d,e,_,_,_=>by simp at e
 | o'::r,j0,h,0,o,d,e,hd,hn,hne=>by
  unfold tmpsFor at h
  obtain⟨h1,_⟩:=and_true' h
  simp at e
  subst e
  rw[hd]at h1
  simp only[memb_true hn,Bool.not_true,Bool.false_or,Bool.or_eq_true]at h1
  exact h1.resolve_left fun e=>hne (by simpa using Nat.eq_of_beq_eq_true e)
 | o'::r,j0,h,j+1,o,d,e,hd,hn,hne=>by
  unfold tmpsFor at h
  obtain⟨_,h2⟩:=and_true' h
  have:=tmpsFor_spec h2 j o d (by simpa using e) hd hn (by omega)
  rwa [show j0+1+j=j0+(j+1) by omega]at this
theorem tempsGo_spec{A:List Nat}{ops:Array Oper}{all:List Oper}:∀ {l:List Oper} {i0:Nat},tempsGo A ops all l i0=true -> ∀ (i:Nat) o,l[i]? = some o ->
  (∀ e ∈ o.after.toList,bindsAny e=true->e.on<i0+i) /\ ∀ (j:Nat) o' d,all[j]? = some o'->o'.dst=some d->d ∈ namesO ops o->i0+i ≠ j->ordered A (i0+i) j=true
 | [],_,_,i,o,e=>by simp at e
 | o'::r,i0,h,0,o,e=>by
  unfold tempsGo at h
  obtain⟨h1,h2⟩:=and_true' h
  obtain⟨h2,_⟩:=and_true' h2
  simp at e
  subst e
  refine⟨fun e he hb=>?_,fun j o'' d e1 e2 e3 e4=>?_⟩
  ·have:=List.all_eq_true.1 h1 e he
   rw[hb]at this
   simpa [Nat.blt_eq] using this
  ·have:=tmpsFor_spec h2 j o'' d e1 e2 e3 (by omega)
   simpa using this
 | o'::r,i0,h,i+1,o,e=>by
  unfold tempsGo at h
  obtain⟨_,h2⟩:=and_true' h
  obtain⟨_,h2⟩:=and_true' h2
  have:=tempsGo_spec h2 i o (by simpa using e)
  rwa [show i0+1+i=i0+(i+1) by omega]at this
theorem bindsAny_eq(e:Edge):bindsAny e=Region.binds .any e:=by
 unfold bindsAny Region.binds
 cases e.ground <;> rfl
theorem foldl_bits(acc:List Nat)(j:Nat):∀ (es:List Edge) (s:Nat),Nat.testBit (es.foldl (fun s e=>bif bindsAny e then s ||| 2 ^ e.on ||| acc.getD e.on 0 else s) s) j=true ->
  Nat.testBit s j=true \/ ∃ e ∈ es,bindsAny e=true/\(e.on=j\/Nat.testBit (acc.getD e.on 0) j=true)
 | [],s,h=>.inl h
 | e::r,s,h=>by
  rw[List.foldl_cons]at h
  rcases foldl_bits acc j r _ h with h | ⟨e',he,hb⟩
  ·cases hb:bindsAny e with
   | false=>rw[hb]at h;exact .inl (by simpa using h)
   | true=>
    rw[hb,cond_true,Nat.testBit_or,Nat.testBit_or,Nat.testBit_two_pow]at h
    simp only[Bool.or_eq_true,decide_eq_true_eq]at h
    rcases h with (h | h) | h
    ·exact .inl h
    ·exact .inr ⟨e,by simp,hb,.inl h⟩
    ·exact .inr ⟨e,by simp,hb,.inr h⟩
  ·exact .inr ⟨e',by simp[he],hb⟩
theorem ancs_pre:∀ (l:List Oper) (acc:List Nat) (k:Nat),k<acc.length->(ancsGo l acc).getD k 0=acc.getD k 0
 | [],acc,k,_=>rfl
 | o::r,acc,k,h=>by
  unfold ancsGo
  rw[ancs_pre r _ k (by simp;omega)]
  simp only[List.getD]
  rw[List.getElem?_append_left h]
theorem ancs_spec(j:Nat):∀ (l:List Oper) (acc:List Nat) (i:Nat) (o:Oper),l[i]? = some o->Nat.testBit ((ancsGo l acc).getD (acc.length+i) 0) j=true ->
  ∃ e ∈ o.after.toList,bindsAny e=true/\(e.on=j\/(e.on<acc.length+i/\Nat.testBit ((ancsGo l acc).getD e.on 0) j=true))
 | [],acc,i,o,e,_=>by simp at e
 | o'::r,acc,0,o,e,h=>by
  simp at e
  subst e
  unfold ancsGo at h ⊢
  rw[ancs_pre r _ _ (by simp)]at h
  rw[show(acc++[o'.after.toList.foldl (fun s e=>bif bindsAny e then s ||| 2 ^ e.on ||| acc.getD e.on 0 else s) 0]).getD (acc.length+0) 0=o'.after.toList.foldl (fun s e=>bif bindsAny e then s ||| 2 ^ e.on ||| acc.getD e.on 0 else s) 0 by simp]at h
  rcases foldl_bits acc j _ _ h with h | ⟨e,he,hb,h⟩
  ·simp at h
  ·refine⟨e,he,hb,h.imp id fun h=>?_⟩
   have hlt:e.on<acc.length:=by
    rcases Nat.lt_or_ge e.on acc.length with h' | h'
    ·exact h'
    ·simp[List.getD,List.getElem?_eq_none h']at h
   refine⟨by omega,?_⟩
   rw[ancs_pre r _ _ (by simp;omega)]
   simp only[List.getD]at h ⊢
   rw[List.getElem?_append_left hlt]
   exact h
 | o'::r,acc,i+1,o,e,h=>by
  unfold ancsGo at h ⊢
  have:=ancs_spec j r (acc++[o'.after.toList.foldl (fun s e=>bif bindsAny e then s ||| 2 ^ e.on ||| acc.getD e.on 0 else s) 0]) i o (by simpa using e)
   (by rwa [List.length_append,List.length_singleton,show acc.length+1+i=acc.length+(i+1) by omega])
  rwa [List.length_append,List.length_singleton,show acc.length+1+i=acc.length+(i+1) by omega]at this
def Closed(l:List Oper)(L:Nat->Bool):Prop:=∀ (i:Nat) o,l[i]? = some o->L i=true -> ∀ e ∈ o.after.toList,bindsAny e=true->L e.on=true
theorem behind_listed{l:List Oper}{L:Nat->Bool}(hc:Closed l L){j:Nat}:∀ (i:Nat) o,l[i]? = some o->(∀ e ∈ o.after.toList,bindsAny e=true->L e.on=true)->behind (ancsGo l []) i j=true->L j=true:=by
 intro i
 induction i using Nat.strongRecOn with
 | ind i ih=>
  intro o ho hr hb
  unfold behind at hb
  obtain⟨e,he,hbe,h⟩:=ancs_spec j l [] i o ho (by simpa using hb)
  rcases h with h | ⟨h1,h2⟩
  ·rw[<- h];exact hr e he hbe
  ·simp only[List.length_nil,Nat.zero_add]at h1
   have hlt:e.on<l.length:=by
    have:=(List.getElem?_eq_some_iff.1 ho).1
    omega
   exact ih e.on h1 l[e.on] (List.getElem?_eq_getElem hlt) (hc e.on l[e.on] (List.getElem?_eq_getElem hlt) (hr e he hbe)) h2
def recL(x:Ent)(i:Nat):List Rec:=bif x.ran then recOf i x.e x.rdl []else []
theorem recOf_append(i:Nat)(e:Eff)(rd:List Nat)(recs:List Rec):recOf i e rd recs=recOf i e rd []++recs:=by
 unfold recOf
 cases e with
 | wr l=>cases l with
  | nil=>cases rd <;> rfl
  | cons p l=>rfl
 | full h=>rfl
theorem recsOf_cons(i:Nat)(x:Ent)(xs:List Ent)(recs:List Rec):recsOf i (x::xs) recs=recsOf (i+1) xs (recL x i++recs):=by
 unfold recL
 rw[recsOf]
 cases x.ran with
 | true=>simp only[cond_true];rw[recOf_append]
 | false=>rfl
theorem quietAll_app{A:List Nat}:∀ {l l':List Rec},quietAll A (l++l')=true->quietAll A l'=true /\ ∀ r ∈ l,∀ s ∈ l',quiet2 A r s=true
 | [],l',h=>⟨h,fun r hr=>by simp at hr⟩
 | x::l,l',h=>by
  rw[List.cons_append]at h
  unfold quietAll at h
  obtain⟨h1,h2⟩:=and_true' h
  obtain⟨g1,g2⟩:=quietAll_app h2
  refine⟨g1,fun r hr s hs=>?_⟩
  rcases List.mem_cons.1 hr with e | hr
  ·subst e;exact List.all_eq_true.1 h1 s (by simp[hs])
  ·exact g2 r hr s hs
theorem recs1{A:List Nat}:∀ {xs:List Ent} {i0:Nat} {recs:List Rec},quietAll A (recsOf i0 xs recs)=true ->
  quietAll A recs=true /\ ∀ (j:Nat) y,xs[j]? = some y -> ∀ r ∈ recL y (i0+j),∀ s ∈ recs,quiet2 A r s=true
 | [],i0,recs,h=>⟨h,fun j y e=>by simp at e⟩
 | x::xs,i0,recs,h=>by
  rw[recsOf_cons]at h
  obtain⟨h1,h2⟩:=recs1 h
  obtain⟨h3,h4⟩:=quietAll_app h1
  refine⟨h3,fun j y e r hr s hs=>?_⟩
  cases j with
  | zero=>simp at e;subst e;exact h4 r hr s hs
  | succ j=>
   refine h2 j y (by simpa using e) r ?_ s (by simp[hs])
   rwa [show i0+1+j=i0+(j+1) by omega]
theorem recs2{A:List Nat}:∀ {xs:List Ent} {i0:Nat} {recs:List Rec},quietAll A (recsOf i0 xs recs)=true ->
  ∀ (i j:Nat) x y,i<j->xs[i]? = some x->xs[j]? = some y -> ∀ r ∈ recL y (i0+j),∀ s ∈ recL x (i0+i),quiet2 A r s=true
 | [],i0,recs,h,i,j,x,y,_,e,_=>by simp at e
 | x'::xs,i0,recs,h,i,0,x,y,hij,e,e'=>by omega
 | x'::xs,i0,recs,h,0,j+1,x,y,hij,e,e'=>by
  rw[recsOf_cons]at h
  simp at e
  subst e
  intro r hr s hs
  refine(recs1 h).2 j y (by simpa using e') r ?_ s (by simp;exact .inl hs)
  rwa [show i0+1+j=i0+(j+1) by omega]
 | x'::xs,i0,recs,h,i+1,j+1,x,y,hij,e,e'=>by
  rw[recsOf_cons]at h
  have:=recs2 h i j x y (by omega) (by simpa using e) (by simpa using e')
  rwa [show i0+1+j=i0+(j+1) by omega,show i0+1+i=i0+(i+1) by omega]at this
theorem meets_true{a b:List Nat}{x:Nat}(ha:x ∈ a)(hb:x ∈ b):meets a b=true:=by
 unfold meets
 exact List.any_eq_true.2 ⟨x,ha,List.any_eq_true.2 ⟨x,hb,by simp⟩⟩
def Ent.wrs(x:Ent):List Nat:=match x.e with | .wr l=>l.map (·.1) | .full _=>[]
def Ent.isFull(x:Ent):Bool:=match x.e with | .wr _=>false | .full _=>true
theorem recL_of{x:Ent}{i:Nat}(hr:x.ran=true)(hn:¬ x.null):recL x i=[{i:=i,rd:=x.rdl,wr:=x.wrs,all:=x.isFull}]:=by
 unfold recL Ent.wrs Ent.isFull
 rw[hr,cond_true]
 unfold recOf
 cases he:x.e with
 | wr l=>
  cases l with
  | nil=>
   cases hd:x.rdl with
   | nil=>exact(hn ⟨he,hd⟩).elim
   | cons b r=>rfl
  | cons p l=>rfl
 | full h=>rfl
theorem Ent.null_touch{x:Ent}(h:x.null)(b:Nat):¬ x.e.touch b /\ ¬ x.meet b:=by
 obtain⟨h1,h2⟩:=h
 have:¬ x.e.touch b:=by rw[h1];rintro⟨p,hp,_⟩;simp at hp
 exact⟨this,fun hm=>hm.elim this fun hm=>by rw[h2]at hm;simp at hm⟩
theorem quietE{A:List Nat}{xs:List Ent}(h:quietAll A (recsOf 0 xs [])=true){i j:Nat}{x y:Ent}(hij:i<j)(ex:xs[i]? = some x)(ey:xs[j]? = some y)
  (hx:x.ran=false->x=.skipped) (hy:y.ran=false->y=.skipped):QuietE A i x j y:=by
 by_cases nx:x.null
 ·refine⟨fun b hb=>?_,fun h' e _=>?_,fun h' e n=>(n nx).elim⟩
  ·rcases hb with ⟨h1,_⟩ | ⟨_,h2⟩
   ·exact((Ent.null_touch nx b).1 h1).elim
   ·exact((Ent.null_touch nx b).2 h2).elim
  ·rw[nx.1]at e;cases e
 by_cases ny:y.null
 ·refine⟨fun b hb=>?_,fun h' e n=>(n ny).elim,fun h' e _=>?_⟩
  ·rcases hb with ⟨_,h2⟩ | ⟨h1,_⟩
   ·exact((Ent.null_touch ny b).2 h2).elim
   ·exact((Ent.null_touch ny b).1 h1).elim
  ·rw[ny.1]at e;cases e
 have rx:x.ran=true:=by
  cases e:x.ran with
  | true=>rfl
  | false=>rw[hx e]at nx;exact(nx ⟨rfl,rfl⟩).elim
 have ry:y.ran=true:=by
  cases e:y.ran with
  | true=>rfl
  | false=>rw[hy e]at ny;exact(ny ⟨rfl,rfl⟩).elim
 have hq:=recs2 h i j x y hij ex ey
 rw[recL_of rx nx,recL_of ry ny]at hq
 have hq:=hq _ (List.mem_singleton_self _) _ (List.mem_singleton_self _)
 unfold quiet2 at hq
 simp only[Nat.zero_add,Bool.or_eq_true,Bool.not_eq_true',Bool.or_eq_false_iff]at hq
 have hfull:∀ {z:Ent} {h'},z.e=.full h'->z.isFull=true:=fun {z} {h'} e=>by unfold Ent.isFull;rw[e]
 refine⟨fun b hb=>hq.elim id fun⟨q1,q2,q3,q4⟩=>?_,fun h' e _=>hq.elim id fun⟨q1,q2,q3,q4⟩=>?_,fun h' e _=>hq.elim id fun⟨q1,q2,q3,q4⟩=>?_⟩
 ·have tw:∀ {z:Ent} {b:Nat},z.isFull=false->z.e.touch b->b ∈ z.wrs:=by
   intro z b hf ht
   unfold Ent.wrs
   unfold Ent.isFull at hf
   cases he:z.e with
   | wr l=>rw[he]at ht;obtain⟨p,hp,e⟩:=ht;exact List.mem_map.2 ⟨p,hp,e⟩
   | full h'=>rw[he]at hf;cases hf
  have tm:∀ {z:Ent} {b:Nat},z.isFull=false->z.meet b->b ∈ z.rdl++z.wrs:=fun hf hm=>by
   rcases hm with hm | hm
   ·exact List.mem_append.2 (.inr (tw hf hm))
   ·exact List.mem_append.2 (.inl hm)
  rcases hb with ⟨h1,h2⟩ | ⟨h1,h2⟩
  ·rcases h2 with h2 | h2
   ·rw[meets_true (tw q1 h2) (List.mem_append.2 (.inr (tw q2 h1)))]at q3;cases q3
   ·rw[meets_true h2 (tw q2 h1)]at q4;cases q4
  ·rw[meets_true (tw q1 h1) (tm q2 h2)]at q3;cases q3
 ·rw[hfull e]at q2;cases q2
 ·rw[hfull e]at q1;cases q1
theorem mems_get{xs:List Ent}{j:Nat}{u:Upd BS}(h:(mems xs)[j]? = some u):∃ x,xs[j]? = some x/\u=x.mem:=map_get h
theorem mems_law(xs:List Ent):∀ u ∈ mems xs,u.Law:=by
 intro u hu
 obtain⟨x,_,rfl⟩:=List.mem_map.1 hu
 exact x.mem_law
theorem tmpsU_get:∀ {os:List Oper} {xs:List Ent} {j:Nat} {u:Upd AV},(tmpsU os xs)[j]? = some u -> ∃ o x,os[j]? = some o/\xs[j]? = some x/\u=x.tmp o
 | [],xs,j,u,h=>by simp[tmpsU]at h
 | o::os,[],j,u,h=>by simp[tmpsU]at h
 | o::os,x::xs,0,u,h=>by simp[tmpsU]at h;exact⟨o,x,rfl,rfl,h.symm⟩
 | o::os,x::xs,j+1,u,h=>by
  simp only[tmpsU,List.getElem?_cons_succ]at h
  obtain⟨o',x',e1,e2,e3⟩:=tmpsU_get h
  exact⟨o',x',by simpa using e1,by simpa using e2,e3⟩
theorem tmpsU_get':∀ {os:List Oper} {xs:List Ent} {j:Nat} {o:Oper} {x:Ent},os[j]? = some o->xs[j]? = some x->(tmpsU os xs)[j]? = some (x.tmp o)
 | [],xs,j,o,x,h,_=>by simp at h
 | o'::os,[],j,o,x,_,h=>by simp at h
 | o'::os,x'::xs,0,o,x,h,h'=>by simp at h h';subst h;subst h';rfl
 | o'::os,x'::xs,j+1,o,x,h,h'=>by
  simp only[tmpsU,List.getElem?_cons_succ]
  exact tmpsU_get' (by simpa using h) (by simpa using h')
theorem tmpsU_law:∀ (os:List Oper) (xs:List Ent),∀ u ∈ tmpsU os xs,u.Law
 | [],xs,u,h=>by simp[tmpsU]at h
 | o::os,[],u,h=>by simp[tmpsU]at h
 | o::os,x::xs,u,h=>by
  simp only[tmpsU]at h
  rcases List.mem_cons.1 h with e | h
  ·subst e;exact Ent.tmp_law o x
  ·exact tmpsU_law os xs u h
theorem Chain.fin{P:Program}{nt:Nat}{ops:Array Oper}{L:Nat->Bool}:∀ {os:List Oper} {xs:List Ent} {s s':St} {i0:Nat},Chain P nt ops os xs s s'->(∀ j,j<os.length->L (i0+j)=true) ->
  foldU L i0 (mems xs) (hget s.hp)=hget s'.hp/\foldU L i0 (tmpsU os xs) (fget s.fr)=fget s'.fr
 | [],[],s,s',i0,h,_=>by cases h;exact⟨rfl,rfl⟩
 | o::os,x::xs,s,s',i0,h,hL=>by
  obtain⟨_,_,_,_,_,h6⟩:=h
  have h0:L i0=true:=hL 0 (by simp)
  have ih:=Chain.fin (i0:=i0+1) h6 fun j hj=>by
   have:=hL (j+1) (by simpa using hj)
   rwa [show i0+(j+1)=i0+1+j by omega]at this
  refine⟨?_,?_⟩
  ·simp only[mems,List.map_cons,foldU,h0,cond_true]
   rw[<- ih.1,Eff.apply_rd]
   rfl
  ·simp only[tmpsU,foldU,h0,cond_true]
   rw[<- ih.2,fget_fput]
   rfl
 | [],_::_,s,s',i0,h,_=>h.elim
 | _::_,[],s,s',i0,h,_=>h.elim
theorem FrOk.put'{w:World}{I:Nat->Prop}{φ:Phi}{fr:Nat->AV}{a:Act}{d:Option Nat}{v:AV}{u:Value}(h:FrOk w I φ fr a)(hv:RV w I φ v u)(hd:dstOk a.tmps.size d=true) :
  FrOk w I φ (putF d v fr) (a.put d u):=by
 intro t
 cases d with
 | none=>simpa [putF,Act.put] using h t
 | some d=>
  have hd:d<a.tmps.size:=by simpa [dstOk,Nat.blt_eq] using hd
  simp only[putF,Act.put,Act.eval,Array.getD_eq_getD_getElem?,Option.some.injEq]
  by_cases e:d=t
  ·subst e
   rw[if_pos rfl,Array.getElem?_setIfInBounds_self_of_lt hd]
   exact hv
  ·rw[if_neg e,Array.getElem?_setIfInBounds_ne e]
   have:=h t
   simp only[Act.eval,Array.getD_eq_getD_getElem?]at this
   exact this
theorem guardV_congr{ops:Array Oper}{fr fr':Nat->AV}{o:Oper}(h:∀ t ∈ namesO ops o,fr t=fr' t):guardV ops fr o=guardV ops fr' o:=by
 unfold guardV
 cases hg:o.guard with
 | none=>rfl
 | some p=>
  obtain⟨j,want⟩:=p
  simp only
  cases hj:(ops[j]?).bind (·.dst)with
  | none=>rfl
  | some d=>
   simp only
   rw[h d (by unfold namesO;rw[hg];simp[hj])]
theorem evalO_congr{ops:Array Oper}{fr fr':Nat->AV}{o:Oper}(h:∀ t ∈ namesO ops o,fr t=fr' t){x:Operand}(hx:x ∈ o.op.operands):evalO fr x=evalO fr' x:=by
 cases x with
 | tmp t=>
  refine h t ?_
  unfold namesO
  refine List.mem_append.2 (.inr (List.mem_append.2 (.inl (List.mem_filterMap.2 ⟨.tmp t,by simpa using hx,rfl⟩))))
 | _=>rfl
section
variable {P:Program} {env:Env} {run:CallK R} {r:R} {nt:Nat} {ops:Array Oper} {xs:List Ent} {s s':St} {Q:Exit->Act->World->Prop} {a0:Act} {w0:World} {φ0:Phi} {I0:Nat->Prop}
abbrev memL(xs:List Ent)(s:St)(L:Nat->Bool):Nat->BS:=foldU L 0 (mems xs) (hget s.hp)
abbrev tmpL(ops:Array Oper)(xs:List Ent)(s:St)(L:Nat->Bool):Nat->AV:=foldU L 0 (tmpsU ops.toList xs) (fget s.fr)
theorem draw_any(ht:tempsOk ops=true)(hch:Chain P nt ops ops.toList xs s s')(hq:quietAll (ancsGo ops.toList []) (recsOf 0 xs [])=true)
  (hQ:∀ a' w' φ' I',nt<=a'.tmps.size->a'.defers=a0.defers->StOk w' I' φ' s' a'->(∀ base,base<=s.hp.length->Step base (hget s.hp) φ0 I0 w0 (hget s'.hp) φ' I' w')->Q .normal a' w') :
  ∀ (fuel:Nat) (listed:Array Bool) (U:List Nat) (a:Act) (w:World) (φ:Phi) (I:Nat->Prop),listed.size=ops.size->(∀ j,j<ops.size->listed.getD j false=false->j ∈ U)->U.length<=fuel ->
   Closed ops.toList (fun j=>listed.getD j false)->RH w I φ (memL xs s fun j=>listed.getD j false)->FrOk w I φ (tmpL ops xs s fun j=>listed.getD j false) a->nt<=a.tmps.size->a.defers=a0.defers ->
   (∀ base,base<=s.hp.length->Step base (hget s.hp) φ0 I0 w0 (memL xs s fun j=>listed.getD j false) φ I w)->wpAny P .any ops Q fuel listed a w:=by
 have hxl:xs.length=ops.toList.length:=hch.length.1
 have hsk:∀ (j:Nat) x,xs[j]? = some x->x.ran=false->x=.skipped:=by
  intro j x e
  have hj:j<ops.toList.length:=by rw[<- hxl];exact(List.getElem?_eq_some_iff.1 e).1
  obtain⟨_,_,_,_,_,_,h,_⟩:=hch.nth (i0:=0) j _ x (List.getElem?_eq_getElem hj) e
  exact h
 have hto:=fun(i:Nat) (o:Oper) (e:ops.toList[i]? = some o)=>tempsGo_spec (l:=ops.toList) (i0:=0) ht i o e
 have hend:∀ (listed:Array Bool) (a:Act) (w:World) (φ:Phi) (I:Nat->Prop),(∀ j,j<ops.size->listed.getD j false=true) ->
   RH w I φ (memL xs s fun j=>listed.getD j false)->FrOk w I φ (tmpL ops xs s fun j=>listed.getD j false) a->nt<=a.tmps.size->a.defers=a0.defers ->
   (∀ base,base<=s.hp.length->Step base (hget s.hp) φ0 I0 w0 (memL xs s fun j=>listed.getD j false) φ I w)->Q .normal a w:=by
  intro listed a w φ I hall hr hf hn hd hs
  obtain⟨e1,e2⟩:=hch.fin (L:=fun j=>listed.getD j false) (i0:=0) fun j hj=>by simpa using hall j (by simpa using hj)
  unfold memL at hr hs
  unfold tmpL at hf
  rw[e1]at hr hs
  rw[e2]at hf
  exact hQ a w φ I hn hd ⟨hr,hf⟩ hs
 have hready:∀ (listed:Array Bool),listed.size=ops.size->Region.ready .any ops listed=[] -> ∀ j,j<ops.size->listed.getD j false=true:=by
  intro listed hsz hr j
  induction j using Nat.strongRecOn with
  | ind j ih=>
   intro hj
   cases hl:listed.getD j false with
   | true=>rfl
   | false=>
    have hjt:ops.toList[j]? = some ops[j]:=by simp[hj]
    have:j ∈ Region.ready .any ops listed:=by
     refine mem_ready.2 ⟨?_,ops[j],by simp[hj],fun e he hb=>?_⟩
     ·rw[<- hl]
      simp[Array.getD_eq_getD_getElem?,hsz,hj]
     ·have:=(hto j _ hjt).1 e (by simpa using he) (by rw[bindsAny_eq];exact hb)
      exact ih e.on (by omega) (by omega)
    rw[hr]at this
    simp at this
 intro fuel
 induction fuel with
 | zero=>
  intro listed U a w φ I hsz hU hlen hc hr hf hn hd hs
  have hall:∀ j,j<ops.size->listed.getD j false=true:=by
   intro j hj
   cases hl:listed.getD j false with
   | true=>rfl
   | false=>
    have:=hU j hj hl
    rw[List.length_eq_zero_iff.1 (Nat.le_zero.1 hlen)]at this
    simp at this
  refine⟨?_,hend listed a w φ I hall hr hf hn hd hs⟩
  rw[List.eq_nil_iff_forall_not_mem]
  intro j hj
  obtain⟨h0,o,ho,_⟩:=mem_ready.1 hj
  have hjl:j<ops.size:=(Array.getElem?_eq_some_iff.1 ho).1
  have:=hall j hjl
  simp[Array.getD_eq_getD_getElem?,hsz,hjl]at this h0
  rw[this]at h0
  cases h0
 | succ fuel ih=>
  intro listed U a w φ I hsz hU hlen hc hr hf hn hd hs
  refine⟨fun he=>hend listed a w φ I (hready listed hsz he) hr hf hn hd hs,fun i hi=>?_⟩
  obtain⟨h0,o,ho,hall⟩:=mem_ready.1 hi
  have hil:i<ops.size:=(Array.getElem?_eq_some_iff.1 ho).1
  have hot:ops.toList[i]? = some o:=by rw[Array.getElem?_toList];exact ho
  have hLi:listed.getD i false=false:=by
   rw[<- h0]
   simp[Array.getD_eq_getD_getElem?,hsz,hil]
  have hanc:∀ e ∈ o.after.toList,bindsAny e=true->listed.getD e.on false=true:=fun e he hb=>hall e (by simpa using he) (by rw[<- bindsAny_eq];exact hb)
  obtain⟨x,hx⟩:∃ x,xs[i]? = some x:=⟨xs[i]'(by rw[hxl];simpa using hil),List.getElem?_eq_getElem _⟩
  obtain⟨hdst,fr,len,hlen2,hg,hsim,hskip,hfr⟩:=hch.nth (i0:=0) i o x hot hx
  simp only[Nat.zero_add]at hsim hfr
  have back:∀ j,behind (ancsGo ops.toList []) i j=true->listed.getD j false=true:=fun j hb=>behind_listed (L:=fun j=>listed.getD j false) hc i o hot hanc hb
  have fore:∀ j,j<ops.toList.length->behind (ancsGo ops.toList []) j i=true->listed.getD j false=false:=by
   intro j hj hb
   cases hl:listed.getD j false with
   | false=>rfl
   | true=>
    have:=behind_listed (L:=fun j=>listed.getD j false) hc j ops.toList[j] (List.getElem?_eq_getElem hj) (hc j _ (List.getElem?_eq_getElem hj) hl) hb
    rw[hLi]at this
    cases this
  have agree:∀ j,j<ops.toList.length->(i<j->behind (ancsGo ops.toList []) j i=true)->(j<i->behind (ancsGo ops.toList []) i j=true)->listed.getD j false=decide (j<i):=by
   intro j hj h1 h2
   rcases Nat.lt_trichotomy j i with h | h | h
   ·rw[back j (h2 h),decide_eq_true h]
   ·subst h;rw[hLi];simp
   ·rw[fore j hj (h1 h)];simp;omega
  have htmp:∀ t ∈ namesO ops o,∀ (j:Nat) o',ops.toList[j]? = some o'->o'.dst=some t->i ≠ j->(i<j->behind (ancsGo ops.toList []) j i=true)/\(j<i->behind (ancsGo ops.toList []) i j=true):=by
   intro t htn j o' e1 e2 hne
   have:=(hto i o hot).2 j o' t e1 e2 htn (by omega)
   simp only[Nat.zero_add,ordered]at this
   refine⟨fun h=>?_,fun h=>?_⟩
   ·rwa [show Nat.blt i j=true by simpa [Nat.blt_eq] using h]at this
   ·rwa [show Nat.blt i j=false by rw[Bool.eq_false_iff];intro e;rw[Nat.blt_eq]at e;omega]at this
  have hfrt:∀ t ∈ namesO ops o,fr t=tmpL ops xs s (fun j=>listed.getD j false) t:=by
   intro t htn
   rw[hfr]
   refine(foldU_congr _ 0 _ _ (tmpsU_law _ _) (fun j u e hT=>?_) rfl).symm
   obtain⟨o',x',e1,e2,rfl⟩:=tmpsU_get e
   simp only[Nat.zero_add]
   by_cases hne:i=j
   ·subst hne;rw[hLi];simp
   ·obtain⟨h1,h2⟩:=htmp t htn j o' e1 hT hne
    exact agree j (List.getElem?_eq_some_iff.1 e1).1 h1 h2
  have hL':∀ j,(listed.setIfInBounds i true).getD j false=(listed.getD j false||decide (j=0+i)):=by
   intro j
   by_cases hj:i=j
   ·subst hj
    simp[Array.getD_eq_getD_getElem?,hsz,hil]
   ·rw[getD_set_ne false hj,decide_eq_false (show ¬ (j=0+i) by omega),Bool.or_false]
  have hsz':(listed.setIfInBounds i true).size=ops.size:=by simpa using hsz
  have hc':Closed ops.toList (fun j=>(listed.setIfInBounds i true).getD j false):=by
   intro j oj ej hj e he hb
   simp only[hL']at hj ⊢
   rw[Bool.or_eq_true]at hj
   rcases hj with hj | hj
   ·have:=hc j oj ej hj e he hb
    simp only at this
    rw[this];rfl
   ·have:j=i:=by simpa using hj
    subst this
    rw[hot]at ej
    cases ej
    rw[hanc e he hb];rfl
  have hiU:i ∈ U:=hU i hil hLi
  have hU':∀ j,j<ops.size->(listed.setIfInBounds i true).getD j false=false->j ∈ U.filter (· ≠ i):=by
   intro j hj hl
   rw[hL',Bool.or_eq_false_iff]at hl
   refine List.mem_filter.2 ⟨hU j hj hl.1,?_⟩
   have:=hl.2
   simpa using this
  have hlen':(U.filter (· ≠ i)).length<=fuel:=by
   have:(U.filter (· ≠ i)).length<U.length:=by
    rw[List.length_filter_lt_length_iff_exists]
    exact⟨i,hiU,by simp⟩
   omega
  have hnewT:∀ t,tmpL ops xs s (fun j=>(listed.setIfInBounds i true).getD j false) t=putF o.dst x.v (tmpL ops xs s fun j=>listed.getD j false) t:=by
   intro t
   refine foldU_add (L:=fun j=>listed.getD j false) (x:=x.tmp o) _ 0 i _ (tmpsU_law _ _) (tmpsU_get' hot hx) (by simpa using hLi) hL' fun hT j u e hij hT'=>?_
   obtain⟨o',x',e1,e2,rfl⟩:=tmpsU_get e
   simp only[Nat.zero_add]
   have hn:t ∈ namesO ops o:=by
    have:o.dst=some t:=hT
    unfold namesO;rw[this];simp
   exact fore j (List.getElem?_eq_some_iff.1 e1).1 ((htmp t hn j o' e1 hT' (by omega)).1 hij)
  have hnewM:(∀ b,x.e.touch b -> ∀ (j:Nat) y,xs[j]? = some y->i<j->y.e.touch b->behind (ancsGo ops.toList []) j i=true) ->
    ∀ b,memL xs s (fun j=>(listed.setIfInBounds i true).getD j false) b=x.e.rd (memL xs s fun j=>listed.getD j false) b:=by
   intro hb b
   refine foldU_add (L:=fun j=>listed.getD j false) (x:=x.mem) _ 0 i _ (mems_law _) (by simp only[mems,List.getElem?_map,hx,Option.map_some]) (by simpa using hLi) hL' fun hT j u e hij hT'=>?_
   obtain⟨y,e1,rfl⟩:=mems_get e
   simp only[Nat.zero_add]
   exact fore j (by rw[<- hxl];exact(List.getElem?_eq_some_iff.1 e1).1) (hb b hT j y e1 hij hT')
  have hwant:Region.wanted o (yielded ops a.tmps)=x.ran:=guard_ok hf (by rw[<- hg];exact guardV_congr fun t ht=>(hfrt t ht).symm)
  have hdst':=dstOk_le hdst hn
  unfold wpOp
  rw[ho]
  simp only[hwant]
  cases hran:x.ran with
  | false=>
   simp only[Bool.false_eq_true,if_false]
   have hxs:=hskip hran
   have hM:=hnewM fun b hb=>by rw[hxs]at hb;obtain⟨p,hp,_⟩:=hb;simp at hp
   have hMe:memL xs s (fun j=>(listed.setIfInBounds i true).getD j false)=memL xs s fun j=>listed.getD j false:=by
    funext b;rw[hM b,hxs];rfl
   refine ih _ _ (a.put o.dst undef) w φ I hsz' hU' hlen' hc' (by rw[hMe];exact hr) (fun t=>?_) (by simpa using hn) (by simpa using hd) (by rw[hMe];exact hs)
   rw[hnewT t]
   refine hf.put' ?_ hdst' t
   rw[hxs]
   exact RV.skip _ _ _
  | true=>
   simp only[if_true]
   refine .inl ?_
   have hqe1:∀ (j:Nat) y,xs[j]? = some y->i<j->QuietE (ancsGo ops.toList []) i x j y:=fun j y e hij=>quietE hq hij hx e (hsk i x hx) (hsk j y e)
   have hqe2:∀ (j:Nat) y,xs[j]? = some y->j<i->QuietE (ancsGo ops.toList []) j y i x:=fun j y e hij=>quietE hq hij e hx (hsk j y e) (hsk i x hx)
   have hM:=hnewM fun b hb j y e hij ht=>(hqe1 j y e hij).1 b (.inl ⟨hb,.inl ht⟩)
   have hmem:∀ b,x.meet b->memL xs s (fun j=>listed.getD j false) b=foldU (fun j=>decide (j<i)) 0 (mems xs) (hget s.hp) b:=by
    intro b hb
    refine foldU_congr _ 0 _ _ (mems_law _) (fun j u e hT=>?_) rfl
    obtain⟨y,e1,rfl⟩:=mems_get e
    simp only[Nat.zero_add]
    exact agree j (by rw[<- hxl];exact(List.getElem?_eq_some_iff.1 e1).1) (fun h=>(hqe1 j y e1 h).1 b (.inr ⟨hT,hb⟩)) (fun h=>(hqe2 j y e1 h).1 b (.inl ⟨hT,hb⟩))
   have hfit:x.e.fits (foldU (fun j=>decide (j<i)) 0 (mems xs) (hget s.hp)) (memL xs s fun j=>listed.getD j false):=by
    cases he:x.e with
    | wr l=>exact fun p hp=>hmem p.1 (.inl (by rw[he];exact⟨p,hp,rfl⟩))
    | full h'=>
     show memL xs s _=_
     funext b
     exact hmem b (.inl (by rw[he];exact trivial))
   refine hsim hran _ a w φ I (fun b hb=>hmem b (.inr hb)) hfit hr (fun y hy=>?_) _ Q fun u w' φ' I' b1 b2 b3 b4=>?_
   ·rw[evalO_congr (fun t ht=>hfrt t ht) hy]
    exact hf.eval y
   ·have hMe:memL xs s (fun j=>(listed.setIfInBounds i true).getD j false)=x.e.rd (memL xs s fun j=>listed.getD j false):=funext hM
    refine ih _ _ (a.put o.dst u) w' φ' I' hsz' hU' hlen' hc' (by rw[hMe];exact b2) (fun t=>?_) (by simpa using hn) (by simpa using hd) (fun base hb=>by rw[hMe];exact(hs base hb).trans (b3 base (Nat.le_trans hb hlen2)))
    rw[hnewT t]
    exact(hf.step hr (b3 0 (Nat.zero_le _)) b4).put' b1 hdst' t
theorem region_ok(henv:EnvOk P env)(hrun:RunOk P run)(hm:P.follows .mixedOrders=true){id:Nat}{draw:Bool}{k:St->Option R}(hok:okCode (.region id ops draw)=true)
  (h:opsK env run nt ops draw ops.toList 0 [] s k=some r) :
  ∃ s',k s'=some r/\s.hp.length<=s'.hp.length /\ ∀ (w:World) (I:Nat->Prop) (φ:Phi) (a:Act),StOk w I φ s a->nt<=a.tmps.size -> ∀ Q:Exit->Act->World->Prop,
   (∀ a' w' φ' I',nt<=a'.tmps.size->a'.defers=a.defers->StOk w' I' φ' s' a'->(∀ base,base<=s.hp.length->Step base (hget s.hp) φ I w (hget s'.hp) φ' I' w')->Q .normal a' w')->(Code.region id ops draw).wp P Q a w:=by
 cases draw with
 | false=>
  obtain⟨s',h1,h2,h3⟩:=ops_plain henv hrun _ _ _ _ _ h
  exact⟨s',h1,h2,fun w I φ a hs ha Q hQ=>wp_region_list (h3 w I φ a hs ha Q hQ)⟩
 | true=>
  have ht:tempsOk ops=true:=by simpa [okCode] using hok
  obtain⟨xs,s',s2,h1,hf2,hp2,h2,h3⟩:=ops_chain henv hrun _ _ _ _ s _ rfl rfl h
  refine⟨s2,h1,by rw[hp2];exact h2.length.2,fun w I φ a hs ha Q hQ2=>wp_region_any hm ?_⟩
  have hQ:∀ a' w' φ' I',nt<=a'.tmps.size->a'.defers=a.defers->StOk w' I' φ' s' a'->(∀ base,base<=s.hp.length->Step base (hget s.hp) φ I w (hget s'.hp) φ' I' w')->Q .normal a' w':=
   fun a' w' φ' I' c1 c2 c3 c4=>hQ2 a' w' φ' I' c1 c2 ⟨by rw[hp2];exact c3.hh,by rw[hf2];exact c3.fr⟩ (by rw[hp2];exact c4)
  have hdr:=hs.hh.drew (base:=0)
  have hL:∀ j,(Array.replicate ops.size false).getD j false=false:=fun j=>by
   simp only[Array.getD_eq_getD_getElem?,Array.getElem?_replicate]
   split <;> rfl
  have e1:memL xs s (fun j=>(Array.replicate ops.size false).getD j false)=hget s.hp:=foldU_false _ 0 _ fun j=>hL _
  have e2:tmpL ops xs s (fun j=>(Array.replicate ops.size false).getD j false)=fget s.fr:=foldU_false _ 0 _ fun j=>hL _
  refine draw_any (a0:=a) (w0:=w) (φ0:=φ) (I0:=I) ht h2 h3 hQ ops.size _ (List.range ops.size) a w.drew φ I (by simp) (fun j hj _=>by simpa using hj) (by simp) (fun j o _ hj=>by have hj:(Array.replicate ops.size false).getD j false=true:=hj;rw[hL]at hj;cases hj) (by rw[e1];exact hdr.1) (fun t=>?_) ha rfl fun base _=>by rw[e1];exact(hs.hh.drew base).2
  rw[e2]
  exact hs.fr.step hs.hh hdr.2 (Phi.le_refl _) t
end
end Go.AM
end
noncomputable section
set_option linter.unusedVariables false
set_option linter.unusedSimpArgs false
namespace Go.AM
variable {R:Type}
theorem frz1_ok{w:World}{I:Nat->Prop}{φ:Phi}{s:St}{a:Act}{t:Nat}{v:AV}{l:List Nat}(hs:StOk w I φ s a)(h:snapG depth (hget s.hp) (fget s.fr t)=some (v,l,true)) :
  ∃ I' φ',StOk w I' φ' {fr:=(t,v)::s.fr,hp:=hputs s.hp (l.map fun b=>(b,frozen (hget s.hp b)))} a /\
   ∀ base,base<=s.hp.length->Step base (hget s.hp) φ I w (hget (hputs s.hp (l.map fun b=>(b,frozen (hget s.hp b))))) φ' I' w:=by
 obtain⟨hl,hv⟩:=(snapG_ok hs.hh depth).1 _ _ _ h fun _ _=>rfl
 have hlt:∀ B,(I B\/InL φ l B)->B<w.heap.size:=fun B hB=>hB.elim (hs.hh.lt B) (inL_lt hs.hh hl)
 obtain⟨φ2,_,le,hh2,st⟩:=hs.hh.merge (w':=w) (I2:=fun B=>I B\/InL φ l B) (φ':=Phi.no) (bs:=[]) (nx:=s.hp.length) (t:=true) (rch:=l) hl (fun i hi=>by simp at hi) (Ext.refl _ _)
  (fun B hB=>.inl hB) (fun B hB=>hB.elim .inl fun h=>.inr (.inl ⟨rfl,h⟩)) (fun _ B hB=>.inr hB) (RH.empty w _ hlt) (fun B hB=>(not_mut_nil hB).elim) (hget s.hp) (fun _ _=>rfl)
 have e:rdputs (hget s.hp) ((bif true then l.map fun b=>(b,frozen (hget s.hp b))else [])++imports s.hp.length 0 (([]:Heap).map (renB (shift s.hp.length ([]:Heap).length))))=hget (hputs s.hp (l.map fun b=>(b,frozen (hget s.hp b)))):=by
  rw[hget_hputs]
  show rdputs (hget s.hp) ((l.map fun b=>(b,frozen (hget s.hp b)))++[])=_
  rw[List.append_nil]
 rw[e]at hh2
 refine⟨_,φ2,⟨hh2,fun t'=>?_⟩,fun base hb=>by have:=st base hb;rw[e]at this;exact this⟩
 have hstep:=st 0 (Nat.zero_le _)
 rw[e]at hstep
 have old:FrOk w (fun B=>I B\/InL φ l B) φ2 (fget s.fr) a:=hs.fr.step hs.hh hstep le
 by_cases ht:t'=t
 ·subst ht
  have:=hv (fun B=>I B\/InL φ l B) (fun B hB=>.inl hB) (fun B hB=>.inr hB) _ (hs.fr t')
  have e2:fget ((t',v)::s.fr) t'=v:=by simp[fget]
  rw[e2]
  exact this.mono (fun B hB=>⟨hB,rfl⟩) (fun _=>Nat.le_refl _) (Phi.no_le _)
 ·have hbq:Nat.beq t t'=false:=by
   cases hq:Nat.beq t t' with
   | false=>rfl
   | true=>exact absurd (Nat.eq_of_beq_eq_true hq).symm ht
  have e2:fget ((t,v)::s.fr) t'=fget s.fr t':=by simp only[fget,hbq,cond_false]
  show RV _ _ _ (fget ((t,v)::s.fr) t') _
  rw[e2];exact old t'
theorem RH.reword{w:World}{I:Nat->Prop}{φ:Phi}{rd:Nat->BS}(h:RH w I φ rd){b:Nat}{x:BS}(hl:live (rd b)=true)(hlx:live x=true)(hm:mutable x=mutable (rd b))(hp:phantom (rd b)->phantom x)
  (hx:∀ B o sz,RB w I φ B o sz (rd b)->RB w I φ B o sz x):RH w I φ (rdput rd b x) /\ ∀ base,Step base rd φ I w (rdput rd b x) φ I w:=by
 have hmu:∀ b',mutable (rdput rd b x b')=mutable (rd b'):=fun b'=>by
  by_cases e:b'=b
  ·subst e;rw[rdput_same];exact hm
  ·rw[rdput_ne _ _ e]
 have hlv:∀ b',live (rdput rd b x b')=live (rd b'):=fun b'=>by
  by_cases e:b'=b
  ·subst e;rw[rdput_same,hlx,hl]
  ·rw[rdput_ne _ _ e]
 refine⟨⟨fun b' e=>?_,fun b' e=>?_,fun b1 b2 B o s o' s' h1 h2=>h.inj b1 b2 B o s o' s' (hmu b1 ▸ h1) (hmu b2 ▸ h2),fun b' B o s h1=>h.disj b' B o s (hmu b' ▸ h1),fun b' B o s h1 h2=>h.imm b' B o s (hlv b' ▸ h1) (hmu b' ▸ h2),h.lt⟩,
  fun base=>⟨fun _ _ _ e=>e,fun _ hB=>hB,fun _ hB=>.inl hB,fun B ⟨b',o,s,h1,e⟩=>.inl ⟨b',o,s,hmu b' ▸ h1,e⟩,Ext.refl _ _⟩⟩
 ·by_cases e':b'=b
  ·subst e';rw[rdput_same]at e;subst e;cases hlx
  ·rw[rdput_ne _ _ e']at e;exact h.none b' e
 ·by_cases e':b'=b
  ·subst e'
   rw[rdput_same]
   rcases h.blk b' hl with ⟨B,o,s,e1,r⟩ | ⟨e1,hph⟩
   ·exact .inl ⟨B,o,s,e1,hx B o s r⟩
   ·exact .inr ⟨e1,hp hph⟩
  ·rw[rdput_ne _ _ e']at e ⊢;exact h.blk b' e
theorem seed1_ok{w:World}{I:Nat->Prop}{φ:Phi}{s:St}{a:Act}(sz t:Nat)(h:StOk w I φ s a) :
  StOk w I φ (seed1 sz t s) a/\s.hp.length<=(seed1 sz t s).hp.length /\ ∀ base,Step base (hget s.hp) φ I w (hget (seed1 sz t s).hp) φ I w:=by
 unfold seed1
 split
 ·rename_i hn
  have hg:hget (hput s.hp s.hp.length (.seq true sz 0 fun _=>[]))=rdput (hget s.hp) s.hp.length (.seq true sz 0 fun _=>[]):=funext fun b=>hget_hput _ _ _ _
  have hp:=h.hh.phan (nx:=s.hp.length) (hget_ge (Nat.le_refl _)) true sz (fun _=>[])
  refine⟨⟨by rw[hg];exact hp.1,fun t'=>?_⟩,hput_length _ _ _,fun base=>by rw[hg];exact hp.2 base⟩
  by_cases ht:t'=t
  ·subst ht
   have e2:fget ((t',AV.sn sz s.hp.length 0)::s.fr) t'=.sn sz s.hp.length 0:=by simp[fget]
   rw[e2]
   have:=h.fr t'
   rw[hn]at this
   have key:∀ u,RV w I φ .nils u->RV w I φ (.sn sz s.hp.length 0) u:=fun u h=>by cases h;exact .sn0 _ _ _
   exact key _ this
  ·have hbq:Nat.beq t t'=false:=by
    cases hq:Nat.beq t t' with
    | false=>rfl
    | true=>exact absurd (Nat.eq_of_beq_eq_true hq).symm ht
   have e2:fget ((t,AV.sn sz s.hp.length 0)::s.fr) t'=fget s.fr t':=by simp only[fget,hbq,cond_false]
   show RV _ _ _ (fget ((t,AV.sn sz s.hp.length 0)::s.fr) t') _
   rw[e2];exact h.fr t'
 ·exact⟨h,Nat.le_refl _,fun _=>Step.refl _ _ _ _ _⟩
theorem seedL_ok{w:World}{I:Nat->Prop}{φ:Phi}{a:Act}:∀ (l:List Nat) (s:St),StOk w I φ s a ->
  StOk w I φ (seedL l s) a/\s.hp.length<=(seedL l s).hp.length /\ ∀ base,Step base (hget s.hp) φ I w (hget (seedL l s).hp) φ I w
 | [],s,h=>⟨h,Nat.le_refl _,fun _=>Step.refl _ _ _ _ _⟩
 | x::r,s,h=>by
  unfold seedL
  cases Nat.beq (x / 1000000) 0 with
  | true=>exact seedL_ok r s h
  | false=>
   rw[cond_false]
   obtain⟨h1,h2,h3⟩:=seed1_ok (x / 1000000) (x / 1000 % 1000) h
   obtain⟨g1,g2,g3⟩:=seedL_ok r _ h1
   exact⟨g1,Nat.le_trans h2 g2,fun base=>(h3 base).trans (g3 base)⟩
theorem seed1_len(sz t:Nat)(s:St):s.hp.length<=(seed1 sz t s).hp.length:=by
 unfold seed1
 split
 ·exact hput_length _ _ _
 ·exact Nat.le_refl _
theorem seedL_len:∀ (l:List Nat) (s:St),s.hp.length<=(seedL l s).hp.length
 | [],s=>Nat.le_refl _
 | x::r,s=>by
  unfold seedL
  cases Nat.beq (x / 1000000) 0 with
  | true=>exact seedL_len r s
  | false=>exact Nat.le_trans (seed1_len _ _ s) (seedL_len r _)
theorem seedC_ok{w:World}{I:Nat->Prop}{φ:Phi}{s:St}{a:Act}(x:Nat)(h:StOk w I φ s a) :
  StOk w I φ (seedC x s) a /\ ∀ base,Step base (hget s.hp) φ I w (hget (seedC x s).hp) φ I w:=by
 unfold seedC
 split
 ·rename_i sz cs hb
  split
  ·rename_i hc
   have hg1:hget (hput s.hp s.hp.length (.seq true (x / 1000000) 0 fun _=>[]))=rdput (hget s.hp) s.hp.length (.seq true (x / 1000000) 0 fun _=>[]):=funext fun b=>hget_hput _ _ _ _
   have hp:=h.hh.phan (nx:=s.hp.length) (hget_ge (Nat.le_refl _)) true (x / 1000000) (fun _=>[])
   have hne:x / 1000 % 1000 ≠ s.hp.length:=by
    intro e
    rw[e,hget_ge (Nat.le_refl _)]at hb;cases hb
   have hb2:rdput (hget s.hp) s.hp.length (.seq true (x / 1000000) 0 fun _=>[]) (x / 1000 % 1000)=.arr true sz [cs]:=by rw[rdput_ne _ _ hne];exact hb
   have hw:=hp.1.reword (b:=x / 1000 % 1000) (x:=.arr true sz [cs.set (x % 1000) (.sn (x / 1000000) s.hp.length 0)]) (by rw[hb2];rfl) rfl (by rw[hb2];rfl) (by rw[hb2];exact id) (fun B o z r=>by
    rw[hb2]at r
    obtain⟨r1,r2,r3,r4⟩:=r
    have one:∀ {c':List AV} {i:Nat} {cs':List AV},[c'][i]? = some cs'->i=0/\cs'=c':=by
     intro c' i cs' e
     cases i with
     | zero=>simp at e;exact⟨rfl,e.symm⟩
     | succ i=>simp at e
    refine⟨r1,r2,fun i cs' e=>?_,fun i cs' k c e e'=>?_⟩
    ·obtain⟨rfl,rfl⟩:=one e
     rw[List.length_set];exact r3 0 cs rfl
    ·obtain⟨rfl,rfl⟩:=one e
     rw[List.getElem?_set]at e'
     split at e'
     ·rename_i hk
      subst hk
      split at e'
      ·cases e'
       obtain⟨u,a1,a2,a3⟩:=r4 0 cs (x % 1000) _ rfl hc
       refine⟨u,a1,a2,?_⟩
       cases a3
       exact .sn0 _ _ _
      ·cases e'
     ·exact r4 0 cs k c rfl e')
   have hg2:hget (hput (hput s.hp s.hp.length (.seq true (x / 1000000) 0 fun _=>[])) (x / 1000 % 1000) (.arr true sz [cs.set (x % 1000) (.sn (x / 1000000) s.hp.length 0)])) =
     rdput (rdput (hget s.hp) s.hp.length (.seq true (x / 1000000) 0 fun _=>[])) (x / 1000 % 1000) (.arr true sz [cs.set (x % 1000) (.sn (x / 1000000) s.hp.length 0)]):=funext fun b=>by rw[hget_hput,hg1]
   refine⟨⟨by rw[hg2];exact hw.1,h.fr⟩,fun base=>?_⟩
   rw[hg2]
   exact(hp.2 base).trans (hw.2 base)
  ·exact⟨h,fun _=>Step.refl _ _ _ _ _⟩
 ·exact⟨h,fun _=>Step.refl _ _ _ _ _⟩
theorem seedC_len(x:Nat)(s:St):s.hp.length<=(seedC x s).hp.length:=by
 unfold seedC
 split
 ·split
  ·exact Nat.le_trans (hput_length _ _ _) (hput_length _ _ _)
  ·exact Nat.le_refl _
 ·exact Nat.le_refl _
theorem frzK_ok{r:R}:∀ (l:List Nat) (s:St) (k:St->Option R),frzK l s k=some r -> ∃ s',k s'=some r/\s.hp.length<=s'.hp.length /\ ∀ w I φ a,StOk w I φ s a ->
  ∃ I' φ',StOk w I' φ' s' a /\ ∀ base,base<=s.hp.length->Step base (hget s.hp) φ I w (hget s'.hp) φ' I' w
 | [],s,k,h=>⟨s,h,Nat.le_refl _,fun w I φ a hs=>⟨I,φ,hs,fun base _=>Step.refl _ _ _ _ _⟩⟩
 | t::l,s,k,h=>by
  unfold frzK at h
  cases hsd:!Nat.beq (t / 1000000) 0 with
  | true=>
   rw[hsd,cond_true]at h
   obtain⟨s',h1,h2,h3⟩:=frzK_ok l _ k h
   have hlen:=seedC_len t s
   refine⟨s',h1,Nat.le_trans hlen h2,fun w I φ a hs=>?_⟩
   obtain⟨n1,n2⟩:=seedC_ok t hs
   obtain⟨I2,φ2,m1,m2⟩:=h3 w I φ a n1
   exact⟨I2,φ2,m1,fun base hb=>(n2 base).trans (m2 base (Nat.le_trans hb hlen))⟩
  | false=>
  rw[hsd,cond_false]at h
  split at h
  ·rename_i v bl g hg
   cases g with
   | false=>cases h
   | true=>
    rw[cond_true]at h
    obtain⟨s',h1,h2,h3⟩:=frzK_ok l _ k h
    have hlen:=hputs_length (bl.map fun b=>(b,frozen (hget s.hp b))) s.hp
    refine⟨s',h1,Nat.le_trans hlen h2,fun w I φ a hs=>?_⟩
    obtain⟨I1,φ1,n1,n2⟩:=frz1_ok hs hg
    obtain⟨I2,φ2,m1,m2⟩:=h3 w I1 φ1 a n1
    exact⟨I2,φ2,m1,fun base hb=>(n2 base hb).trans (m2 base (Nat.le_trans hb hlen))⟩
  ·cases h
end Go.AM
end
noncomputable section
set_option linter.unusedVariables false
set_option linter.unusedSimpArgs false
namespace Go.AM
variable {R:Type}
def AX.x:AX->Exit
 | .normal=>.normal
 | .exit id=>.exit id
 | .goto l=>.goto l
 | .ret=>.ret
def Post(nt base:Nat)(s:St)(w:World)(I:Nat->Prop)(φ:Phi)(a:Act)(s':St)(Q:Act->World->Prop):Prop:=
 ∀ a' w' φ' I',nt<=a'.tmps.size->a'.defers=a.defers->StOk w' I' φ' s' a'->Step base (hget s.hp) φ I w (hget s'.hp) φ' I' w'->Q a' w'
def Leads(X:(Exit->Act->World->Prop)->Act->World->Prop)(nt base:Nat)(s:St)(e:AX)(s':St):Prop:=
 base<=s.hp.length->base<=s'.hp.length /\ ∀ w I φ a,StOk w I φ s a->nt<=a.tmps.size -> ∀ Q,Post nt base s w I φ a s' (Q e.x)->X Q a w
theorem Post.after{nt base:Nat}{s s1 s2:St}{w w1:World}{I I1:Nat->Prop}{φ φ1:Phi}{a a1:Act}{Q:Act->World->Prop}(h:Post nt base s w I φ a s2 Q)(hd:a1.defers=a.defers)
  (hs:Step base (hget s.hp) φ I w (hget s1.hp) φ1 I1 w1):Post nt base s1 w1 I1 φ1 a1 s2 Q:=
 fun a' w' φ' I' h1 h2 h3 h4=>h a' w' φ' I' h1 (h2.trans hd) h3 (hs.trans h4)
section
variable {P:Program}
def wpL(P:Program)(c:Code)(Q:Exit->Act->World->Prop)(a:Act)(w:World):Prop:=
 ∀ (b:Frame) (k:List Item) (cs:List Frame),∃ e a' w',Q e a' w'/\Arrives P (lone (b.at a (.code c :: .inLoop c::k)) cs w) b k cs e a' w'
theorem wpL_loop{c:Code}{Q:Exit->Act->World->Prop}{a:Act}{w:World}(h:wpL P c Q a w):(Code.loop c).wp P Q a w:=fun b k cs=>
 let ⟨e,a',w',hq,harr⟩:=h b k cs;⟨e,a',w',hq,.of_steps (.one step_loop) harr⟩
theorem wpL_step{c:Code}{Q:Exit->Act->World->Prop}{a:Act}{w:World}(h:c.wp P (Exit.then (wpL P c Q) Q) a w):wpL P c Q a w:=by
 intro b k cs
 obtain⟨e,a₁,w₁,hq,harr⟩:=h b (.inLoop c::k) cs
 cases e with
 | normal=>
  obtain⟨e₂,a₂,w₂,hq₂,harr₂⟩:=hq b k cs
  exact⟨e₂,a₂,w₂,hq₂,.of_steps (Steps.trans harr (.one step_inLoop)) harr₂⟩
 | exit id=>exact⟨_,a₁,w₁,hq,.pass (x:=.inLoop c) rfl (fun _ _=>.inl (by simp)) harr⟩
 | goto l=>exact⟨_,a₁,w₁,hq,.pass (x:=.inLoop c) rfl (fun _ _=>.inl (by simp)) harr⟩
 | ret=>exact⟨_,a₁,w₁,hq,.pass (x:=.inLoop c) rfl (fun _ _=>.inl (by simp)) harr⟩
 | panic ch=>exact⟨_,a₁,w₁,hq,.pass (x:=.inLoop c) rfl (fun _ _=>.inl (by simp)) harr⟩
 | outgrown=>exact⟨_,a₁,w₁,hq,.pass (x:=.inLoop c) rfl (fun _ _=>.inl (by simp)) harr⟩
def wpS(P:Program)(c rest:Code)(Q:Exit->Act->World->Prop)(a:Act)(w:World):Prop:=
 ∀ (b:Frame) (k:List Item) (cs:List Frame),∃ e a' w',Q e a' w'/\Arrives P (lone (b.at a (.code rest :: .inScope c::k)) cs w) b k cs e a' w'
theorem wpS_scope{c:Code}{Q:Exit->Act->World->Prop}{a:Act}{w:World}(h:wpS P c c Q a w):(Code.scope c).wp P Q a w:=fun b k cs=>
 let ⟨e,a',w',hq,harr⟩:=h b k cs;⟨e,a',w',hq,.of_steps (.one step_scope) harr⟩
def ExitS(P:Program)(c:Code)(Q:Exit->Act->World->Prop):Exit->Act->World->Prop
 | .goto l,a,w=>match findLabel c l with
  | some rest=>wpS P c rest Q a w
  | none=>Q (.goto l) a w
 | e,a,w=>Q e a w
theorem wpS_step{c rest:Code}{Q:Exit->Act->World->Prop}{a:Act}{w:World}(h:rest.wp P (ExitS P c Q) a w):wpS P c rest Q a w:=by
 intro b k cs
 obtain⟨e,a₁,w₁,hq,harr⟩:=h b (.inScope c::k) cs
 cases e with
 | normal=>exact⟨.normal,a₁,w₁,hq,Steps.trans harr (.one step_inScope)⟩
 | exit id=>exact⟨.exit id,a₁,w₁,hq,fun k' hk=>harr k' (by simp[exitTo,hk])⟩
 | goto l=>
  simp only[ExitS]at hq
  cases hf:findLabel c l with
  | none=>
   rw[hf]at hq
   exact⟨.goto l,a₁,w₁,hq,fun k' hk=>harr k' (by simp[gotoIn,hf,hk])⟩
  | some r'=>
   rw[hf]at hq
   obtain⟨e₂,a₂,w₂,hq₂,harr₂⟩:=hq b k cs
   exact⟨e₂,a₂,w₂,hq₂,.of_steps (harr _ (by simp[gotoIn,hf])) harr₂⟩
 | ret=>exact⟨_,a₁,w₁,hq,harr⟩
 | panic ch=>exact⟨_,a₁,w₁,hq,harr⟩
 | outgrown=>exact⟨_,a₁,w₁,hq,harr⟩
theorem fget_map(ρ:Nat->Option Nat)(g:Nat->AV)(t:Nat):∀ live:List Nat,fget (live.map fun t=>(t,ren ρ (g t))) t=ren ρ (g t)\/fget (live.map fun t=>(t,ren ρ (g t))) t=.undef
 | []=>.inr rfl
 | x::r=>by
  simp only[List.map_cons,fget]
  cases h:Nat.beq x t with
  | true=>left;rw[cond_true,Nat.eq_of_beq_eq_true h]
  | false=>rw[cond_false];exact fget_map ρ g t r
theorem norm0_ok{w:World}{I:Nat->Prop}{φ:Phi}{s:St}{a:Act}(base:Nat)(live:List Nat)(h:StOk w I φ s a)(hb:base<=s.hp.length) :
  base<=(norm0 base live s).hp.length /\ ∃ φ',StOk w I φ' (norm0 base live s) a/\Step base (hget s.hp) φ I w (hget (norm0 base live s).hp) φ' I w:=by
 obtain⟨hd,t,ht⟩:=reach_ok (hget s.hp) big ((s.hp.take base).flatMap kids++rootsL (live.map fun t=>fget s.fr t)) (List.range base) (Distinct.range base)
 have hhp:(norm0 base live s).hp=reheap (reach big (hget s.hp) ((s.hp.take base).flatMap kids++rootsL (live.map fun t=>fget s.fr t)) (List.range base)) (hget s.hp):=rfl
 have hfr:(norm0 base live s).fr=live.map fun t=>(t,ren (fun b=>indexOf b (reach big (hget s.hp) ((s.hp.take base).flatMap kids++rootsL (live.map fun t=>fget s.fr t)) (List.range base)) 0) (fget s.fr t)):=rfl
 generalize reach big (hget s.hp) ((s.hp.take base).flatMap kids++rootsL (live.map fun t=>fget s.fr t)) (List.range base)=ids at *
 refine⟨by rw[hhp];simp[reheap,ht],rephi ids φ,⟨by rw[hhp];exact h.hh.renum hd,fun t=>?_⟩,⟨fun b p hb e=>?_,fun _ hB=>hB,fun _ hB=>.inl hB,fun B hB=>.inl ?_,Ext.refl _ _⟩⟩
 ·rw[hfr]
  rcases fget_map (fun b=>indexOf b ids 0) (fget s.fr) t live with e | e
  ·rw[e];exact(h.fr t).ren fun b b'=>rephi_ren b b'
  ·rw[e];exact .undef _
 ·have:ids[b]? = some b:=by
   rw[ht,List.getElem?_append_left (by simpa using hb),List.getElem?_range hb]
  simp[rephi,this,e]
 ·rw[hhp]at hB;exact mut_renum hB
theorem seqB_arr(m:Bool)(sz:Nat)(es:List (List AV)):seqB (.arr m sz es)=bif es.all (fun cs=>cs.all refFree)then .seq m sz es.length (fun i=>es.getD i (es.getD 0 []))else .arr m sz es:=rfl
theorem seqB_mut(x:BS):mutable (seqB x)=mutable x:=by
 cases x with
 | arr m sz es=>rw[seqB_arr];cases es.all (fun cs=>cs.all refFree) <;> rfl
 | map m es=>cases es <;> rfl
 | _=>rfl
theorem seqB_live(x:BS):live (seqB x)=live x:=by
 cases x with
 | arr m sz es=>rw[seqB_arr];cases es.all (fun cs=>cs.all refFree) <;> rfl
 | map m es=>cases es <;> rfl
 | _=>rfl
theorem phantom_seqB{x:BS}(h:phantom x):phantom (seqB x):=by
 cases x <;> first | exact h | exact h.elim
theorem seqB_none{x:BS}(h:seqB x=.none):x=.none:=by
 cases x with
 | arr m sz es=>rw[seqB_arr]at h;cases hc:es.all (fun cs=>cs.all refFree) <;> rw[hc]at h <;> cases h
 | map m es=>cases es <;> cases h
 | none=>rfl
 | _=>cases h
theorem seqB_rb{w:World}{I:Nat->Prop}{φ:Phi}{B o sz:Nat}{x:BS}(h:RB w I φ B o sz x):RB w I φ B o sz (seqB x):=by
 cases x <;> try exact h
 case map m es=>
  cases es with
  | cons p r=>exact h
  | nil=>
   obtain⟨h1,h2,mes,clock,h3,h4,_,h6⟩:=h
   have e0:∀ (i:Nat),mes[i]? = none:=fun i=>Array.getElem?_eq_none (by simp at h4;simp[h4])
   exact⟨h1,h2,mes,clock,h3,h4,fun i s e a=>by simp at a,fun i e a=>(by rw[e0]at a;cases a),fun i j e e' _ a=>(by rw[e0]at a;cases a),fun i j s a=>by simp at a⟩
 rename_i m s es
 rw[seqB_arr]
 cases hc:es.all (fun cs=>cs.all refFree)with
 | false=>exact h
 | true=>
  obtain⟨h1,h2,h3,h4⟩:=h
  have at':∀ i,i<es.length->es[i]? = some (es.getD i (es.getD 0 [])):=fun i hi=>by simp[List.getD,List.getElem?_eq_getElem hi]
  refine⟨h1,h2,fun i hi=>h3 i _ (at' i hi),fun i k c hi hk=>?_⟩
  obtain⟨u,g1,g2,g3⟩:=h4 i _ k c (at' i hi) hk
  have hf:=List.all_eq_true.1 hc _ (List.mem_of_getElem? (at' i hi))
  exact⟨u,g1,g2,g3.free (List.all_eq_true.1 hf _ (List.mem_of_getElem? hk))⟩
theorem modS_get:∀ (k:Nat) (h:Heap) (b:Nat),hget (modS k h) b=hget h b\/hget (modS k h) b=seqB (hget h b)
 | k,[],b=>by cases k <;> exact .inl rfl
 | 0,x::r,0=>.inr rfl
 | 0,x::r,b+1=>.inl rfl
 | k+1,x::r,0=>.inl rfl
 | k+1,x::r,b+1=>modS_get k r b
theorem modS_len:∀ (k:Nat) (h:Heap),(modS k h).length=h.length
 | k,[]=>by cases k <;> rfl
 | 0,x::r=>rfl
 | k+1,x::r=>by simp[modS,modS_len k r]
theorem modS_rh{w:World}{I:Nat->Prop}{φ:Phi}{h:Heap}(k:Nat)(hh:RH w I φ (hget h)):RH w I φ (hget (modS k h)):=by
 have hm:∀ b,mutable (hget (modS k h) b)=mutable (hget h b):=fun b=>by
  rcases modS_get k h b with e | e <;> rw[e]
  exact seqB_mut _
 have hl:∀ b,live (hget (modS k h) b)=live (hget h b):=fun b=>by
  rcases modS_get k h b with e | e <;> rw[e]
  exact seqB_live _
 refine⟨fun b e=>hh.none b ?_,fun b e=>?_,fun b b' B o sz o' sz' e e'=>hh.inj b b' B o sz o' sz' (by rw[<- hm];exact e) (by rw[<- hm];exact e'),fun b B o sz e=>hh.disj b B o sz (by rw[<- hm];exact e),fun b B o sz e e'=>hh.imm b B o sz (by rw[<- hl];exact e) (by rw[<- hm];exact e'),hh.lt⟩
 ·rcases modS_get k h b with e' | e'
  ·rw[<- e'];exact e
  ·rw[e']at e;exact seqB_none e
 ·rw[hl]at e
  rcases hh.blk b e with ⟨B,o,sz,e1,r⟩ | ⟨e1,hp⟩
  ·refine .inl ⟨B,o,sz,e1,?_⟩
   rcases modS_get k h b with e' | e' <;> rw[e']
   ·exact r
   ·exact seqB_rb r
  ·refine .inr ⟨e1,?_⟩
   rcases modS_get k h b with e' | e' <;> rw[e']
   ·exact hp
   ·exact phantom_seqB hp
theorem modS_mut{φ:Phi}{h:Heap}{k B:Nat}(hm:Mut φ (hget (modS k h)) B):Mut φ (hget h) B:=by
 obtain⟨b,o,sz,e,e'⟩:=hm
 refine⟨b,o,sz,?_,e'⟩
 rcases modS_get k h b with e2 | e2
 ·rw[<- e2];exact e
 ·rw[e2,seqB_mut]at e;exact e
theorem seqs_ok{w:World}{I:Nat->Prop}{φ:Phi}:∀ (l:List Nat) (h:Heap),RH w I φ (hget h)->RH w I φ (hget (seqs l h))/\(seqs l h).length=h.length /\ ∀ B,Mut φ (hget (seqs l h)) B->Mut φ (hget h) B
 | [],h,hh=>⟨hh,rfl,fun _ e=>e⟩
 | t::r,h,hh=>by
  unfold seqs
  cases Nat.beq (t / 1000) 0 with
  | true=>exact seqs_ok r h hh
  | false=>
   simp only[cond_false]
   obtain⟨h1,h2,h3⟩:=seqs_ok r (modS (t % 1000) h) (modS_rh _ hh)
   exact⟨h1,h2.trans (modS_len _ _),fun B hB=>modS_mut (h3 B hB)⟩
theorem norm1_ok{w:World}{I:Nat->Prop}{φ:Phi}{s:St}{a:Act}(base:Nat)(live:List Nat)(h:StOk w I φ s a)(hb:base<=s.hp.length) :
  base<=(norm1 base live s).hp.length /\ ∃ φ',StOk w I φ' (norm1 base live s) a/\Step base (hget s.hp) φ I w (hget (norm1 base live s).hp) φ' I w:=by
 obtain⟨h1,φ',h2,h3⟩:=norm0_ok base live h hb
 obtain⟨g1,g2,g3⟩:=seqs_ok live (norm0 base live s).hp h2.hh
 refine⟨by show base<=(seqs live (norm0 base live s).hp).length;rw[g2];exact h1,φ',⟨g1,h2.fr⟩,⟨h3.le,h3.Ile,h3.Inew,fun B hB=>h3.mt B (g3 B hB),h3.ext⟩⟩
theorem norm_ok{w:World}{I:Nat->Prop}{φ:Phi}{s:St}{a:Act}(base:Nat)(live:List Nat)(h:StOk w I φ s a)(hb:base<=s.hp.length) :
  base<=(norm base live s).hp.length /\ ∃ φ',StOk w I φ' (norm base live s) a/\Step base (hget s.hp) φ I w (hget (norm base live s).hp) φ' I w:=by
 obtain⟨h1,h2,h3⟩:=seedL_ok live s h
 obtain⟨g1,φ',g2,g3⟩:=norm1_ok base live h1 (Nat.le_trans hb h2)
 exact⟨g1,φ',g2,(h3 base).trans g3⟩
end
section
variable {P:Program} {env:Env} {run:CallK R} {r:R} {nt n base fn:Nat}
def JumpOk(P:Program)(nt base:Nat)(jump:Code->Nat->CodeK R):Prop:=
 ∀ a l k s r,okCode a=true->jump a l k s=some r -> ∃ rest e s',findLabel a l=some rest/\k e s'=some r/\Leads (wpS P a rest) nt base s e s'
theorem norm0_base{base:Nat}{live:List Nat}{s:St}(hb:base<=s.hp.length):base<=(norm0 base live s).hp.length:=by
 obtain⟨_,t,ht⟩:=reach_ok (hget s.hp) big ((s.hp.take base).flatMap kids++rootsL (live.map fun t=>fget s.fr t)) (List.range base) (Distinct.range base)
 show base<=(reheap (reach big (hget s.hp) ((s.hp.take base).flatMap kids++rootsL (live.map fun t=>fget s.fr t)) (List.range base)) (hget s.hp)).length
 rw[ht];simp[reheap]
theorem seqs_len:∀ (l:List Nat) (h:Heap),(seqs l h).length=h.length
 | [],h=>rfl
 | t::r,h=>by
  unfold seqs
  cases Nat.beq (t / 1000) 0 with
  | true=>exact seqs_len r h
  | false=>simp only[cond_false];exact(seqs_len r _).trans (modS_len _ _)
theorem norm_base{base:Nat}{live:List Nat}{s:St}(hb:base<=s.hp.length):base<=(norm base live s).hp.length:=by
 show base<=(seqs live (norm0 base live (seedL live s)).hp).length
 rw[seqs_len];exact norm0_base (Nat.le_trans hb (seedL_len live s))
theorem scope_exit{jump:Code->Nat->CodeK R}(hj:JumpOk P nt base jump){x:Code}(hok:okCode x=true){e1:AX}{s1:St}{k:AX->St->Option R}
  (h:(match e1 with
   | .goto l=>match findLabel x l with
    | some _=>jump x l k (norm base (env.live fn (1000+l)) s1)
    | .none=>k (.goto l) s1
   | e=>k e s1)=some r) :
  ∃ e s',k e s'=some r/\(base<=s1.hp.length->base<=s'.hp.length /\ ∀ w I φ a,StOk w I φ s1 a->nt<=a.tmps.size -> ∀ Q,Post nt base s1 w I φ a s' (Q e.x)->ExitS P x Q e1.x a w):=by
 cases e1 with
 | goto l=>
  simp only at h
  cases hf:findLabel x l with
  | none=>
   rw[hf]at h
   refine⟨_,s1,h,fun hb=>⟨hb,fun w I φ a hs ha Q hQ=>?_⟩⟩
   simp only[AX.x,ExitS,hf]
   exact hQ a w φ I ha rfl hs (Step.refl _ _ _ _ _)
  | some rest=>
   rw[hf]at h
   obtain⟨rest',e,s',h1,h2,h3⟩:=hj _ _ _ _ _ hok h
   rw[hf]at h1;cases h1
   refine⟨e,s',h2,fun hb=>⟨(h3 (norm_base hb)).1,fun w I φ a hs ha Q hQ=>?_⟩⟩
   simp only[AX.x,ExitS,hf]
   obtain⟨n1,φ1,n2,n3⟩:=norm_ok base (env.live fn (1000+l)) hs hb
   exact(h3 n1).2 w I φ1 a n2 ha Q (hQ.after rfl n3)
 | normal=>exact⟨_,s1,h,fun hb=>⟨hb,fun w I φ a hs ha Q hQ=>hQ a w φ I ha rfl hs (Step.refl _ _ _ _ _)⟩⟩
 | exit id=>exact⟨_,s1,h,fun hb=>⟨hb,fun w I φ a hs ha Q hQ=>hQ a w φ I ha rfl hs (Step.refl _ _ _ _ _)⟩⟩
 | ret=>exact⟨_,s1,h,fun hb=>⟨hb,fun w I φ a hs ha Q hQ=>hQ a w φ I ha rfl hs (Step.refl _ _ _ _ _)⟩⟩
theorem okCode_find:∀ {c rest:Code} {l:Nat},okCode c=true->findLabel c l=some rest->okCode rest=true:=by
 intro c
 induction c with
 | seq a b iha ihb=>
  intro rest l hok h
  obtain⟨h1,h2⟩:=and_true' (show(okCode a&&okCode b)=true from hok)
  unfold findLabel at h
  split at h
  ·rename_i rest' hr
   cases h
   show(okCode rest'&&okCode b)=true
   rw[iha h1 hr,h2];rfl
  ·exact ihb h2 h
 | label l'=>
  intro rest l _ h
  unfold findLabel at h
  split at h
  ·cases h;rfl
  ·cases h
 | _=>intro rest l _ h;simp[findLabel]at h
theorem evC1_ok(henv:EnvOk P env)(hrun:RunOk P run)(hm:P.follows .mixedOrders=true){jump:Code->Nat->CodeK R}(hj:JumpOk P nt base jump):∀ (c:Code) (cur:Nat) (k:AX->St->Option R) (s:St) (r:R),okCode c=true ->
  evC1 env run fn nt n base jump cur c k s=some r -> ∃ e s',k e s'=some r/\Leads (fun Q=>c.wp P Q) nt base s e s':=by
 intro c
 induction c with
 | skip=>
  intro cur k s r _ h
  exact⟨.normal,s,h,fun hb=>⟨hb,fun w I φ a hs ha Q hQ=>wp_skip (hQ a w φ I ha rfl hs (Step.refl _ _ _ _ _))⟩⟩
 | region id ops draw=>
  intro cur k s r hok h
  unfold evC1 at h
  obtain⟨s0,g1,g2,g3⟩:=frzK_ok _ _ _ h
  obtain⟨s',h1,h2,h3⟩:=region_ok henv hrun hm (id:=id) hok g1
  refine⟨.normal,s',h1,fun hb=>⟨Nat.le_trans hb (Nat.le_trans g2 h2),fun w I φ a hs ha Q hQ=>?_⟩⟩
  obtain⟨I1,φ1,n1,n2⟩:=g3 w I φ a hs
  exact h3 w I1 φ1 a n1 ha Q fun a' w' φ' I' c1 c2 c3 c4=>(hQ.after rfl (n2 base hb)) a' w' φ' I' c1 c2 c3 (c4 base (Nat.le_trans hb g2))
 | seq x y ihx ihy=>
  intro cur k s r hok h
  obtain⟨hok1,hok2⟩:=and_true' (show(okCode x&&okCode y)=true from hok)
  unfold evC1 at h
  obtain⟨e1,s1,h1,h2⟩:=ihx _ _ _ _ hok1 h
  cases e1 with
  | normal=>
   obtain⟨e2,s2,h3,h4⟩:=ihy _ _ _ _ hok2 h1
   refine⟨e2,s2,h3,fun hb=>?_⟩
   obtain⟨g1,g2⟩:=h2 hb
   obtain⟨g3,g4⟩:=h4 g1
   refine⟨g3,fun w I φ a hs ha Q hQ=>wp_seq (g2 w I φ a hs ha _ fun a' w' φ' I' c1 c2 c3 c4=>?_)⟩
   exact g4 w' I' φ' a' c3 c1 Q (hQ.after c2 c4)
  | exit id=>exact⟨_,s1,h1,fun hb=>⟨(h2 hb).1,fun w I φ a hs ha Q hQ=>wp_seq ((h2 hb).2 w I φ a hs ha _ hQ)⟩⟩
  | goto l=>exact⟨_,s1,h1,fun hb=>⟨(h2 hb).1,fun w I φ a hs ha Q hQ=>wp_seq ((h2 hb).2 w I φ a hs ha _ hQ)⟩⟩
  | ret=>exact⟨_,s1,h1,fun hb=>⟨(h2 hb).1,fun w I φ a hs ha Q hQ=>wp_seq ((h2 hb).2 w I φ a hs ha _ hQ)⟩⟩
 | cond c x y ihx ihy=>
  intro cur k s r hok h
  obtain⟨hok1,hok2⟩:=and_true' (show(okCode x&&okCode y)=true from hok)
  unfold evC1 at h
  split at h
  ·rename_i b hb
   have hev:∀ {w I φ a},StOk w I φ s a->a.eval c=.bool b:=by
    intro w I φ a hs
    have:=hs.fr.eval c
    rw[hb]at this
    generalize a.eval c=u at this
    cases this;rfl
   cases b with
   | true=>
    obtain⟨e,s',h1,h2⟩:=ihx _ _ _ _ hok1 h
    exact⟨e,s',h1,fun hb=>⟨(h2 hb).1,fun w I φ a hs ha Q hQ=>wp_cond (hev hs) ((h2 hb).2 w I φ a hs ha Q hQ)⟩⟩
   | false=>
    obtain⟨e,s',h1,h2⟩:=ihy _ _ _ _ hok2 h
    exact⟨e,s',h1,fun hb=>⟨(h2 hb).1,fun w I φ a hs ha Q hQ=>wp_cond (hev hs) ((h2 hb).2 w I φ a hs ha Q hQ)⟩⟩
  ·cases h
 | block id x ih=>
  intro cur k s r hok h
  unfold evC1 at h
  obtain⟨e1,s1,h1,h2⟩:=ih _ _ _ _ hok h
  cases e1 with
  | exit id'=>
   simp only at h1
   cases hid:Nat.beq id' id with
   | true=>
    rw[hid,cond_true]at h1
    have hid:=Nat.eq_of_beq_eq_true hid
    subst hid
    refine⟨.normal,s1,h1,fun hb=>⟨(h2 hb).1,fun w I φ a hs ha Q hQ=>wp_block ((h2 hb).2 w I φ a hs ha _ fun a' w' φ' I' c1 c2 c3 c4=>?_)⟩⟩
    simp only[AX.x,Exit.inBlock,if_true]
    exact hQ a' w' φ' I' c1 c2 c3 c4
   | false=>
    rw[hid,cond_false]at h1
    have hne:id' ≠ id:=fun e=>by subst e;simp at hid
    refine⟨.exit id',s1,h1,fun hb=>⟨(h2 hb).1,fun w I φ a hs ha Q hQ=>wp_block ((h2 hb).2 w I φ a hs ha _ fun a' w' φ' I' c1 c2 c3 c4=>?_)⟩⟩
    simp only[AX.x,Exit.inBlock,if_neg hne]
    exact hQ a' w' φ' I' c1 c2 c3 c4
  | normal=>exact⟨_,s1,h1,fun hb=>⟨(h2 hb).1,fun w I φ a hs ha Q hQ=>wp_block ((h2 hb).2 w I φ a hs ha _ hQ)⟩⟩
  | goto l=>exact⟨_,s1,h1,fun hb=>⟨(h2 hb).1,fun w I φ a hs ha Q hQ=>wp_block ((h2 hb).2 w I φ a hs ha _ hQ)⟩⟩
  | ret=>exact⟨_,s1,h1,fun hb=>⟨(h2 hb).1,fun w I φ a hs ha Q hQ=>wp_block ((h2 hb).2 w I φ a hs ha _ hQ)⟩⟩
 | loop x ih=>
  intro cur k s r hok h
  unfold evC1 at h
  have key:∀ m k s r,loopK (norm base (env.live fn cur)) (evC1 env run fn nt n base jump cur x) m k s=some r -> ∃ e s',k e s'=some r/\Leads (wpL P x) nt base s e s':=by
   intro m
   induction m with
   | zero=>intro k s r h;cases h
   | succ m ihm=>
    intro k s r h
    unfold loopK at h
    obtain⟨e1,s1,h1,h2⟩:=ih _ _ _ _ hok h
    have main:∀ (e:AX) (s':St),(base<=s1.hp.length->base<=s'.hp.length)->(base<=s1.hp.length -> ∀ w I φ a,StOk w I φ s1 a->nt<=a.tmps.size -> ∀ Q,Post nt base s1 w I φ a s' (Q e.x)->Exit.then (wpL P x Q) Q e1.x a w)->Leads (wpL P x) nt base s e s':=by
     intro e s' hl hx hb
     refine⟨hl (h2 hb).1,fun w I φ a hs ha Q hQ=>wpL_step ?_⟩
     exact(h2 hb).2 w I φ a hs ha _ fun a' w' φ' I' c1 c2 c3 c4=>hx (h2 hb).1 w' I' φ' a' c3 c1 Q (hQ.after c2 c4)
    cases e1 with
    | normal=>
     obtain⟨e2,s2,h3,h4⟩:=ihm _ _ _ h1
     refine⟨e2,s2,h3,main e2 s2 (fun hb=>(h4 (norm_base hb)).1) fun hb w I φ a hs ha Q hQ=>?_⟩
     obtain⟨n1,φ1,n2,n3⟩:=norm_ok base (env.live fn cur) hs hb
     exact(h4 n1).2 w I φ1 a n2 ha Q (hQ.after rfl n3)
    | exit id=>exact⟨_,s1,h1,main _ s1 (fun x=>x) fun hb w I φ a hs ha Q hQ=>hQ a w φ I ha rfl hs (Step.refl _ _ _ _ _)⟩
    | goto l=>exact⟨_,s1,h1,main _ s1 (fun x=>x) fun hb w I φ a hs ha Q hQ=>hQ a w φ I ha rfl hs (Step.refl _ _ _ _ _)⟩
    | ret=>exact⟨_,s1,h1,main _ s1 (fun x=>x) fun hb w I φ a hs ha Q hQ=>hQ a w φ I ha rfl hs (Step.refl _ _ _ _ _)⟩
  obtain⟨e,s',h1,h2⟩:=key n k _ r h
  refine⟨e,s',h1,fun hb=>⟨(h2 (norm_base hb)).1,fun w I φ a hs ha Q hQ=>wpL_loop ?_⟩⟩
  obtain⟨n1,φ1,n2,n3⟩:=norm_ok base (env.live fn cur) hs hb
  exact(h2 n1).2 w I φ1 a n2 ha Q (hQ.after rfl n3)
 | exit id=>
  intro cur k s r _ h
  exact⟨.exit id,s,h,fun hb=>⟨hb,fun w I φ a hs ha Q hQ=>wp_exit (hQ a w φ I ha rfl hs (Step.refl _ _ _ _ _))⟩⟩
 | label l=>
  intro cur k s r _ h
  exact⟨.normal,s,h,fun hb=>⟨hb,fun w I φ a hs ha Q hQ=>wp_label (hQ a w φ I ha rfl hs (Step.refl _ _ _ _ _))⟩⟩
 | goto l=>
  intro cur k s r _ h
  exact⟨.goto l,s,h,fun hb=>⟨hb,fun w I φ a hs ha Q hQ=>wp_goto (hQ a w φ I ha rfl hs (Step.refl _ _ _ _ _))⟩⟩
 | ret=>
  intro cur k s r _ h
  exact⟨.ret,s,h,fun hb=>⟨hb,fun w I φ a hs ha Q hQ=>wp_ret (hQ a w φ I ha rfl hs (Step.refl _ _ _ _ _))⟩⟩
 | scope x ih=>
  intro cur k s r hok h
  unfold evC1 at h
  obtain⟨e1,s1,h1,h2⟩:=ih _ _ _ _ hok h
  obtain⟨e,s',g1,g2⟩:=scope_exit (P:=P) (env:=env) (fn:=fn) hj hok (k:=k) (r:=r) (x:=x) (e1:=e1) (s1:=s1) (by cases e1 <;> exact h1)
  exact⟨e,s',g1,fun hb=>⟨((g2 (h2 hb).1)).1,fun w I φ a hs ha Q hQ=>wpS_scope (wpS_step ((h2 hb).2 w I φ a hs ha _ fun a' w' φ' I' c1 c2 c3 c4=>(g2 (h2 hb).1).2 w' I' φ' a' c3 c1 Q (hQ.after c2 c4)))⟩⟩
 | rangeFunc f p a b=>intro cur k s r _ h;simp[evC1]at h
 | refuse why=>intro cur k s r _ h;simp[evC1]at h
theorem jumpK_ok(henv:EnvOk P env)(hrun:RunOk P run)(hm:P.follows .mixedOrders=true):∀ m,JumpOk P nt base (jumpK env run fn nt n base m):=by
 intro m
 induction m with
 | zero=>intro a l k s r _ h;cases h
 | succ m ih=>
  intro a l k s r hok h
  unfold jumpK at h
  cases hf:findLabel a l with
  | none=>rw[hf]at h;cases h
  | some rest=>
   rw[hf]at h
   obtain⟨e1,s1,h1,h2⟩:=evC1_ok henv hrun hm ih rest 0 _ _ _ (okCode_find hok hf) h
   obtain⟨e,s',g1,g2⟩:=scope_exit (P:=P) (env:=env) (fn:=fn) ih hok (k:=k) (r:=r) (x:=a) (e1:=e1) (s1:=s1) (by cases e1 <;> exact h1)
   exact⟨rest,e,s',rfl,g1,fun hb=>⟨((g2 (h2 hb).1)).1,fun w I φ a hs ha Q hQ=>wpS_step ((h2 hb).2 w I φ a hs ha _ fun a' w' φ' I' c1 c2 c3 c4=>(g2 (h2 hb).1).2 w' I' φ' a' c3 c1 Q (hQ.after c2 c4))⟩⟩
theorem evC_ok(henv:EnvOk P env)(hrun:RunOk P run)(hm:P.follows .mixedOrders=true){c:Code}{cur:Nat}{k:AX->St->Option R}{s:St}{r:R}(hok:okCode c=true)
  (h:evC env run fn nt n base cur c k s=some r):∃ e s',k e s'=some r/\Leads (fun Q=>c.wp P Q) nt base s e s':=
 evC1_ok henv hrun hm (jumpK_ok henv hrun hm n) c cur k s r hok h
end
end Go.AM
end
noncomputable section
set_option linter.unusedVariables false
set_option linter.unusedSimpArgs false
namespace Go.AM
variable {R:Type}
def CodeOk (P : Program) (env : Env) : Prop := ∀ f fn, env.code f = some fn → P.funcs[f]? = some fn ∧ fn.body.isNone = false ∧ (fn.name == "runtime.NumGoroutine") = false ∧ ∀ c, fn.body = some c → okCode c = true
section
variable {P:Program} {env:Env} {run:CallK R} {r:R}
theorem fget_mkFrame:∀ (l:List AV) (i t:Nat),fget (mkFrame i l) t=if i<=t then l.getD (t - i) .undef else .undef
 | [],i,t=>by simp[mkFrame,fget]
 | v::l,i,t=>by
  simp only[mkFrame,fget]
  cases h:Nat.beq i t with
  | true=>have:=Nat.eq_of_beq_eq_true h;subst this;simp
  | false=>
   have hne:i ≠ t:=fun e=>by subst e;simp at h
   rw[cond_false,fget_mkFrame l (i+1) t]
   by_cases h1:i+1<=t
   ·rw[if_pos h1,if_pos (by omega)]
    have:t - i=(t - (i+1))+1:=by omega
    rw[this];simp
   ·rw[if_neg h1,if_neg (by omega)]
theorem frame_ok{w:World}{I:Nat->Prop}{φ:Phi}{args:List AV}{ra:Array Value}(h:RVs w I φ args ra)(n:Nat) :
  FrOk w I φ (fget (mkFrame 0 args)) {tmps:=ra++Array.replicate n undef,defers:=[]}:=by
 intro t
 rw[fget_mkFrame,if_pos (Nat.zero_le _),Nat.sub_zero]
 simp only[Act.eval,Array.getD_eq_getD_getElem?,List.getD]
 cases e:args[t]? with
 | none=>exact .undef _
 | some x=>
  have ht:t<args.length:=by
   rcases Nat.lt_or_ge t args.length with h' | h'
   ·exact h'
   ·rw[List.getElem?_eq_none h']at e;cases e
  rw[h.1]at ht
  rw[Array.getElem?_append_left ht,Array.getElem?_eq_getElem ht]
  exact h.2 t x _ e (Array.getElem?_eq_getElem ht)
theorem results_ok(htt:TTok P env.tt){s:St}:∀ (l:List ResultVar) (k:List AV->Option R),resultsK env.tt s l k=some r ->
  ∃ vs,k vs=some r /\ ∀ w I φ a,StOk w I φ s a -> ∃ us:List Value,(l.mapM (m:=Sem) fun | .tmp t=>pure (a.tmps.getD t undef) | .cell x t=>do loadVar t (<- asAddr (a.tmps.getD x undef))).run P w=.ok us w /\
   vs.length=us.length /\ ∀ (i:Nat) x u,vs[i]? = some x->us[i]? = some u->RV w I φ x u:=by
 intro l
 induction l with
 | nil=>intro k h;exact⟨[],h,fun w I φ a hs=>⟨[],rfl,rfl,fun i x u e=>by simp at e⟩⟩
 | cons v l ih=>
  intro k h
  cases v with
  | tmp t=>
   unfold resultsK at h
   obtain⟨vs,h1,h2⟩:=ih _ h
   refine⟨_,h1,fun w I φ a hs=>?_⟩
   obtain⟨us,g1,g2,g3⟩:=h2 w I φ a hs
   refine⟨a.tmps.getD t undef::us,by simp only[List.mapM_cons,Sem.run_bind,Sem.run_pure,Result.andThen_ok,g1],by simp[g2],fun i x u e e'=>?_⟩
   cases i with
   | zero=>simp at e e';subst e;subst e';have:=hs.fr t;simpa [Act.eval] using this
   | succ i=>simp at e e';exact g3 i x u e e'
  | cell x t=>
   unfold resultsK at h
   obtain⟨ti,hti,h⟩:=onK_some h
   split at h
   ·rename_i b i j hp
    obtain⟨cs,h1,h2⟩:=elemK_inv h
    obtain⟨v,h3,h4⟩:=partK_inv h1
    obtain⟨vs,h5,h6⟩:=ih _ h3
    refine⟨_,h5,fun w I φ a hs=>?_⟩
    obtain⟨us,g1,g2,g3⟩:=h6 w I φ a hs
    have hv:=hs.fr x
    rw[hp]at hv
    simp only[Act.eval]at hv
    generalize hu:a.tmps.getD x undef=u at hv
    cases hv with
    | ptr _ B o sz _ _ q hφ hq=>
     have hlive:live (hget s.hp b)=true:=by
      cases hrb:hget s.hp b <;> first | rfl | (rw[hrb]at h;simp[elemK]at h)
     obtain⟨B',o',sz',e,hrb⟩:=hs.hh.blkO hφ hlive
     rw[hφ]at e;cases e
     obtain⟨cs',e,hc⟩:=elem_ok hrb (h2 (R':=List AV) some)
     cases e
     obtain⟨v',u',e',hl,hv⟩:=load_ok (htt t ti hti) hc (h4 (R':=AV) some)
     cases e'
     rw[<- hq]at hl
     refine⟨u'::us,?_,by simp[g2],fun i x u e e'=>?_⟩
     ·have ha:(asAddr (a.tmps.getD x undef)).run P w=.ok ⟨B,q,none⟩ w:=by rw[hu];rfl
      simp only[List.mapM_cons,Sem.run_bind,ha,Sem.run_pure,Result.andThen_ok,hl,g1]
     ·cases i with
      | zero=>simp at e e';subst e;subst e';exact hv
      | succ i=>simp at e e';exact g3 i x u e e'
   ·cases h
theorem body_ok(henv:EnvOk P env)(hcode:CodeOk P env)(hrun:RunOk P run)(hm:P.follows .mixedOrders=true)(n:Nat):RunOk P (runBody env run n):=by
 intro f args hp k r h
 unfold runBody at h
 cases hf:env.code f with
 | none=>rw[hf]at h;cases h
 | some fn=>
  rw[hf]at h
  simp only at h
  obtain⟨hfn,hbody,hname,hok⟩:=hcode f fn hf
  cases hb:fn.body with
  | none=>rw[hb]at h;cases h
  | some c=>
   rw[hb]at h
   simp only at h
   obtain⟨e,s',h1,h2⟩:=evC_ok henv hrun hm (hok c hb) h
   obtain⟨g1,g2⟩:=h2 (Nat.le_refl _)
   have key:(e=.normal\/e=.ret)/\resultsK env.tt s' fn.results.toList (fun vs=>k (tupled vs) s'.hp)=some r:=by
    cases e with
    | normal=>exact⟨.inl rfl,h1⟩
    | ret=>exact⟨.inr rfl,h1⟩
    | exit id=>cases h1
    | goto l=>cases h1
   obtain⟨he,h3⟩:=key
   obtain⟨vs,h4,h5⟩:=results_ok henv.tt _ _ h3
   refine⟨tupled vs,s'.hp,h4,g1,fun w I φ ra hh hx=>.inl ⟨?_,calls_of_wp hfn hb ?_⟩⟩
   ·simp only[callFunc,Sem.run_bind,run_program,Result.andThen_ok,hfn,hname,hbody,Bool.false_eq_true,if_false,Sem.run_pure]
   ·have hst:StOk w I φ {fr:=mkFrame 0 args,hp:=hp} {tmps:=ra++Array.replicate (fn.ntmps - ra.size) undef,defers:=[]}:=⟨hh,frame_ok hx _⟩
    refine g2 w I φ _ hst (by simp;omega) _ fun a' w' φ' I' c1 c2 c3 c4=>?_
    obtain⟨us,d1,d2,d3⟩:=h5 w' I' φ' a' c3
    have hres:(results fn a'.tmps).run P w'=.ok (if h:us.toArray.size=1 then us.toArray[0]else .tuple us.toArray) w':=by
     unfold results
     rw[Array.mapM_eq_mapM_toList]
     simp only[map_eq_pure_bind,bind_assoc,pure_bind,Sem.run_bind]
     exact(congrArg (fun(x:Result (List Value))=>x.andThen fun us w=>(pure (if h:us.toArray.size=1 then us.toArray[0]else Value.tuple us.toArray):Sem Value).run P w) d1)
    have hfin:bodyPost P fn (fun e w'=>∃ u,e=.returned u /\ ∃ φ' I',RV w' I' φ' (tupled vs) u/\RH w' I' φ' (hget s'.hp)/\Step hp.length (hget hp) φ I w (hget s'.hp) φ' I' w') .normal a' w':=by
     refine⟨c2,_,hres,_,rfl,φ',I',?_,c3.hh,c4⟩
     have htup:us.length ≠ 1->RV w' I' φ' (.tup vs) (if h:us.toArray.size=1 then us.toArray[0]else .tuple us.toArray):=by
      intro hne
      rw[dif_neg (by simpa using hne)]
      exact .tup _ _ (by simpa using d2) fun i x u e e'=>d3 i x u e (by simpa using e')
     cases vs with
     | nil=>exact htup (by simp at d2;omega)
     | cons v l=>
      cases l with
      | nil=>
       cases us with
       | nil=>simp at d2
       | cons u us=>
        cases us with
        | nil=>exact d3 0 v u rfl rfl
        | cons u' us=>simp at d2
      | cons v' l=>exact htup (by simp at d2;omega)
    rcases he with rfl | rfl
    ·exact hfin
    ·exact hfin
theorem ev_ok(henv:EnvOk P env)(hcode:CodeOk P env)(hm:P.follows .mixedOrders=true):∀ n,RunOk (R:=R) P (evFn env n):=by
 intro n
 induction n with
 | zero=>intro f args hp k r h;cases h
 | succ n ih=>exact body_ok henv hcode ih hm n
end
end Go.AM
end
noncomputable section
set_option linter.unusedVariables false
set_option linter.unusedSimpArgs false
namespace Go.AM
open Go.ChangeShapes Go.Deep
def ShapeFs(S:TypeId->List AV->Prop):List Field->List AV->Prop
 | [],cs=>cs=[]
 | f::r,cs=>∃ a b,cs=a++b/\S f.type a/\ShapeFs S r b
def Shape(P:Program):Nat->TypeId->List AV->Prop
 | 0,_,_=>False
 | n+1,t,cs=>match P.underlying t with
  | some .bool=>∃ b,cs=[.bool b]
  | some (.int k)=>∃ i,cs=[.int k i]/\k.min<=i/\i<=k.max
  | some .string=>∃ s,cs=[.str s]/\s.length<=maxLen
  | some (.slice e)=>cs=[.nils] \/ ∃ es,cs=[.trl (P.cellsOf e) es]/\es.length<=maxLen /\ ∀ c ∈ es,Shape P n e c
  | some (.struct fs)=>ShapeFs (Shape P n) fs.toList cs
  | _=>False
def contig(P:Program)(G:TypeId->Bool):List Field->Nat->Nat->Bool
 | [],off,n=>Nat.beq off n
 | f::r,off,n=>Nat.beq f.offset off&&(G f.type&&contig P G r (off+P.cellsOf f.type) n)
def goodT(P:Program):Nat->TypeId->Bool
 | 0,_=>false
 | n+1,t=>match P.underlying t with
  | some .bool | some (.int _) | some .string=>Nat.beq (P.cellsOf t) 1
  | some (.slice e)=>Nat.beq (P.cellsOf t) 1&&(Nat.ble 1 (P.cellsOf e)&&goodT P n e)
  | some (.struct fs)=>contig P (goodT P n) fs.toList 0 (P.cellsOf t)
  | _=>false
section
variable {H:Type} {enc:TypeId × Value->H} {P:Program} {w:World} {base:Nat} {held:Bool} {I:Nat->Prop}
def ReadAs(w:World)(I:Nat->Prop)(av:List AV)(cs:List Value):Prop:=
 av.length=cs.length /\ ∀ (k:Nat) c u,av[k]? = some c->cs[k]? = some u->RV w I Phi.no c u/\u.oneCell'=true
theorem ReadAs.one{c:AV}{u:Value}(h:RV w I Phi.no c u)(h1:u.oneCell'=true):ReadAs w I [c] [u]:=by
 refine⟨rfl,fun k c' u' e e'=>?_⟩
 cases k with
 | zero=>simp at e e';subst e;subst e';exact⟨h,h1⟩
 | succ k=>simp at e
theorem ReadAs.append{a a':List AV}{c c':List Value}(h:ReadAs w I a c)(h':ReadAs w I a' c'):ReadAs w I (a++a') (c++c'):=by
 refine⟨by simp[h.1,h'.1],fun k x u e e'=>?_⟩
 rw[List.getElem?_append]at e e'
 rw[h.1]at e
 split at e
 ·rename_i hk;rw[if_pos hk]at e';exact h.2 k x u e e'
 ·rename_i hk;rw[if_neg hk]at e';exact h'.2 _ x u e e'
theorem fields_ok{S:TypeId->List AV->Prop}{G:TypeId->Bool}{cs:List Value}
  (hS:∀ t c,G t=true->c.length=P.cellsOf t->(∃ n x,DataW.trod enc P w base (fun _=>true) held n t c=some x) -> ∃ av,S t av/\ReadAs w I av c) :
  ∀ (l:List Field) (off:Nat),contig P G l off cs.length=true->(∀ f ∈ l,∃ n x,DataW.trod enc P w base (fun _=>true) held n f.type ((cs.drop f.offset).take (P.cellsOf f.type))=some x/\((cs.drop f.offset).take (P.cellsOf f.type)).length=P.cellsOf f.type) ->
   ∃ av,ShapeFs S l av/\ReadAs w I av (cs.drop off)
 | [],off,h,_=>by
  have:off=cs.length:=Nat.eq_of_beq_eq_true h
  subst this
  exact⟨[],rfl,by simp,fun k c u e=>by simp at e⟩
 | f::r,off,h,hf=>by
  unfold contig at h
  obtain⟨h1,h2⟩:=and_true' h
  obtain⟨h2,h3⟩:=and_true' h2
  have h1:=Nat.eq_of_beq_eq_true h1
  obtain⟨b,g1,g2⟩:=fields_ok hS r _ h3 fun f' hf'=>hf f' (by simp[hf'])
  obtain⟨n,x,e1,e2⟩:=hf f (by simp)
  rw[h1]at e1 e2
  obtain⟨a,g3,g4⟩:=hS f.type _ h2 e2 ⟨n,x,e1⟩
  refine⟨a++b,⟨a,b,rfl,g3,g1⟩,?_⟩
  have:=g4.append g2
  rwa [<- List.drop_drop,List.take_append_drop]at this
theorem contig_fits{G:TypeId->Bool}:∀ {l:List Field} {off n:Nat},contig P G l off n=true->off<=n /\ ∀ f ∈ l,f.offset+P.cellsOf f.type<=n
 | [],off,n,h=>⟨Nat.le_of_eq (Nat.eq_of_beq_eq_true h),fun f hf=>by simp at hf⟩
 | f::r,off,n,h=>by
  unfold contig at h
  obtain⟨h1,h2⟩:=and_true' h
  obtain⟨h2,h3⟩:=and_true' h2
  have h1:=Nat.eq_of_beq_eq_true h1
  obtain⟨g1,g2⟩:=contig_fits h3
  refine⟨by omega,fun f' hf'=>?_⟩
  rcases List.mem_cons.1 hf' with e | hf'
  ·subst e;omega
  ·exact g2 f' hf'
theorem read_ok(hI:∀ B,B<w.heap.size->I B):∀ (n:Nat) (t:TypeId) (cs:List Value),goodT P n t=true->cs.length=P.cellsOf t->(∃ m x,DataW.trod enc P w base (fun _=>true) held m t cs=some x) ->
  ∃ av,Shape P n t av/\ReadAs w I av cs
 | 0,t,cs,h,_,_=>by cases h
 | n+1,t,cs,h,hlen,⟨m,x,hx⟩=>by
  unfold goodT at h
  unfold Shape
  cases hu:P.underlying t with
  | none=>rw[hu]at h;cases h
  | some d=>
   rw[hu]at h
   cases m with
   | zero=>simp[DataW.trod]at hx
   | succ m=>
    cases d <;> simp only at h ⊢ <;> try (cases h;done)
    case bool=>
     unfold DataW.trod at hx
     rw[hu]at hx
     split at hx <;> try (cases hx;done)
     all_goals first
      | exact⟨_,⟨_,rfl⟩,ReadAs.one (.bool _) rfl⟩
      | simp_all
    case int k=>
     obtain⟨i,rfl,_,hw⟩:=DataW.trod_int hu hx
     simp only[Lit.wf,Bool.and_eq_true,decide_eq_true_eq]at hw
     exact⟨_,⟨i,rfl,hw.1,hw.2⟩,ReadAs.one (.int k i) rfl⟩
    case string=>
     unfold DataW.trod at hx
     rw[hu]at hx
     split at hx <;> simp_all
     rename_i s
     refine⟨_,⟨s.data.toList,rfl,?_⟩,ReadAs.one (.str s _ rfl) rfl⟩
     have e:s.data.toList.length=s.size:=by rw[Array.length_toList];rfl
     omega
    case slice e=>
     obtain⟨_,h⟩:=and_true' h
     obtain⟨h1,h2⟩:=and_true' h
     have h1:1<=P.cellsOf e:=Nat.le_of_ble_eq_true h1
     rcases open_slice hu hx with ⟨rfl,_⟩ | ⟨a,len,cap,m',n',D,Pl,rfl,hb,hl,hm,hmm,rfl,hel⟩
     ·exact⟨_,.inl rfl,ReadAs.one .nils rfl⟩
     ·simp only[if_true]at hmm
      subst hmm
      have hel':∀ i,i<m' -> ∃ p:List Value × List AV,w.cells? base (a.add (i*P.cellsOf e)) (P.cellsOf e)=some p.1/\Shape P n e p.2/\ReadAs w I p.2 p.1:=by
       intro i hi
       obtain⟨cs',c1,c2⟩:=hel i hi
       obtain⟨_,c3,_⟩:=World.cells?_some c1
       obtain⟨av,d1,d2⟩:=read_ok hI n e cs' h2 c3 ⟨n',_,c2⟩
       exact⟨(cs',av),c1,d1,d2⟩
      obtain⟨V,hV⟩:=choose_lt hel'
      refine⟨_,.inr ⟨(List.range len).map fun i=>(V i).2,rfl,by simp;omega,fun c hc=>?_⟩,ReadAs.one (.trl _ _ _ ?_ (by simp)) rfl⟩
      ·obtain⟨i,hi,rfl⟩:=List.mem_map.1 hc
       exact(hV i (Nat.lt_of_lt_of_le (by simpa using hi) hl)).2.1
      ·rw[List.length_map,List.length_range]
       by_cases hc0:m'=0
       ·subst hc0
        have:len=0:=by omega
        subst this
        exact .trn _ _ _
       ·have hspot:a.spot=none:=by
         obtain⟨c1,_,_⟩:=hV 0 (by omega)
         obtain⟨_,_,c2⟩:=World.cells?_some c1
         obtain⟨_,c3,_⟩:=World.cells?_some c1
         have:=c2 0 (by omega)
         rw[List.getElem?_eq_getElem (by omega)]at this
         simp only[Nat.zero_mul,Addr.add,if_true]at this
         unfold World.cell? at this
         split at this
         ·cases hs:a.spot with
          | none=>rfl
          | some s=>rw[hs]at this;simp at this
         ·cases this
        obtain⟨B,o,sp⟩:=a
        simp only at hspot
        subst hspot
        have hadd:∀ o q,Addr.add ⟨B,o,none⟩ q=⟨B,o+q,none⟩:=by
         intro o q
         unfold Addr.add
         split
         ·rename_i h0;subst h0;rfl
         ·rfl
        have hget:∀ i,i<len->((List.range len).map fun i=>(V i).2).getD i []=(V i).2:=by
         intro i hi
         simp[List.getD,List.getElem?_map,List.getElem?_range hi]
        have hcell:∀ i,i<len -> ∀ k,k<P.cellsOf e->w.cell? ⟨B,o+i*P.cellsOf e+k,none⟩=(V i).1[k]? := by
         intro i hi k hk
         obtain⟨c1,_,_⟩:=hV i (by omega)
         obtain⟨_,_,c2⟩:=World.cells?_some c1
         have:=c2 k hk
         rwa [hadd,hadd]at this
        have hl1:∀ i,i<len->(V i).1.length=P.cellsOf e:=fun i hi=>(World.cells?_some (hV i (by omega)).1).2.1
        have hbnd:∀ i k c,i<len->(V i).2[k]? = some c->k<P.cellsOf e/\(V i).1[k]? = some (((V i).1[k]?).getD undef):=by
         intro i k c hi ec
         have hk:k<P.cellsOf e:=by
          have:=(List.getElem?_eq_some_iff.1 ec).1
          rwa [(hV i (by omega)).2.2.1,hl1 i hi]at this
         exact⟨hk,by rw[List.getElem?_eq_getElem (by rw[hl1 i hi];exact hk)];rfl⟩
        refine .tr _ len _ B o m' (fun i k=>((V i).1[k]?).getD undef) (fun h0=>hI B ?_) hl (fun h0=>?_) (fun i hi=>?_) (fun i k c hi e=>?_) (fun i k c hi e=>?_) (fun i k c hi e=>?_)
        ·have h1':=hcell 0 h0 0 (by omega)
         rw[List.getElem?_eq_getElem (by rw[hl1 0 h0];omega)]at h1'
         unfold World.cell? at h1'
         split at h1'
         ·rename_i hB
          simp only at hB
          rcases Nat.lt_or_ge B w.heap.size with h | h
          ·exact h
          ·rw[Array.getElem?_eq_none h]at hB;cases hB
         ·cases h1'
        ·obtain⟨p,c1,_⟩:=hel' (m' - 1) (by omega)
         obtain⟨_,c3,c2⟩:=World.cells?_some c1
         have h2':=c2 (P.cellsOf e - 1) (by omega)
         rw[hadd,hadd,List.getElem?_eq_getElem (by omega)]at h2'
         have h3':=cell_lt h2'
         have:(m' - 1)*P.cellsOf e+P.cellsOf e=m'*P.cellsOf e:=by
          rw[<- Nat.succ_mul];congr 1;omega
         omega
        ·rw[hget i hi,(hV i (by omega)).2.2.1,hl1 i hi]
        all_goals rw[hget i hi]at e
        all_goals obtain⟨hk,hg⟩:=hbnd i k c hi e
        ·rw[hcell i hi k hk];exact hg
        ·exact((hV i (by omega)).2.2.2 k _ _ e hg).2
        ·exact((hV i (by omega)).2.2.2 k _ _ e hg).1
    case struct fs=>
     obtain⟨xs,n',_,_,c1,c2,c3⟩:=DataW.trod_struct hu hx
     rw[<- c1]at h
     have:=fields_ok (S:=Shape P n) (G:=goodT P n) (fun t c g1 g2 g3=>read_ok hI n t c g1 g2 g3) fs.toList 0 h fun f hf=>by
      obtain⟨i,hi⟩:=List.getElem?_of_mem hf
      have hi':fs[i]? = some f:=by rwa [Array.getElem?_toList]at hi
      have:=c3 i f hi'
      have hlt:i<xs.length:=by rw[c2];exact(Array.getElem?_eq_some_iff.1 hi').1
      rw[List.getElem?_eq_getElem hlt]at this
      refine⟨_,_,this,?_⟩
      have:=(contig_fits h).2 f hf
      simp;omega
     simpa using this
end
end Go.AM
end
noncomputable section
set_option linter.unusedVariables false
set_option linter.unusedSimpArgs false
namespace Go.AM
def argOf(P:Program)(t:TypeId)(av:List AV):AV:=
 match P.underlying t with
 | some (.struct _)=>.agg av
 | _=>av.headD .undef
def Args(P:Program)(N:Nat):List TypeId->List AV->Prop
 | [],vs=>vs=[]
 | t::ts,vs=>∃ av r,Shape P N t av/\vs=argOf P t av::r/\Args P N ts r
section
variable {H:Type} {enc:TypeId × Value->H} {P:Program} {W W':World} {I:Nat->Prop}
theorem arg_ok(hI:∀ B,B<W.heap.size->I B){N base:Nat}{t:TypeId}{v:Value}{d:DataW H}{ps:List MemPlace}(hg:goodT P N t=true)(hval:Value.okWide P W .any base t v)
  (h:DataW.Trod enc P W 0 (fun _=>true) true t v d ps):∃ av,Shape P N t av/\RV W I Phi.no (argOf P t av) v:=by
 obtain⟨m,hm⟩:=h
 cases N with
 | zero=>cases hg
 | succ N=>
  have hlen:v.cells.toList.length=P.cellsOf t/\((∃ fs,P.underlying t=some (.struct fs)) -> ∃ cs,v=.agg cs)/\((∀ fs,P.underlying t ≠ some (.struct fs))->v.cells.toList=[v]):=by
   have hg':=hg
   unfold goodT at hg'
   unfold Value.okWide at hval
   cases hu:P.underlying t with
   | none=>rw[hu]at hg';cases hg'
   | some u=>
    rw[hu]at hg' hval
    cases u <;> simp only at hg' hval <;> try (cases hg';done)
    case struct fs=>
     obtain⟨cs,rfl,hs,_⟩:=hval
     refine⟨by simpa [Value.cells] using hs,fun _=>⟨cs,rfl⟩,fun h=>absurd rfl (h fs)⟩
    case slice e=>
     have:=Nat.eq_of_beq_eq_true (and_true' hg').1
     unfold Cell.okWide Cell.ok at hval
     rw[hu]at hval
     cases v <;> simp at hval <;> exact⟨by simp[Value.cells,this],fun⟨fs,e⟩=>(by cases e),fun _=>by simp[Value.cells]⟩
    all_goals
     have:=Nat.eq_of_beq_eq_true hg'
     unfold Cell.okWide Cell.ok at hval
     rw[hu]at hval
     cases v <;> simp at hval <;> exact⟨by simp[Value.cells,this],fun⟨fs,e⟩=>(by cases e),fun _=>by simp[Value.cells]⟩
  obtain⟨h1,h2,h3⟩:=hlen
  obtain⟨av,g1,g2,g3⟩:=read_ok hI (N+1) t _ hg h1 ⟨m,_,hm⟩
  refine⟨av,g1,?_⟩
  unfold argOf
  by_cases hs:∃ fs,P.underlying t=some (.struct fs)
  ·obtain⟨cs,rfl⟩:=h2 hs
   obtain⟨fs,hfs⟩:=hs
   rw[hfs]
   simp only[Value.cells]at g2 g3
   refine .agg _ _ (by simpa using g2) (fun k u e=>?_) (fun k c u e e'=>?_)
   ·have hk:k<av.length:=by
     rw[g2];simpa using (Array.getElem?_eq_some_iff.1 e).1
    exact(g3 k av[k] u (List.getElem?_eq_getElem hk) (by rw[Array.getElem?_toList];exact e)).2
   ·exact(g3 k c u e (by rw[Array.getElem?_toList];exact e')).1
  ·have hs:∀ fs,P.underlying t ≠ some (.struct fs):=fun fs e=>hs ⟨fs,e⟩
   have h3:=h3 hs
   rw[h3]at g2 g3
   have:∃ c,av=[c]:=by
    match av,g2 with
    | [c],_=>exact⟨c,rfl⟩
   obtain⟨c,rfl⟩:=this
   have:=(g3 0 c v rfl rfl).1
   split
   ·rename_i fs e;exact absurd e (hs fs)
   ·exact this
theorem args_ok(hI:∀ B,B<W.heap.size->I B){N base:Nat}:∀ {ts:List TypeId} {vs:List Value} {ds:List (DataW H)} {ps:List MemPlace},(∀ t ∈ ts,goodT P N t=true) ->
  (∀ (j:Nat) t v,ts[j]? = some t->vs[j]? = some v->Value.okWide P W .any base t v)->DataW.TrodAll enc P W 0 (fun _=>true) true ts vs ds ps ->
  ∃ avs,Args P N ts avs/\avs.length=vs.length /\ ∀ (k:Nat) c u,avs[k]? = some c->vs[k]? = some u->RV W I Phi.no c u
 | [],[],[],ps,_,_,_=>⟨[],rfl,rfl,fun k c u e=>by simp at e⟩
 | t::ts,v::vs,d::ds,ps,hg,hval,⟨p,q,h1,h2,_⟩=>by
  obtain⟨avs,g1,g2,g3⟩:=args_ok hI (fun t ht=>hg t (by simp[ht])) (fun j t v e e'=>hval (j+1) t v (by simpa using e) (by simpa using e')) h2
  obtain⟨av,g4,g5⟩:=arg_ok hI (hg t (by simp)) (hval 0 t v rfl rfl) h1
  refine⟨argOf P t av::avs,⟨av,avs,g4,rfl,g1⟩,by simp[g2],fun k c u e e'=>?_⟩
  cases k with
  | zero=>simp at e e';subst e;subst e';exact g5
  | succ k=>exact g3 k c u (by simpa using e) (by simpa using e')
 | [],[],_::_,_,_,_,h=>h.elim
 | [],_::_,_,_,_,_,h=>h.elim
 | _::_,[],_,_,_,_,h=>h.elim
 | _::_,_::_,[],_,_,_,h=>h.elim
theorem post_of_old{f:Func}{s:ChangeSpec}{apart fresh handsOn again:Bool}{args:Array Value}{v:Value}{ds gs:List (DataW H)}{before pa pv:List MemPlace}
  (hW:DataW.Whole enc P f.params.toList s.vars apart W args.toList ds gs before)
  (hres:∀ (b:Nat) (sp:Nat->Bool) (hd:Bool),DataW.TrodAll enc P W' b sp hd f.resultTypes.toList (v.resultList f.resultTypes.size) (s.fn H (ds++gs)).results [])
  (hargs:∀ sp:Nat->Bool,(∀ p ∈ before,sp p.block=true)->DataW.TrodAll enc P W' 0 sp true f.params.toList args.toList (s.fn H (ds++gs)).args pa)
  (hvars:∀ sp:Nat->Bool,(∀ p ∈ before,sp p.block=true)->DataW.TrodVars enc P W' sp s.vars (s.fn H (ds++gs)).vars pv)
  (hps:before=pa++pv) (hb:RowKit.Below W.heap.size W W')
  (hok:∀ (j:Nat) (t:TypeId) (r:Value),f.resultTypes[j]? = some t->(v.resultList f.resultTypes.size)[j]? = some r->Value.okWide P W' .any 0 t r) :
  s.post enc P f apart fresh handsOn again W args v W':=by
 have hold:∀ p ∈ before,(fun b=>decide (b<W.heap.size)) p.block=true:=fun p hp=>by simpa using hW.lt p hp
 have hlt:=hW.lt
 refine⟨ds,gs,before,[],pa,pv,hW,hres _ _ _,hargs _ hold,hvars _ hold,World.keptBut_mono (fun p hp=>⟨hp,?_⟩) (hb.frame (· ∈ before)),fun _=>?_⟩
 ·rw[hps,List.mem_append]at hp
  exact Or.inr hp
 ·obtain⟨_,_,_,_,_,hz,hn⟩:=hW
  refine⟨hok,_,_,([]++pa)++pv,⟨[]++pa,pv,ChangeShapes.trodAll_append (hargs _ (fun _ _=>rfl)) (hres _ _ _),hvars _ (fun _ _=>rfl),rfl,?_,?_⟩,?_⟩
  ·intro b off hp
   have hp':MemPlace.cell b off ∈ before:=by rw[hps];simpa using hp
   rw[hb.frozen (p:=⟨b,off,none⟩) (hlt _ hp')]
   exact hz b off hp'
  ·intro ha
   have:=hn ha
   rw[hps]at this
   simpa using this
  ·intro p hp _
   rw[hps]
   simpa using hp
theorem trodAll_stays(hl:laidOutB P=true)(hb:RowKit.Below W.heap.size W W'){sp:Nat->Bool}:∀ {ts:List TypeId} {vs:List Value} {ds:List (DataW H)} {ps:List MemPlace},(∀ t ∈ ts,P.readableRec t=true/\t<P.types.size) ->
  DataW.TrodAll enc P W 0 (fun _=>true) true ts vs ds ps->(∀ x ∈ ps,x.block<W.heap.size)->(∀ x ∈ ps,sp x.block=true)->DataW.TrodAll enc P W' 0 sp true ts vs ds ps
 | [],[],[],ps,_,h,_,_=>h
 | t::ts,v::vs,d::ds,ps,hr,⟨p,q,h1,h2,e⟩,hlt,hsp=>by
  subst e
  refine⟨p,q,WideElems.Trod_stays hl (hr t (by simp)).1 (hr t (by simp)).2 h1 (fun x hx=>hb.same (hlt x (by simp[hx]))) (fun x hx=>hsp x (by simp[hx])),
   trodAll_stays hl hb (fun t ht=>hr t (by simp[ht])) h2 (fun x hx=>hlt x (by simp[hx])) (fun x hx=>hsp x (by simp[hx])),rfl⟩
 | [],[],_::_,_,_,h,_,_=>h.elim
 | [],_::_,_,_,_,h,_,_=>h.elim
 | _::_,[],_,_,_,h,_,_=>h.elim
 | _::_,_::_,[],_,_,h,_,_=>h.elim
def SubV(c c':AV):Prop:=∀ (w:World) (I:Nat->Prop) (u:Value),RV w I Phi.no c u->RV w I Phi.no c' u
def SubC(cs cs':List AV):Prop:=cs.length=cs'.length /\ ∀ (k:Nat) c c',cs[k]? = some c->cs'[k]? = some c'->SubV c c'
theorem SubV.refl(c:AV):SubV c c:=fun _ _ _ h=>h
theorem SubC.refl(cs:List AV):SubC cs cs:=⟨rfl,fun k c c' e e'=>by rw[e]at e';cases e';exact .refl _⟩
theorem SubC.nil:SubC [] []:=.refl _
theorem SubC.cons{c c':AV}{cs cs':List AV}(h:SubV c c')(h':SubC cs cs'):SubC (c::cs) (c'::cs'):=by
 refine⟨by simp[h'.1],fun k x x' e e'=>?_⟩
 cases k with
 | zero=>simp at e e';subst e;subst e';exact h
 | succ k=>exact h'.2 k x x' (by simpa using e) (by simpa using e')
theorem SubC.get{cs cs':List AV}(h:SubC cs cs'){k:Nat}{c':AV}(e:cs'[k]? = some c'):∃ c,cs[k]? = some c/\SubV c c':=by
 have hk:k<cs.length:=by rw[h.1];exact(List.getElem?_eq_some_iff.1 e).1
 exact⟨cs[k],List.getElem?_eq_getElem hk,h.2 k _ c' (List.getElem?_eq_getElem hk) e⟩
theorem SubV.tr{sz:Nat}{es:List (List AV)}{f:Nat->List AV}(h:∀ i,i<es.length->SubC (es.getD i []) (f i)):SubV (.trl sz es) (.tr sz es.length f):=by
 intro w I u hv
 cases hv with
 | trl _ _ _ hv hz=>
  generalize hn:es.length=n at *
  generalize hf:(fun i=>es.getD i [])=g at hv
  have hg:∀ i,g i=es.getD i []:=fun i=>by rw[<- hf]
  cases hv with
  | tr _ _ _ B o cap uf hI hn' hcp hlen hc h1 hr=>
   refine .tr sz n f B o cap uf hI hn' hcp (fun i hi=>?_) (fun i k c hi e=>?_) (fun i k c hi e=>?_) (fun i k c hi e=>?_)
   ·rw[<- (h i hi).1,<- hg];exact hlen i hi
   ·obtain⟨c0,e0,_⟩:=(h i hi).get e
    rw[<- hg]at e0;exact hc i k c0 hi e0
   ·obtain⟨c0,e0,_⟩:=(h i hi).get e
    rw[<- hg]at e0;exact h1 i k c0 hi e0
   ·obtain⟨c0,e0,hs⟩:=(h i hi).get e
    rw[<- hg]at e0;exact hs _ _ _ (hr i k c0 hi e0)
  | trn=>exact .trn _ _ _
theorem SubV.agg{cs cs':List AV}(h:SubC cs cs'):SubV (.agg cs) (.agg cs'):=by
 intro w I u hv
 cases hv with
 | agg _ vs hl h1 hr=>
  refine .agg _ _ (h.1.symm.trans hl) h1 fun k c u e e'=>?_
  obtain⟨c0,e0,hs⟩:=h.get e
  exact hs _ _ _ (hr k c0 u e0 e')
end
end Go.AM
end
noncomputable section
set_option linter.unusedVariables false
set_option linter.unusedSimpArgs false
namespace Go.AM
def codeGood(fn:Func):Bool:=
 match fn.body with
 | some c => okCode c && !(fn.name == "runtime.NumGoroutine")
 | none=>false
def codeOf(P:Program)(f:Nat):Option Func:=
 match P.funcs[f]? with
 | some fn=>bif codeGood fn then some fn else none
 | none=>none
theorem codeOf_ok{P:Program}{env:Env}(h:env.code=codeOf P):CodeOk P env:=by
 intro f fn hf
 rw[h]at hf
 unfold codeOf at hf
 cases e:P.funcs[f]? with
 | none=>rw[e]at hf;cases hf
 | some fn'=>
  rw[e]at hf
  obtain⟨hg,hf⟩:=cond_some hf
  cases hf
  unfold codeGood at hg
  cases hb:fn.body with
  | none=>rw[hb]at hg;cases hg
  | some c=>
   rw[hb]at hg
   obtain⟨h1,h2⟩:=and_true' hg
   refine⟨rfl,rfl,by simpa using h2,fun c' e'=>?_⟩
   cases e'
   exact h1
theorem tt_ok{P:Program}{env:Env}(h:env.tt=tiOf P):TTok P env.tt:=fun t x e=>by rw[h]at e;exact e
def nmem(x:Nat):List Nat->Bool
 | []=>false
 | y::r=>bif Nat.beq x y then true else nmem x r
def liveOf(f b:Nat):List (Nat × Nat × List Nat)->List Nat
 | []=>[]
 | (f',b',l)::r=>bif Nat.beq f f'&&Nat.beq b b' then l else liveOf f b r
structure Known where
 f:Nat
 ans:List AV->Heap->Option Answer
def orcOf:List Known->Nat->List AV->Heap->Option Answer
 | [],_,_,_=>none
 | k::r,f,args,hp=>bif Nat.beq k.f f then k.ans args hp else orcOf r f args hp
def Known.Ok(P:Program)(k:Known):Prop:=∀ args hp A,k.ans args hp=some A->A.g=true->Contract P k.f args hp (A.r A.a).1 (A.r A.a).2/\hp.length<=(A.r A.a).2.length
theorem orc_ok{P:Program}:∀ {l:List Known},(∀ k ∈ l,k.Ok P) -> ∀ f args hp A,orcOf l f args hp=some A->A.g=true->Contract P f args hp (A.r A.a).1 (A.r A.a).2/\hp.length<=(A.r A.a).2.length
 | [],_,f,args,hp,A,h=>by cases h
 | k::l,hl,f,args,hp,A,h=>by
  unfold orcOf at h
  cases e:Nat.beq k.f f with
  | true=>
   rw[e]at h
   have e:=Nat.eq_of_beq_eq_true e
   subst e
   exact hl k (by simp) args hp A h
  | false=>
   rw[e]at h
   exact orc_ok (fun k hk=>hl k (by simp[hk])) f args hp A h
end Go.AM
end
noncomputable section
set_option linter.unusedVariables false
set_option linter.unusedSimpArgs false
namespace Go.AM
def snK(r:AV)(h:Heap):Option AV:=
 match snapG depth (hget h) r with
 | some (r,_,g)=>bif g then some r else .none
 | .none=>.none
theorem Contract.snapped{P:Program}{f:Nat}{args:List AV}{res r:AV}{hp':Heap}(hc:Contract P f args [] res hp')(h:snK res hp'=some r):Contract P f args [] r []:=by
 unfold snK at h
 split at h
 ·rename_i r1 l1 g1 hs1
  obtain⟨hg,h⟩:=cond_some h
  subst hg
  cases h
  replace hs1:=ungard_some.2 hs1
  intro w I φ ra hh hx
  refine(hc w I φ ra hh hx).mono fun u w' ⟨φ',I',h1,h2,h3⟩=>?_
  obtain⟨s1,s2⟩:=(snap_ok h2 depth).1 _ _ _ hs1
  have hr:=s2 (fun B=>I' B\/InL φ' l1 B) (fun B hB=>.inl hB) (fun B hB=>.inr hB) u h1
  refine⟨Phi.no,fun B=>I' B\/InL φ' l1 B,hr,RH.empty w' _ fun B hB=>hB.elim (h2.lt B) (inL_lt h2 s1),fun b p hb=>absurd hb (Nat.not_lt_zero b),fun B hB=>.inl (h3.Ile B hB),?_,fun B hB=>(not_mut_nil hB).elim,h3.ext⟩
  rintro B (hB | ⟨b,hb,o,sz,e⟩)
  ·exact h3.Inew B hB
  ·cases hm:mutable (hget hp' b)with
   | true=>exact .inr ((h3.mt B ⟨b,o,sz,hm,e⟩).imp id id)
   | false=>exact h3.Inew B (h2.imm b B o sz (s1 b hb) hm e)
 ·cases h
def callT(env:Env)(n f:Nat)(args:List AV):Option AV:=evFn (R:=AV) env n f args [] snK
theorem callT_ok{P:Program}{env:Env}(henv:EnvOk P env)(hcode:CodeOk P env)(hm:P.follows .mixedOrders=true){n f:Nat}{args:List AV}{r:AV}
  (h:callT env n f args=some r):Contract P f args [] r []:=by
 obtain⟨res,hp',k1,_,hc⟩:=ev_ok henv hcode hm n f args [] _ _ h
 exact hc.snapped k1
theorem phi_nil{w:World}{I:Nat->Prop}{φ:Phi}(h:RH w I φ (hget [])):φ=Phi.no:=by
 funext b
 exact h.none b (hget_nil b)
theorem Contract.args{P:Program}{f:Nat}{args args':List AV}{r:AV}{bs:Heap}(h:Contract P f args' [] r bs)(hs:SubC args args'):Contract P f args [] r bs:=by
 intro w I φ ra hh hx
 have:=phi_nil hh
 subst this
 refine h w I Phi.no ra hh ⟨by rw[<- hs.1];exact hx.1,fun k x u e e'=>?_⟩
 obtain⟨c0,e0,hv⟩:=hs.get e
 exact hv _ _ _ (hx.2 k c0 u e0 e')
theorem Contract.res{P:Program}{f:Nat}{args:List AV}{r r':AV}(h:Contract P f args [] r [])(hs:SubV r r'):Contract P f args [] r' []:=by
 intro w I φ ra hh hx
 refine(h w I φ ra hh hx).mono fun u w' ⟨φ',I',h1,h2,h3⟩=>?_
 have:=phi_nil h2
 subst this
 exact⟨Phi.no,I',hs _ _ _ h1,h2,h3⟩
theorem SubV.trans{a b c:AV}(h:SubV a b)(h':SubV b c):SubV a c:=fun w I u hv=>h' w I u (h w I u hv)
theorem SubV.nils{sz:Nat}{f:Nat->List AV}:SubV .nils (.tr sz 0 f):=by
 intro w I u hv
 cases hv with
 | nils=>exact .trn sz f none
theorem SubV.trs{sz n:Nat}{f g:Nat->List AV}(h:∀ i,i<n->SubC (f i) (g i)):SubV (.tr sz n f) (.tr sz n g):=by
 intro w I u hv
 cases hv with
 | tr _ _ _ B o cap uf hI hn' hcp hlen hc h1 hr=>
  refine .tr sz n g B o cap uf hI hn' hcp (fun i hi=>?_) (fun i k c hi e=>?_) (fun i k c hi e=>?_) (fun i k c hi e=>?_)
  ·rw[<- (h i hi).1];exact hlen i hi
  ·obtain⟨c0,e0,_⟩:=(h i hi).get e
   exact hc i k c0 hi e0
  ·obtain⟨c0,e0,_⟩:=(h i hi).get e
   exact h1 i k c0 hi e0
  ·obtain⟨c0,e0,hs⟩:=(h i hi).get e
   exact hs _ _ _ (hr i k c0 hi e0)
 | trn _ _ a=>exact .trn sz g a
theorem SubV.tup{cs cs':List AV}(h:SubC cs cs'):SubV (.tup cs) (.tup cs'):=by
 intro w I u hv
 cases hv with
 | tup _ vs hl hr=>
  refine .tup _ _ (h.1.symm.trans hl) fun k c u e e'=>?_
  obtain⟨c0,e0,hs⟩:=h.get e
  exact hs _ _ _ (hr k c0 u e0 e')
inductive PE where
 | L
 | R
 | lp (m:Nat)
def sub:Code->List PE->Code
 | c,[]=>c
 | .seq a _,.L::p=>sub a p
 | .seq _ b,.R::p=>sub b p
 | .cond _ a _,.L::p=>sub a p
 | .cond _ _ b,.R::p=>sub b p
 | .block _ a,_::p=>sub a p
 | .loop a,_::p=>sub a p
 | .scope a,_::p=>sub a p
 | c,_::_=>c
def curAt:Nat->Code->List PE->Nat
 | cur,_,[]=>cur
 | cur,.seq a _,.L::p=>curAt cur a p
 | cur,.seq _ b,.R::p=>curAt cur b p
 | cur,.cond _ a _,.L::p=>curAt cur a p
 | cur,.cond _ _ b,.R::p=>curAt cur b p
 | _,.block id a,_::p=>curAt id a p
 | cur,.loop a,_::p=>curAt cur a p
 | cur,.scope a,_::p=>curAt cur a p
 | cur,_,_::_=>cur
section
variable {R:Type} (env:Env) (run:CallK R) (fn nt n base:Nat) (jump:Code->Nat->CodeK R)
def contOf:Nat->Code->List PE->(AX->St->Option R)->AX->St->Option R
 | _,_,[],k=>k
 | cur,.seq a b,.L::p,k=>contOf cur a p fun e s'=>match e with
  | .normal=>evC1 env run fn nt n base jump cur b k s'
  | e=>k e s'
 | cur,.seq _ b,.R::p,k=>contOf cur b p k
 | cur,.cond _ a _,.L::p,k=>contOf cur a p k
 | cur,.cond _ _ b,.R::p,k=>contOf cur b p k
 | _,.block id a,_::p,k=>contOf id a p fun e s'=>match e with
  | .exit id'=>bif Nat.beq id' id then k .normal s' else k (.exit id') s'
  | e=>k e s'
 | cur,.loop a,.lp m::p,k=>contOf cur a p fun e s'=>match e with
  | .normal=>loopK (norm base (env.live fn cur)) (evC1 env run fn nt n base jump cur a) m k (norm base (env.live fn cur) s')
  | e=>k e s'
 | cur,.scope a,_::p,k=>contOf cur a p fun e s'=>match e with
  | .goto l=>match findLabel a l with
   | some _=>jump a l k (norm base (env.live fn (1000+l)) s')
   | .none=>k (.goto l) s'
  | e=>k e s'
 | _,_,_::_,k=>k
end
def endK{R:Type}(env:Env)(fn:Func)(k:AV->Heap->Option R)(e:AX)(s:St):Option R:=
 match e with
 | .normal | .ret=>resultsK env.tt s fn.results.toList fun vs=>k (tupled vs) s.hp
 | _=>.none
def bodyOf(env:Env)(f:Nat):Code:=match env.code f with
 | some fn=>match fn.body with
  | some c=>c
  | .none=>.skip
 | .none=>.skip
def ntOf(env:Env)(f:Nat):Nat:=match env.code f with
 | some fn=>fn.ntmps
 | .none=>0
def finK{R:Type}(env:Env)(f:Nat)(k:AV->Heap->Option R)(e:AX)(s:St):Option R:=match env.code f with
 | some fn=>endK env fn k e s
 | .none=>.none
def lpt{R:Type}(env:Env)(n base f:Nat)(k:AV->Heap->Option R)(p:List PE)(m:Nat)(s:St):Option R:=
 match sub (bodyOf env f) p with
 | .loop a=>loopK (norm base (env.live f (curAt 0 (bodyOf env f) p))) (evC1 env (evFn env n) f (ntOf env f) n base (jumpK env (evFn env n) f (ntOf env f) n base n) (curAt 0 (bodyOf env f) p) a) m
   (contOf env (evFn env n) f (ntOf env f) n base (jumpK env (evFn env n) f (ntOf env f) n base n) 0 (bodyOf env f) p (finK env f k)) s
 | _=>.none
def findL(b:Nat):Code->Nat->List Nat->Option (List PE)
 | .loop a,cur,fs=>bif Nat.beq cur b then some []else match fs with
  | m::fs=>match findL b a cur fs with
   | some p=>some (.lp m::p)
   | .none=>.none
  | []=>.none
 | .seq x y,cur,fs=>match findL b x cur fs with
  | some p=>some (.L::p)
  | .none=>match findL b y cur fs with
   | some p=>some (.R::p)
   | .none=>.none
 | .cond _ x y,cur,fs=>match findL b x cur fs with
  | some p=>some (.L::p)
  | .none=>match findL b y cur fs with
   | some p=>some (.R::p)
   | .none=>.none
 | .block id a,_,fs=>match findL b a id fs with
  | some p=>some (.L::p)
  | .none=>.none
 | .scope a,cur,fs=>match findL b a cur fs with
  | some p=>some (.L::p)
  | .none=>.none
 | _,_,_=>.none
def LP{R:Type}(env:Env)(n base f:Nat)(k:AV->Heap->Option R)(b:Nat)(fs:List Nat)(m:Nat)(s:St):Option R:=
 match findL b (bodyOf env f) 0 fs with
 | some p=>lpt env n base f k p m s
 | .none=>.none
end Go.AM
end
noncomputable section
set_option linter.unusedVariables false
set_option linter.unusedSimpArgs false
namespace Go.AM
def cd(g:Prop):Bool:=@decide g (Classical.propDecidable g)
theorem cd_iff{g:Prop}:cd g=true ↔ g:=by exact @decide_eq_true_iff g (Classical.propDecidable g)
def gP{X:Type}(dec:List AV->X)(pre:X->Prop)(enc:X->List AV)(args:List AV):Prop:=pre (dec args)/\SubC args (enc (dec args))
def Known.spec{X:Type}(f:Nat)(dec:List AV->X)(pre:X->Prop)(enc:X->List AV)(out:X->AV):Known:=
 {f:=f,ans:=fun args hp=>match hp with
   | []=>some {X:=X,g:=cd (gP dec pre enc args),a:=dec args,r:=fun x=>(out x,[])}
   | _=>none}
theorem Known.spec_ok{P:Program}{X:Type}{f:Nat}{dec:List AV->X}{pre:X->Prop}{enc:X->List AV}{out:X->AV}
  (h:∀ x,pre x->Contract P f (enc x) [] (out x) []):(Known.spec f dec pre enc out).Ok P:=by
 intro args hp A e hg
 cases hp with
 | nil=>
  cases e
  obtain⟨h1,h2⟩:=cd_iff.1 hg
  exact⟨(h _ h1).args h2,Nat.le_refl _⟩
 | cons x r=>cases e
def Known.one(f:Nat)(args:List AV)(r:AV):Known:=Known.spec (X:=Unit) f (fun _=>()) (fun _=>True) (fun _=>args) (fun _=>r)
theorem Known.one_ok{P:Program}{f:Nat}{args:List AV}{r:AV}(h:Contract P f args [] r []):(Known.one f args r).Ok P:=Known.spec_ok fun _ _=>h
def gX{R:Type}{X:Type}(g:Prop)(a:X)(k:X->Option R):Option R:=Bool.rec (motive:=fun _=>Option R) .none (appX k a) (cd g)
theorem gX_of{R:Type}{X:Type}{g:Prop}{a:X}{k:X->Option R}(h:g):gX g a k=k a:=by
 unfold gX;rw[cd_iff.2 h];rfl
theorem gX_eq{R:Type}{X:Type}{dec:List AV->X}{pre:X->Prop}{enc:X->List AV}{A:List AV}{k:X->Option R}(x:X)(h1:dec A=x)(h2:pre x)(h3:SubC A (enc x)) :
  gX (gP dec pre enc A) (dec A) k=k x:=by
 subst h1;exact gX_of ⟨h2,h3⟩
def gC{R:Type}{X:Type}(dec:List AV->X)(pre:X->Prop)(enc:X->List AV)(A:List AV)(k:X->Option R):Option R:=gX (gP dec pre enc A) (dec A) k
theorem gC_eq{R:Type}{X:Type}{dec:List AV->X}{pre:X->Prop}{enc:X->List AV}{A:List AV}{k:X->Option R}(x:X)(h1:dec A=x)(h2:pre x)(h3:SubC A (enc x)) :
  gC dec pre enc A k=k x:=gX_eq x h1 h2 h3
def getI(cs:List AV)(i:Nat):Int:=match cs[i]? with
 | some (.int _ n)=>n
 | _=>0
def getB(cs:List AV)(i:Nat):Bool:=match cs[i]? with
 | some (.bool b)=>b
 | _=>false
def getS(cs:List AV)(i:Nat):List UInt8:=match cs[i]? with
 | some (.str s)=>s
 | _=>[]
def getC(cs:List AV)(i:Nat):Nat × Nat:=match cs[i]? with
 | some (.cplx _ a b)=>(a,b)
 | _=>(0,0)
def argC(args:List AV)(i:Nat):List AV:=match args[i]? with
 | some v=>v.cells
 | .none=>[]
def decL{X:Type}(d:List AV->X):AV->List X
 | .tr _ n f=>(List.range n).map fun i=>d (f i)
 | .tn _ n f=>(List.range n).map fun i=>d (f i)
 | .trl _ es=>es.map d
 | _=>[]
def getL{X:Type}(d:List AV->X)(cs:List AV)(i:Nat):List X:=decL d (cs.getD i .nils)
def encL{X:Type}(sz:Nat)(e:X->List AV)(z:X)(l:List X):AV:=.tr sz l.length fun i=>e (l.getD i z)
theorem decL_encL{X:Type}{sz:Nat}{e:X->List AV}{d:List AV->X}{z:X}(h:∀ x,d (e x)=x)(l:List X):decL d (encL sz e z l)=l:=by
 simp only[decL,encL,h]
 refine List.ext_getElem (by simp) fun i h1 h2=>?_
 simp[List.getD,List.getElem?_eq_getElem h2]
theorem SubV.toTrl{sz:Nat}{f:Nat->List AV}{es:List (List AV)}(hne:0<es.length)(h:∀ i,i<es.length->SubC (f i) (es.getD i [])):SubV (.tr sz es.length f) (.trl sz es):=by
 intro w I u hv
 refine .trl _ _ _ (SubV.trs h w I u hv) ?_
 rintro rfl
 generalize es.length=n at *
 cases hv with
 | trn=>cases hne
def OrV(c c1 c2:AV):Prop:=∀ (w:World) (I:Nat->Prop) (u:Value),RV w I Phi.no c u->RV w I Phi.no c1 u\/RV w I Phi.no c2 u
def OrC(c c1 c2:List AV):Prop:=c1.length=c.length/\c2.length=c.length /\ ∀ (w:World) (I:Nat->Prop) (ra:Array Value),RVs w I Phi.no c ra->RVs w I Phi.no c1 ra\/RVs w I Phi.no c2 ra
theorem OrV.nil{sz:Nat}{f:Nat->List AV}:OrV (.tr sz 0 f) .nils (.trl sz []):=by
 intro w I u hv
 cases hv with
 | tr _ _ _ B o cap uf hI hn' hcp hlen hc h1 hr=>
  exact .inr (.trl _ _ _ (.tr sz 0 _ B o cap uf hI hn' hcp (fun i hi=>by omega) (fun i k c hi=>by omega) (fun i k c hi=>by omega) (fun i k c hi=>by omega)) (by simp))
 | trn _ _ a=>cases a with
  | none=>exact .inl .nils
  | some a=>exact .inr (.trl _ _ _ (.trn _ _ _) (by simp))
theorem rvs_at{w:World}{I:Nat->Prop}{φ:Phi}{c:AV}{a b:List AV}{vs:Array Value}(h:RVs w I φ (a++c::b) vs):∃ u,RV w I φ c u/\vs[a.length]? = some u:=by
 have hl:a.length<vs.size:=by rw[<- h.1];simp
 exact⟨vs[a.length],h.2 a.length c _ (by simp) (Array.getElem?_eq_getElem hl),Array.getElem?_eq_getElem hl⟩
theorem OrC.of{c c1 c2:AV}(a b:List AV)(h:OrV c c1 c2):OrC (a++c::b) (a++c1::b) (a++c2::b):=by
 refine⟨by simp,by simp,fun w I ra hx=>?_⟩
 obtain⟨u,hu,he⟩:=rvs_at hx
 have key:∀ c',RV w I Phi.no c' u->RVs w I Phi.no (a++c'::b) ra:=by
  intro c' hc'
  refine⟨by rw[<- hx.1];simp,fun k x v e e'=>?_⟩
  by_cases hk:k=a.length
  ·subst hk
   rw[he]at e';cases e'
   simp at e;subst e;exact hc'
  ·refine hx.2 k x v ?_ e'
   rw[List.getElem?_append]at e ⊢
   split at e
   ·rename_i h;rw[if_pos h];exact e
   ·rename_i h
    rw[if_neg h]
    obtain⟨m,hm⟩:∃ m,k - a.length=m+1:=⟨k - a.length - 1,by omega⟩
    rw[hm]at e ⊢;exact e
 exact(h w I u hu).imp (key c1) (key c2)
theorem OrV.agg{cs c1 c2:List AV}(h:OrC cs c1 c2):OrV (.agg cs) (.agg c1) (.agg c2):=by
 intro w I u hv
 cases hv with
 | agg _ vs hl h1 hr=>
  refine(h.2.2 w I vs ⟨hl,hr⟩).imp (fun g=>.agg _ _ (h.1.trans hl) h1 g.2) (fun g=>.agg _ _ (h.2.1.trans hl) h1 g.2)
theorem Contract.split{P:Program}{f:Nat}{args args1 args2:List AV}{r:AV}{bs:Heap}(hs:OrC args args1 args2)(h1:Contract P f args1 [] r bs)(h2:Contract P f args2 [] r bs):Contract P f args [] r bs:=by
 intro w I φ ra hh hx
 have:=phi_nil hh
 subst this
 rcases hs.2.2 w I ra hx with hx | hx
 ·exact h1 w I Phi.no ra hh hx
 ·exact h2 w I Phi.no ra hh hx
theorem SubV.trl_encL{X:Type}{sz:Nat}{e:X->List AV}{z:X}(l:List X):SubV (.trl sz (l.map e)) (encL sz e z l):=by
 have:=SubV.tr (sz:=sz) (es:=l.map e) (f:=fun i=>e (l.getD i z)) fun i hi=>by
  have hi:i<l.length:=by simpa using hi
  have:(l.map e).getD i []=e (l.getD i z):=by simp[List.getD,List.getElem?_eq_getElem hi]
  rw[this];exact .refl _
 rwa [List.length_map]at this
end Go.AM
end
noncomputable section
set_option linter.unusedVariables false
set_option linter.unusedSimpArgs false
namespace Go.AM
section
variable {H:Type} {enc:TypeId × Value->H} {P:Program} {W W':World} {I:Nat->Prop}
def LawC(P:Program)(N f:Nat)(ts:List TypeId):Prop:=∀ avs,Args P N ts avs->Contract P f avs [] (.bool true) []
theorem law_postC{N base f tb:Nat}{fn:Func}{s:ChangeSpec}(hfn:P.funcs[f]? = some fn)(hbody:fn.body.isNone=false)
  (hname : (fn.name == "runtime.NumGoroutine") = false)
  (hvars:s.vars=[]) (hrt:fn.resultTypes = #[tb]) (hbool:P.underlying tb=some .bool)
  (hspec:∀ ds:List (DataW H),ds.length=fn.params.toList.length->s.fn H ds={results:=[.lit (.bool true)],args:=ds})
  (hlaid:laidOutB P=true) (hread:∀ t ∈ fn.params.toList,P.readableRec t=true/\t<P.types.size) (hgood:∀ t ∈ fn.params.toList,goodT P N t=true)
  (hlaw:LawC P N f fn.params.toList) {args:Array Value} {ds gs:List (DataW H)} {before:List MemPlace}
  (hval:∀ (j:Nat) t v,fn.params[j]? = some t->args[j]? = some v->Value.okWide P W .any base t v) (hW:DataW.Whole enc P fn.params.toList s.vars false W args.toList ds gs before) :
  Calls P f args W fun e W'=>∃ v,e=.returned v/\s.post enc P fn false true false false W args v W':=by
 have hW':=hW
 obtain⟨p,q,hA,hV,rfl,hfz,hnd⟩:=hW
 rw[hvars]at hV
 have hgs:gs=[]/\q=[]:=by
  cases gs with
  | nil=>exact⟨rfl,hV⟩
  | cons g gs=>exact hV.elim
 obtain⟨rfl,rfl⟩:=hgs
 have hlt:=hW'.lt
 simp only[List.append_nil]at hlt hW'
 let I:Nat->Prop:=fun B=>B<W.heap.size
 obtain⟨avs,h1,h2,h3⟩:=args_ok (I:=I) (fun _ h=>h) hgood (fun j t v e e'=>hval j t v (by rwa [Array.getElem?_toList]at e) (by rwa [Array.getElem?_toList]at e')) hA
 have hans:=hlaw avs h1 W I Phi.no args (RH.empty W I fun _ h=>h) ⟨by simpa using h2,fun k x u e e'=>h3 k x u e (by rw[Array.getElem?_toList];exact e')⟩
 have hpost:∀ u W',(∃ φ' I',RV W' I' φ' (.bool true) u/\RH W' I' φ' (hget [])/\Step ([]:Heap).length (hget []) Phi.no I W (hget []) φ' I' W')->s.post enc P fn false true false false W args u W':=by
  rintro u W' ⟨φ',I',g1,_,g2⟩
  cases g1
  have hb:RowKit.Below W.heap.size W W':=⟨g2.ext.os,g2.ext.tape,g2.ext.output,g2.ext.size,fun k hk=>g2.ext.keep k hk fun hm=>not_mut_nil hm⟩
  have hds:ds.length=fn.params.toList.length:=by
   have:∀ {ts:List TypeId} {vs:List Value} {ds:List (DataW H)} {ps:List MemPlace},DataW.TrodAll enc P W 0 (fun _=>true) true ts vs ds ps->ds.length=ts.length:=by
    intro ts
    induction ts with
    | nil=>intro vs ds ps h;cases vs <;> cases ds <;> first | rfl | exact h.elim
    | cons t ts ih=>intro vs ds ps h;cases vs <;> cases ds <;> first | exact h.elim | (obtain⟨_,_,_,h,_⟩:=h;simp[ih h])
   exact this hA
  have hsp:=hspec ds hds
  have hone:(Value.bool true).resultList 1=[.bool true]:=rfl
  refine post_of_old (pa:=p) (pv:=[]) hW' (fun b sp hd=>?_) (fun sp hs=>?_) (fun _ _=>?_) (by simp) hb (RowKit.ok_one hrt rfl (RowKit.okWide_bool_mk hbool _))
  ·rw[List.append_nil,hsp,hrt]
   exact⟨[],[],⟨1,by simp[DataW.trod,hbool,Value.cells]⟩,rfl,rfl⟩
  ·rw[List.append_nil,hsp]
   exact trodAll_stays hlaid hb hread hA hlt hs
  ·rw[List.append_nil,hsp,hvars]
   rfl
 rcases hans with ⟨_,h⟩ | ⟨u,W',h,_⟩
 ·exact Calls.mono h fun e W' ⟨u,he,hu⟩=>⟨u,he,hpost u W' hu⟩
 ·simp only[callFunc,Sem.run_bind,run_program,Result.andThen_ok,hfn,hname,hbody,Bool.false_eq_true,if_false,Sem.run_pure]at h
  cases h
end
theorem Shape.list{P:Program}{n:Nat}{t e:TypeId}{av:List AV}(hu:P.underlying t=some (.slice e))(h:Shape P (n+1) t av) :
  ∃ c m f,av=[c]/\SubV c (.tr (P.cellsOf e) m f)/\m<=maxLen /\ ∀ i,i<m->Shape P n e (f i):=by
 unfold Shape at h
 rw[hu]at h
 rcases h with rfl | ⟨es,rfl,h1,h2⟩
 ·exact⟨_,0,fun _=>[],rfl,.nils,Nat.zero_le _,fun i hi=>absurd hi (Nat.not_lt_zero i)⟩
 ·refine⟨_,es.length,fun i=>es.getD i [],rfl,.tr fun i _=>.refl _,h1,fun i hi=>?_⟩
  have:es.getD i []=es[i]:=by simp[List.getD,List.getElem?_eq_getElem hi]
  simp only[this];exact h2 _ (List.getElem_mem hi)
theorem Shape.num{P:Program}{n:Nat}{t:TypeId}{k:IntKind}{av:List AV}(hu:P.underlying t=some (.int k))(h:Shape P (n+1) t av):av=[.int k (getI av 0)]/\k.min<=getI av 0/\getI av 0<=k.max:=by
 unfold Shape at h
 rw[hu]at h
 obtain⟨i,rfl,h⟩:=h
 exact⟨rfl,h⟩
theorem wrap64{x:Int}(h:-9223372036854775808<=x/\x<=9223372036854775807):IntKind.i64.wrap x=x:=by
 simp[IntKind.wrap,IntKind.signed,IntKind.bits,Int.bmod];omega
end Go.AM
end
noncomputable section
set_option linter.unusedVariables false
set_option linter.unusedSimpArgs false
namespace Go.AM
def hnK(base:Nat)(r:AV)(h:Heap):Option (AV × Heap):=
 let s:=norm base [0] {fr:=[(0,r)],hp:=h}
 some (fget s.fr 0,s.hp)
def callH(env:Env)(n f:Nat)(args:List AV)(hp:Heap):Option (AV × Heap):=evFn (R:=AV × Heap) env n f args hp (hnK hp.length)
theorem callH_ok{P:Program}{env:Env}(henv:EnvOk P env)(hcode:CodeOk P env)(hm:P.follows .mixedOrders=true){n f:Nat}{args:List AV}{hp:Heap}{r:AV}{h:Heap}
  (e:callH env n f args hp=some (r,h)):Contract P f args hp r h/\hp.length<=h.length:=by
 obtain⟨res,hp',k1,k2,hc⟩:=ev_ok henv hcode hm n f args hp _ _ e
 cases k1
 refine⟨fun w I φ ra hh hx=>(hc w I φ ra hh hx).mono fun u w' ⟨φ',I',a1,a2,a3⟩=>?_,norm_base (s:={fr:=[(0,res)],hp:=hp'}) k2⟩
 have hs:StOk w' I' φ' {fr:=[(0,res)],hp:=hp'} {tmps:=#[u],defers:=[]}:=by
  refine⟨a2,fun t=>?_⟩
  cases t with
  | zero=>exact a1
  | succ t=>exact .undef _
 obtain⟨_,φ2,n2,n3⟩:=norm_ok hp.length [0] hs k2
 exact⟨φ2,I',n2.fr 0,n2.hh,a3.trans n3⟩
def gPH{X:Type}(dec:List AV->Heap->X)(pre:X->Prop)(enc:X->List AV × Heap)(args:List AV)(hp:Heap):Prop:=pre (dec args hp)/\enc (dec args hp)=(args,hp)
def Known.specH{X:Type}(f:Nat)(dec:List AV->Heap->X)(pre:X->Prop)(enc:X->List AV × Heap)(out:X->AV × Heap):Known:=
 {f:=f,ans:=fun args hp=>some {X:=X,g:=cd (gPH dec pre enc args hp),a:=dec args hp,r:=out}}
theorem Known.specH_ok{P:Program}{X:Type}{f:Nat}{dec:List AV->Heap->X}{pre:X->Prop}{enc:X->List AV × Heap}{out:X->AV × Heap}
  (h:∀ x,pre x->Contract P f (enc x).1 (enc x).2 (out x).1 (out x).2/\(enc x).2.length<=(out x).2.length):(Known.specH f dec pre enc out).Ok P:=by
 intro args hp A e hg
 cases e
 obtain⟨h1,h2⟩:=cd_iff.1 hg
 have:=h _ h1
 rw[h2]at this
 exact this
def gCH{R:Type}{X:Type}(dec:List AV->Heap->X)(pre:X->Prop)(enc:X->List AV × Heap)(A:List AV)(H:Heap)(k:X->Option R):Option R:=gX (gPH dec pre enc A H) (dec A H) k
theorem gCH_eq{R:Type}{X:Type}{dec:List AV->Heap->X}{pre:X->Prop}{enc:X->List AV × Heap}{A:List AV}{H:Heap}{k:X->Option R}(x:X)(h1:dec A H=x)(h2:pre x)(h3:enc x=(A,H)) :
  gCH dec pre enc A H k=k x:=by
 subst h1;exact gX_of ⟨h2,h3⟩
def appF(n:Nat)(f:Nat->List AV)(m:Nat)(g:Nat->List AV):Nat->List AV:=
 fun i=>bif Nat.blt i n then f i else bif Nat.blt i (n+m)then g (i - n)else f n
theorem appF_enc{X:Type}(e:X->List AV)(z:X)(l k:List X):appF l.length (fun i=>e (l.getD i z)) k.length (fun i=>e (k.getD i z))=fun i=>e ((l++k).getD i z):=by
 funext i
 unfold appF
 by_cases h:i<l.length
 ·have:Nat.blt i l.length=true:=by rw[Nat.blt_eq];exact h
  rw[this,cond_true]
  simp[List.getD,List.getElem?_append_left h]
 ·have h0:Nat.blt i l.length=false:=by
   cases hb:Nat.blt i l.length with
   | false=>rfl
   | true=>rw[Nat.blt_eq]at hb;exact absurd hb h
  rw[h0,cond_false]
  by_cases h1:i<l.length+k.length
  ·have:Nat.blt i (l.length+k.length)=true:=by rw[Nat.blt_eq];exact h1
   rw[this,cond_true]
   simp[List.getD,List.getElem?_append_right (Nat.le_of_not_lt h)]
  ·have:Nat.blt i (l.length+k.length)=false:=by
    cases hb:Nat.blt i (l.length+k.length)with
    | false=>rfl
    | true=>rw[Nat.blt_eq]at hb;exact absurd hb h1
   rw[this,cond_false]
   have e1:l[l.length]? = none:=List.getElem?_eq_none (Nat.le_refl _)
   have e2:(l++k)[i]? = none:=List.getElem?_eq_none (by simp;omega)
   simp[List.getD,e1,e2]
theorem appF_lit{X:Type}(e:X->List AV)(z:X)(l k:List X):appF l.length (fun i=>e (l.getD i z)) k.length (fun i=>(k.map e).getD i [])=fun i=>e ((l++k).getD i z):=by
 rw[<- appF_enc e z l k]
 funext i
 unfold appF
 cases h0:Nat.blt i l.length with
 | true=>rfl
 | false=>
  cases h1:Nat.blt i (l.length+k.length)with
  | false=>rfl
  | true=>
   simp only[cond_false,cond_true]
   rw[Nat.blt_eq]at h1
   have hi:l.length<=i:=by
    rcases Nat.lt_or_ge i l.length with h | h
    ·rw[show Nat.blt i l.length=true by rw[Nat.blt_eq];exact h]at h0;cases h0
    ·exact h
   have:i - l.length<k.length:=by omega
   simp[List.getD,List.getElem?_eq_getElem this]
theorem drop_cons{X:Type}{l:List X}{i:Nat}{z:X}(h:i<l.length):l.drop i=l.getD i z::l.drop (i+1):=by
 rw[List.drop_eq_getElem_cons h]
 simp[List.getD,List.getElem?_eq_getElem h]
theorem blt_true{a b:Nat}(h:a<b):Nat.blt a b=true:=by rw[Nat.blt_eq];exact h
theorem blt_false{a b:Nat}(h:b<=a):Nat.blt a b=false:=by
 cases hb:Nat.blt a b with
 | false=>rfl
 | true=>rw[Nat.blt_eq]at hb;omega
theorem ble_true{a b:Nat}(h:a<=b):Nat.ble a b=true:=by rw[Nat.ble_eq];exact h
theorem beq_false{a b:Nat}(h:a ≠ b):Nat.beq a b=false:=by
 cases hb:Nat.beq a b with
 | false=>rfl
 | true=>exact absurd (Nat.eq_of_beq_eq_true hb) h
theorem beq_true{a b:Nat}(h:a=b):Nat.beq a b=true:=by subst h;exact Nat.beq_refl a
def Known.specB{X:Type}(f:Nat)(dec:List AV->X)(pre:X->Prop)(enc:X->List AV)(out:X->AV × Heap):Known:=
 {f:=f,ans:=fun args hp=>match hp with
   | []=>some {X:=X,g:=cd (gP dec pre enc args),a:=dec args,r:=out}
   | _=>none}
theorem Known.specB_ok{P:Program}{X:Type}{f:Nat}{dec:List AV->X}{pre:X->Prop}{enc:X->List AV}{out:X->AV × Heap}
  (h:∀ x,pre x->Contract P f (enc x) [] (out x).1 (out x).2):(Known.specB f dec pre enc out).Ok P:=by
 intro args hp A e hg
 cases hp with
 | nil=>
  cases e
  obtain⟨h1,h2⟩:=cd_iff.1 hg
  exact⟨(h _ h1).args h2,Nat.zero_le _⟩
 | cons x r=>cases e
def outBlk{X:Type}(sz:Nat)(e:X->List AV)(z:X)(l:List X):AV × Heap:=(.sl sz 0 0 l.length 0,[.seq true sz l.length fun i=>e (l.getD i z)])
theorem hget_one(x:BS)(b:Nat):hget [x] b=if b=0 then x else .none:=by
 cases b with
 | zero=>rfl
 | succ b=>simp[hget]
theorem Contract.reblk{P:Program}{f:Nat}{args:List AV}{v v':AV}{x x':BS}(h:Contract P f args [] v [x])(hm:mutable x'=true)(hm':mutable x=true)
  (hv:∀ w I φ u,RV w I φ v u->RV w I φ v' u) (hb:∀ w I φ B o sz,RB w I φ B o sz x->RB w I φ B o sz x') (hph:phantom x->phantom x':=by first | exact id | exact fun h=>h.elim | exact fun h=>h):Contract P f args [] v' [x']:=by
 intro w I φ ra hh hx
 refine(h w I φ ra hh hx).mono fun u w' ⟨φ',I',a1,a2,a3⟩=>?_
 have hl:=live_of_mutable hm
 have hl':=live_of_mutable hm'
 have at0:∀ b,live (hget [x'] b)=true->b=0:=by
  intro b hb
  rw[hget_one]at hb
  split at hb
  ·assumption
  ·cases hb
 have key:∀ b,mutable (hget [x'] b)=true->mutable (hget [x] b)=true:=by
  intro b hb
  have:=at0 b (live_of_mutable hb)
  subst this
  exact hm'
 refine⟨φ',I',hv _ _ _ _ a1,⟨fun b e=>?_,fun b e=>?_,fun b b' B o sz o' sz' e e'=>a2.inj b b' B o sz o' sz' (key b e) (key b' e'),fun b B o sz e=>a2.disj b B o sz (key b e),fun b B o sz e e2=>?_,a2.lt⟩,
  ⟨a3.le,a3.Ile,a3.Inew,fun B ⟨b,o,sz,e,e2⟩=>a3.mt B ⟨b,o,sz,key b e,e2⟩,a3.ext⟩⟩
 ·rw[hget_one]at e
  split at e
  ·subst e;cases hl
  ·rename_i hb0
   exact a2.none b (by rw[hget_one,if_neg hb0])
 ·have:=at0 b e
  subst this
  rcases a2.blk 0 hl' with ⟨B,o,sz,e1,r⟩ | ⟨e1,hp⟩
  ·exact .inl ⟨B,o,sz,e1,hb _ _ _ _ _ _ r⟩
  ·exact .inr ⟨e1,hph hp⟩
 ·have:=at0 b e
  subst this
  have e2:mutable x'=false:=e2
  rw[hm]at e2;cases e2
theorem RV.slack{w:World}{I:Nat->Prop}{φ:Phi}{sz b off len cm:Nat}{u:Value}(h:RV w I φ (.sl sz b off len cm) u):RV w I φ (.sl sz b off len 0) u:=by
 cases h with
 | sl _ _ B o _ _ _ cap q h1 h2 h3 h4 h5=>exact .sl sz b B o off len 0 cap q h1 h2 h3 (Nat.zero_le _) h5
 | sle=>exact .sle sz b off _
theorem Contract.blkArr{P:Program}{f:Nat}{args:List AV}{X:Type}{sz cm:Nat}{e:X->List AV}{z:X}(l:List X)(hf:∀ x,(e x).all refFree=true)
  (h:Contract P f args [] (.sl sz 0 0 l.length cm) [.arr true sz (l.map e)]):Contract P f args [] (outBlk sz e z l).1 (outBlk sz e z l).2:=by
 refine h.reblk rfl rfl (fun w I φ u h=>h.slack) (fun w I φ B o s h=>?_)
 obtain⟨h1,h2,h3,h4⟩:=h
 have at':∀ i,i<l.length->(l.map e)[i]? = some (e (l.getD i z)):=fun i hi=>by simp[List.getD,List.getElem?_eq_getElem hi]
 refine⟨h1,h2,fun i hi=>h3 i _ (at' i hi),fun i k c hi hc=>?_⟩
 obtain⟨u,g1,g2,g3⟩:=h4 i _ k c (at' i hi) hc
 exact⟨u,g1,g2,g3.free (by simpa using (List.all_eq_true.1 (hf (l.getD i z))) c (List.mem_of_getElem? hc))⟩
end Go.AM
end
noncomputable section
set_option linter.unusedVariables false
namespace Go.AM
section
variable {X:Type} (sz:Nat) (e:X->List AV) (z:X)
def canF(l:List X):Nat->List AV:=fun i=>e (l.getD i (l.getD 0 z))
def gSl(b:Nat):List X->AV
 | []=>.nils
 | [_]=>.sl sz b 0 1 1
 | l=>.sl sz b 0 l.length 0
def gBl:List X->Heap
 | []=>[]
 | l=>[.seq true sz l.length (canF e z l)]
def gTr:List X->AV
 | []=>.nils
 | l=>.tr sz l.length (canF e z l)
end
section
variable {X:Type} {sz:Nat} {e:X->List AV} {z:X}
theorem canF_at{l:List X}{i:Nat}(h:i<l.length):canF e z l i=e (l.getD i z):=by
 unfold canF;simp[List.getD,List.getElem?_eq_getElem h]
theorem canF_one(x:X):(fun i=>[e x].getD i ([e x].getD 0 []))=canF e z [x]:=by
 funext i
 unfold canF
 cases i with
 | zero=>rfl
 | succ i=>simp[List.getD]
theorem canF_oneS(x:X):(fun i=>[e x].getD i (e x))=canF e z [x]:=canF_one x
theorem canF_app{l:List X}(h:l ≠ [])(x:X) :
  (fun i=>bif Nat.blt i l.length then canF e z l i else bif Nat.blt i (l.length+1)then [e x].getD (i - l.length) []else canF e z l l.length)=canF e z (l++[x]):=by
 funext i
 have h0:0<l.length:=List.length_pos_iff.2 h
 have hh:(l++[x]).getD 0 z=l.getD 0 z:=by unfold List.getD;rw[List.getElem?_append_left h0]
 by_cases h1:i<l.length
 ·rw[blt_true h1,cond_true]
  unfold canF
  rw[hh]
  simp[List.getD,List.getElem?_append_left h1]
 ·rw[blt_false (Nat.le_of_not_lt h1),cond_false]
  by_cases h2:i<l.length+1
  ·have:i=l.length:=by omega
   subst this
   rw[blt_true h2,cond_true]
   unfold canF
   simp[List.getD]
  ·rw[blt_false (by omega),cond_false]
   unfold canF
   rw[hh]
   have e1:l[l.length]? = none:=List.getElem?_eq_none (Nat.le_refl _)
   have e2:(l++[x])[i]? = none:=List.getElem?_eq_none (by simp;omega)
   simp[List.getD,e1,e2]
theorem canF_app1(a x:X):(fun i=>bif Nat.blt i 1 then canF e z [a] i else bif Nat.blt i 2 then [e x].getD (i - 1) []else canF e z [a] 1)=canF e z [a,x]:=canF_app (l:=[a]) (by simp) x
theorem gSl_app{b:Nat}{l:List X}(h:l ≠ [])(x:X):gSl sz b (l++[x])=.sl sz b 0 (l.length+1) 0:=by
 match l,h with
 | [a],_=>rfl
 | a::c::r,_=>
  show AV.sl sz b 0 ((a::c::(r++[x])).length) 0=_
  simp
theorem gBl_app{l:List X}(h:l ≠ [])(x:X):gBl sz e z (l++[x])=[.seq true sz (l.length+1) (canF e z (l++[x]))]:=by
 match l,h with
 | a::r,_=>
  show [BS.seq true sz ((a::(r++[x])).length) _]=_
  simp
theorem gTr_sub(l:List X):SubV (gTr sz e z l) (encL sz e z l):=by
 match l with
 | []=>exact .nils
 | a::r=>exact SubV.trs fun i hi=>by rw[canF_at hi];exact .refl _
theorem dec_gTr{d:List AV->X}(hd:∀ x,d (e x)=x)(l:List X):decL d (gTr sz e z l)=l:=by
 match l with
 | []=>rfl
 | a::r=>
  show(List.range (a::r).length).map (fun i=>d (canF e z (a::r) i))=a::r
  refine List.ext_getElem (by simp) fun i h1 h2=>?_
  simp only[List.getElem_map,List.getElem_range]
  rw[canF_at h2,hd]
  simp[List.getD,List.getElem?_eq_getElem h2]
end
def room1{R:Type}(n b:Nat)(k:Option R):Option R:=
 bif Nat.beq n 0||Nat.ble n n then bif Nat.ble ((n+1)*b) 140737488355328&&Nat.ble (n+1) 140737488355328 then k else none else none
theorem room1_eq{R:Type}{n b:Nat}{k:Option R}(hb:b<=1000)(h:n<=1000000):room1 n b k=k:=by
 unfold room1
 have h1:(n+1)*b<=140737488355328:=by
  have:(n+1)*b<=1000001*1000:=Nat.mul_le_mul (by omega) hb
  omega
 rw[ble_true (Nat.le_refl n),ble_true h1,ble_true (by omega:n+1<=140737488355328)]
 simp
theorem orU(n:Nat):(Nat.beq n 0||Nat.ble n n)=true:=by rw[ble_true (Nat.le_refl n)];simp
end Go.AM
end
noncomputable section
open Go Go.AM Go.Proofs
namespace Go.Wk
set_option maxRecDepth 100000
def PG:Program:=Tryz.prog
def liveTab:List (Nat × Nat × List Nat):=[
(5,0,[0,3,4,5]),
(5,2,[0,3,4,5,8,9]),
(5,4,[0,3,4,5,8,9,10,11]),
(5,6,[0,3,4,5,8,12]),
(7,0,[1,3]),
(8,0,[3,13,14,15]),
(9,0,[0,4,6,8,9]),
(10,0,[0,1,5]),
(11,0,[1,3,4]),
(12,0,[2,3,5]),
(21,0,[1,3,30,31]),
(22,0,[0,2,4,5,22,23]),
(25,0,[0,1,5]),
(33,0,[4,6,19,20]),
(33,2,[4,6,42,43]),
(34,0,[1,2,18,19]),
(35,0,[0,5]),
(40,0,[0,2,13,14,15]),
(42,0,[0,2,13,14,15]),
(44,0,[0,2,13,14,15]),
(68,0,[0,3,4]),
(70,0,[0,3,4]),
(73,0,[0,3,4]),
(74,0,[0,3,4]),
(75,0,[0,3,4]),
(78,1001,[0,4,6]),
(78,1000,[4,6]),
(81,0,[22,23,24]),
(82,0,[1,2,10,11]),
(89,1,[0,1,4,5,57,58,59]),
(92,0,[0,7,8,9]),
(95,0,[0,2,13,14,15]),
(97,1001,[0,1,7,8]),
(97,1002,[1,7]),
(97,1000,[]),
(102,0,[0,2,9,11,32,33]),
(104,0,[0,2,9,11,32,33]),
(106,0,[0,2,9,11,32,33]),
(112,0,[3,4]),
(113,0,[0,3,4]),
(118,0,[0,3,4]),
(121,0,[0,3,4]),
(122,0,[0,3,4]),
(123,0,[0,1,7,8]),
(128,0,[0,12,13,14]),
(133,0,[0,3,4,13,14,15]),
(134,0,[0,4,67,68,69]),
(137,0,[0,3,4,5,6,29,30,31]),
(138,0,[3,5,9,10,11]),
(144,0,[3,4,9,10,11]),
(148,0,[0,2,9,11,32,33]),
(155,0,[0,1,7,8]),
(159,0,[0,1,2,8,9,10]),
(164,0,[1,5,8,9,10]),
(169,0,[0,1,12,13]),
(172,0,[2,5,6,65,66,67]),
(173,0,[1,2,4,6,7,8,14,15,16]),
(174,0,[1,3,9,16,17,18]),
(176,0,[0,3,10,11,12]),
(179,0,[0,7,8]),
(183,0,[3,7,8,9]),
(184,0,[0,1,7,8]),
(188,0,[0,1,5,9,10]),
(190,0,[0,1,5,6]),
(196,0,[0,2,3]),
(197,0,[0,1,7,8])]
def modes1:List Nat:=[14,20,34,82,87,90,91,92,131,146,147,151,178,179,180,192]
def modes2:List Nat:=[13,17,18,19,26,29,30,32,40,42,44,47,49,51,53,55,57,58,60,61,63,64,66,77,81,83,84,85,86,88,89,95,99,100,101,102,103,104,105,106,107,108,109,111,119,120,124,125,126,127,128,129,130,132,133,134,135,136,137,139,140,141,142,143,145,148,149,152,153,154,155,156,157,158,159,161,162,163,165,166,168,169,170,171,172,176,181,182,184,185,186,189,190,191,193,194,195,196,197,206,207,208,209,210,213]
def modes3:List Nat:=[]
def modes4:List Nat:=[35,36,37,38,39,41,43,45,46,79,96,123]
def envM(md:Nat->Option Nat)(o:Nat->List AV->Heap->Option Answer):Env where
 tt:=tiOf PG
 code:=codeOf PG
 mode f:=match md f with
  | some k=>k
  | none=>bif nmem f modes1 then 1 else bif nmem f modes2 then 2 else bif nmem f modes4 then 4 else bif nmem f modes3 then 3 else 0
 live f b:=liveOf f b liveTab
 orc:=o
def envO(l:List Known):Env:=envM (fun _=>none) (orcOf l)
theorem envM_ok{md:Nat->Option Nat}{l:List Known}(h:∀ k ∈ l,k.Ok PG):EnvOk PG (envM md (orcOf l)):=⟨tt_ok rfl,orc_ok h⟩
theorem envM_code{md:Nat->Option Nat}{o:Nat->List AV->Heap->Option Answer}:CodeOk PG (envM md o):=codeOf_ok rfl
theorem mixed:PG.follows .mixedOrders=true:=by kernel_rfl
theorem con_of{md:Nat->Option Nat}{l:List Known}(h:∀ k ∈ l,k.Ok PG){n f:Nat}{args:List AV}{r:AV}(e:callT (envM md (orcOf l)) n f args=some r):Contract PG f args [] r []:=
 callT_ok (envM_ok h) envM_code mixed e
def F_lockgatelaw22_KeeperMemory:Nat:=5
def F_lockgatelaw22_awake:Nat:=6
def F_keeper_Put:Nat:=8
def F_keeper_Get:Nat:=9
def F_lockgateref22_Put:Nat:=11
def F_keeper_Open:Nat:=13
def F_disk_New:Nat:=14
def F_lockgateref22_Conf:Nat:=15
def F_lockgateref22_Msg:Nat:=16
def F_keeper_Keeper_Handle:Nat:=17
def F_keeper_Keeper_Tick:Nat:=18
def F_keeper_Keeper_Bureau:Nat:=19
def F_slices_Clone_api_Member:Nat:=20
def F_msg_Put:Nat:=21
def F_bytes_Equal:Nat:=23
def F_wal_Open:Nat:=26
def F_keeper_Keeper_do:Nat:=29
def F_keeper_Keeper_Handle_c1:Nat:=30
def F_coord_Handle:Nat:=31
def F_keeper_Keeper_Tick_c1:Nat:=32
def F_coord_Tick:Nat:=33
def F_twin_Bureau:Nat:=34
def F_wire_Int:Nat:=35
def F_wire_Bool:Nat:=36
def F_wire_Text:Nat:=37
def F_wire_Ver:Nat:=38
def F_entry_PutOp:Nat:=39
def F_msg_putList_api_Entry:Nat:=40
def F_entry_Put:Nat:=41
def F_msg_putList_api_Member:Nat:=42
def F_msg_putMember:Nat:=43
def F_msg_putList_api_View:Nat:=44
def F_msg_putView:Nat:=45
def F_msg_putImage:Nat:=46
def F_wal_inFront:Nat:=77
def F_frame_Put:Nat:=79
def F_wal_Log_Add:Nat:=83
def F_wal_Log_Flush:Nat:=84
def F_wal_Log_Size:Nat:=85
def F_wal_Log_Save:Nat:=86
def F_coord_desk_look:Nat:=88
def F_coord_desk_again:Nat:=89
def F_slices_Clone_api_Alive:Nat:=90
def F_twin_Msgs:Nat:=92
def F_msg_putList_api_Seen:Nat:=95
def F_msg_putSeen:Nat:=96
def F_disk_Disk_First:Nat:=119
def F_disk_Disk_Read:Nat:=120
def F_hash_Sum:Nat:=122
def F_disk_Disk_Append:Nat:=127
def F_disk_Disk_Sync:Nat:=128
def F_coord_desk_reset:Nat:=137
def F_coord_Up:Nat:=138
def F_coord_oneDown:Nat:=140
def F_coord_oneUp:Nat:=141
def F_coord_desk_grows:Nat:=142
def F_coord_desk_end:Nat:=143
def F_coord_frozen:Nat:=144
def F_slices_Clone_api_Msg:Nat:=146
def F_twin_Msg:Nat:=147
def F_slices_Clone_byte:Nat:=151
def F_disk_Disk_change:Nat:=152
def F_disk_state_do:Nat:=153
def F_disk_Disk_count:Nat:=154
def F_slices_IndexFunc_api_Msg:Nat:=155
def F_slices_BinarySearchFunc_int:Nat:=159
def F_coord_desk_beat_c1:Nat:=160
def F_slices_Insert_api_Alive:Nat:=161
def F_place_Both:Nat:=164
def F_slices_ContainsFunc_api_Member:Nat:=165
def F_coord_oneDown_c1:Nat:=166
def F_coord_isUp:Nat:=167
def F_coord_oneUp_c1:Nat:=168
def F_slices_Equal_api_Member:Nat:=169
def F_coord_desk_grows_c1:Nat:=170
def F_coord_desk_grows_c1_c1:Nat:=171
def F_coord_desk_may:Nat:=172
def F_coord_best:Nat:=173
def F_place_Chain:Nat:=174
def F_place_Lead:Nat:=175
def F_coord_desk_wasReset:Nat:=176
def F_slices_Clone_api_Entry:Nat:=178
def F_twin_Views:Nat:=179
def F_slices_Clone_api_Seen:Nat:=180
def F_view_Index:Nat:=183
def F_slices_IndexFunc_api_Member:Nat:=184
def F_coord_desk_may_c1:Nat:=185
def F_coord_desk_gone:Nat:=186
def F_ver_Ahead:Nat:=187
def F_place_turn:Nat:=188
def F_place_Chain_c1:Nat:=189
def F_slices_DeleteFunc_api_Msg:Nat:=190
def F_coord_desk_wasReset_c1:Nat:=191
def F_slices_ContainsFunc_api_Alive:Nat:=194
def F_coord_desk_gone_c1:Nat:=195
def F_slices_IndexFunc_api_Alive:Nat:=197
end Go.Wk
end
