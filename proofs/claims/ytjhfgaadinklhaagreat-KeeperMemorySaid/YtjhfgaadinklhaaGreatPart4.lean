/- Part 4 of the texts that the proof needs: the abstract machine, plain laws, contracts of the program's functions. No statement is claimed here. -/
import Derived.Test.YtjhfgaadinklhaaGreatPart3
import Derived.Test.YtjhfgaadinklhaaGreatRows
import Derived.WalkKit
import Derived.WalkSpells
import Derived.WalkLawsBesides
import Derived.Shelf.RegionOpenPlain
import Derived.Lib.AppendZerosOnto
import Derived.Shelf.Spec.SlicesInsert
set_option linter.unusedVariables false
set_option linter.unusedSimpArgs false
noncomputable section
open Go Go.AM Go.Md Go.Wk
namespace Go.Co
set_option maxRecDepth 100000
set_option maxHeartbeats 400000
inductive FF where
 | seq (l:List Msg)
 | one (c:Msg)
def FF.l:FF->List Msg
 | .seq l=>l
 | .one c=>[c]
def FF.av:FF->AV
 | .seq l=>.sl 31 3 0 l.length 0
 | .one _=>.sl 31 3 0 1 1
def FF.bs:FF->BS
 | .seq l=>.seq true 31 l.length fun i=>encMsg (l.getD i default)
 | .one c=>.arr true 31 [encMsg c]
def FF.tr:FF->AV
 | .seq l=>encMsgs l
 | .one c=>.trl 31 [encMsg c]
def hpDf(o:List Msg)(e g:Int)(ns:List Alive)(Aq O:AV)(c:CConf)(P W:List AV)(Fb:BS)(A:List BS):Heap:=.arr true 23 [dsk e g (.sl 8 1 0 1 1) (encAlives ns) (.sl 4 2 0 1 1) (opV o) Aq c O] :: .arr true 8 [P] :: .arr true 4 [W]::Fb::A
def wkT(s:ES)(F:AV):List AV:=[.bool s.fe,encMembers s.keep,F,.bool s.he]
def hpE1(s:ES)(x:FF)(b:Bool):Heap:=hpDf s.op s.e s.g s.ns (aqV b) .nils s.c (encPlan s.p) (wkT s x.av) x.bs []
def gFg{R:Type}(x:FF)(K:Option R):Option R:=match x with
 | .seq l=>bif(l.length.beq 0||l.length.ble l.length)&&true&&true then K else none
 | .one _=>K
def gFm{R:Type}(x:FF)(K:Option R):Option R:=match x with
 | .seq l=>bif(l.length.beq 0||l.length.ble l.length)&&true&&true&&true&&true&&true then K else none
 | .one _=>K
def gMay1{R:Type}(s:ES)(x:FF)(A:AV)(K:DS->Option R):Option R:=gC dMy pDS eMy [.tp (dsk s.e s.g (.trl 8 [encPlan s.p]) (encAlives s.ns) (.trl 4 [wkT s x.tr]) (opV s.op) A s.c .nils) 0,.int .i64 0] K
def gBe1{R:Type}(s:ES)(x:FF)(K:WI->Option R):Option R:=gC dWI pWI eWI [.agg (wkT s x.tr),.int .i64 s.p.base] K
def hpT1(y:WR)(x:FF)(b:Bool)(O:AV)(A:List BS):Heap:=hpDf y.op y.e y.g y.ns (aqV b) O y.c (encPlan y.p) wk0 x.bs A
def tail1(x:FF)(b:Bool)(y:WR):Option (AV × Heap):=
 bif decide ((y.p.chain.length:Int)=0)then some (.bool true,hpT1 y x b .nils [])
 else bif decide (0<(y.p.chain.length:Int))then gMs y.p.chain fun ch=>some (.bool true,hpT1 y x b (.sl 31 4 0 1 1) [.arr true 31 [actM y.p ch]])else none
def core1(T:WR->Option (AV × Heap))(s:ES)(x:FF)(up:List Member):Option (AV × Heap):=
 gFg x (gBe1 s x fun y2=>bif(bestP y2.1 y2.2).isSome then
   bif !s.p.fresh then gLd s.keep (fstB (bestP y2.1 y2.2)) fun y3=>gCh (leadP y3.1 y3.2) up s.c.chain fun y4=>gMs s.keep fun y5=>T (wrE s s.g {s.p with phase:=3,chain:=chainP y4.1.1 y4.1.2 y4.2,valid:=y5})
   else bif s.p.fresh then bif decide (0<(s.p.chain.length:Int))then freshG T s (IntKind.i64.wrap (s.g+1)) (IntKind.i64.wrap (s.g+1)) up else freshG T s s.g s.p.gen up
    else freshG T s s.g s.p.gen up
  else bif s.p.fresh then bif decide (0<(s.p.chain.length:Int))then freshG T s (IntKind.i64.wrap (s.g+1)) (IntKind.i64.wrap (s.g+1)) up else freshG T s s.g s.p.gen up
   else freshG T s s.g s.p.gen up)
theorem end1(s:ES)(x:FF)(b:Bool):callH (envHd kn14) 12 F_coord_desk_end [.ptr 0 0 0,.int .i64 0] (hpE1 s x b) =
 gFm x (gMay1 s x (aqV b) fun y0=>bif !mayP y0 then some (.bool false,hpE1 s x b)else gUpM s.e s.g s.ns s.c fun y1=>core1 (tail1 x b) s x (upP y1.ns y1.c.susp)):=by
 obtain⟨e,g,p,ns,nb,op,keep,fz,fe,he,l,c⟩:=s
 cases x <;> cases b <;> kernel_rfl
def hpE2(s:ES)(x:FF):Heap:=hpDf s.op s.e s.g s.ns (.sl 31 4 0 s.l.length 0) .nils s.c (encPlan s.p) (wkT s x.av) x.bs [blkA s.l]
def gFn{R:Type}(x:FF)(l:List Ask)(K:Option R):Option R:=match x with
 | .seq f=>bif((((f.length.beq 0||f.length.ble f.length)&&true)&&true)&&true&&((l.length.beq 0||l.length.ble l.length)&&true))&&true then K else none
 | .one _=>bif(l.length.beq 0||l.length.ble l.length)&&true&&true then K else none
def hpF2(y:WR)(x:FF):Heap:=hpDf y.op y.e y.g y.ns (.sl 31 4 0 0 0) (.sl 31 5 0 (y.l.length+1) 0) y.c (encPlan y.p) wk0 x.bs [clrA y.l,.seq true 31 (y.l.length+1) (canF idC [] (outW y))]
def tail2(x:FF)(y:WR):Option (AV × Heap):=
 bif decide ((y.p.chain.length:Int)=0)then gCH dWR pWR eWR [.ptr 0 0 0,.int .i64 0] (hpT y .nils []) fun z=>some (.bool true,hpF2 z x)
 else bif decide (0<(y.p.chain.length:Int))then gMs y.p.chain fun ch=>gCH dWR pWR eWR [.ptr 0 0 0,.int .i64 0] (hpT y (.sl 31 4 0 1 1) [.arr true 31 [actM y.p ch]]) fun z=>some (.bool true,hpF2 z x)else none
theorem end2(s:ES)(x:FF)(hb:s.nb=false)  : callH (envHd kn12) 12 F_coord_desk_end [.ptr 0 0 0,.int .i64 0] (hpE2 s x) =
 gFn x s.l (gMay1 s x (encAsks s.l) fun y0=>bif !mayP y0 then some (.bool false,hpE2 s x)else gUpM s.e s.g s.ns s.c fun y1=>core1 (tail2 x) s x (upP y1.ns y1.c.susp)):=by
 obtain⟨e,g,p,ns,nb,op,keep,fz,fe,he,l,c⟩:=s
 cases hb
 cases x <;> kernel_rfl
def lnOf:List Msg->LN Msg
 | []=>.emp
 | a::t=>.ne a t
theorem lnOf_l(l:List Msg):(lnOf l).l=l:=by cases l <;> rfl
def sF(s:ES)(x:FF):ES:={s with fz:=lnOf x.l}
theorem wkE_sF(s:ES)(x:FF):wkE (sF s x)=⟨s.fe,s.keep,x.l,s.he⟩:=by
 show(⟨s.fe,s.keep,(lnOf x.l).l,s.he⟩:Work)=_
 rw[lnOf_l]
theorem wkT_dec(s:ES)(x:FF):decWork (wkT s x.tr)=wkE (sF s x):=by
 rw[wkE_sF]
 cases x with
 | seq l=>
  show(⟨s.fe,decL decMember (encMembers s.keep),decL decMsg (encMsgs l),s.he⟩:Work)=_
  rw[decMembers,decMsgs];rfl
 | one c=>
  show(⟨s.fe,decL decMember (encMembers s.keep),[decMsg (encMsg c)],s.he⟩:Work)=_
  rw[decMembers,dec_encMsg];rfl
theorem wkT_sub(s:ES)(x:FF):SubC (wkT s x.tr) (encWork (wkE (sF s x))):=by
 rw[wkE_sF]
 cases x with
 | seq l=>exact .refl _
 | one c=>exact .cons (.refl _) (.cons (.refl _) (.cons (SubV.trl_encL (e:=encMsg) (z:=default) [c]) (.cons (.refl _) .nil)))
theorem gMay1_of{R:Type}{s:ES}{x:FF}{A:AV}{aq:List Msg}{K:DS->Option R}(h1:SubV A (encMsgs aq))(h2:decL decMsg A=aq)(h:pDS (dsE (sF s x) aq)):gMay1 s x A K=K (dsE (sF s x) aq):=by
 refine gC_eq (dsE (sF s x) aq) ?_ h ?_
 ·show(⟨⟨s.e,s.g,([decPlan (encPlan s.p)]:List Plan).headD default,decL decAlive (encAlives s.ns),([decWork (wkT s x.tr)]:List Work).headD default,decL decMsg (opV s.op),decL decMsg A⟩,⟨s.c.chain,s.c.susp,s.c.sess⟩,.nils⟩:DS)=_
  rw[dec_encPlan,decAlives,wkT_dec,opV_dec,h2];rfl
 ·refine .cons (SubV.tp ?_) (.cons (.refl _) .nil)
  have hp:SubV (.trl 8 [encPlan s.p]) (encPlans [s.p]):=SubV.trl_encL (e:=encPlan) (z:=default) [s.p]
  have hw:SubV (.trl 4 [wkT s x.tr]) (encWorks [wkE (sF s x)]):=SubV.trans (one_trl (wkT_sub s x)) (SubV.trl_encL (e:=encWork) (z:=default) [wkE (sF s x)])
  have hopS:SubV (opV s.op) (encMsgs (sF s x).op):=opV_sub s.op
  exact .cons (.refl _) (.cons (.refl _) (.cons hp (.cons (.refl _) (.cons hw (.cons hopS (.cons h1 (.refl _)))))))
theorem gBe1_of{R:Type}{s:ES}{x:FF}{K:WI->Option R}(h:pWI (wkE (sF s x),s.p.base)):gBe1 s x K=K (wkE (sF s x),s.p.base):=by
 refine gC_eq (wkE (sF s x),s.p.base) ?_ h (.cons (.agg (wkT_sub s x)) (.cons (.refl _) .nil))
 show(decWork (wkT s x.tr),s.p.base)=_
 rw[wkT_dec]
theorem gFg_eq{R:Type}{x:FF}{K:Option R}:gFg x K=K:=by
 cases x with
 | seq l=>unfold gFg;simp only[orU,Bool.and_true,cond_true]
 | one c=>rfl
theorem gFm_eq{R:Type}{x:FF}{K:Option R}:gFm x K=K:=by
 cases x with
 | seq l=>unfold gFm;simp only[orU,Bool.and_true,cond_true]
 | one c=>rfl
theorem gFn_eq{R:Type}{x:FF}{l:List Ask}{K:Option R}:gFn x l K=K:=by
 cases x with
 | seq f=>unfold gFn;simp only[orU,Bool.and_true,cond_true]
 | one c=>unfold gFn;simp only[orU,Bool.and_true,cond_true]
theorem core1_eq{T:WR->Option (AV × Heap)}{s:ES}{x:FF}(h:EOk (sF s x)):core1 T s x (upP s.ns s.c.susp)=coreG T (sF s x):=by
 unfold core1 coreG
 rw[gFg_eq,gBe1_of h.wi,gBeE_of h.wi]
 rfl
def hpEF(s:ES)(x:FF)(b:Bool):Heap:=match s.l with
 | []=>hpE1 s x b
 | _::_=>hpE2 s x
def outF(y:WR)(x:FF)(b:Bool):Heap:=match y.l with
 | []=>hpT1 y x b (.sl 31 4 0 1 1) [.arr true 31 [actC y.p]]
 | _::_=>hpF2 y x
def oEndF(s:ES)(x:FF)(b:Bool):AV × Heap:=(.bool (mayE (sF s x)),bif mayE (sF s x)then outF (wrE s (endP (sF s x)).1 (endP (sF s x)).2) x b else hpEF s x b)
theorem tail1_of{y:WR}{x:FF}{b:Bool}(hl:y.l=[])(hc:y.p.chain ≠ [])(hc2:y.p.chain.length<=1000):tail1 x b y=some (.bool true,outF y x b):=by
 have h0:0<y.p.chain.length:=List.length_pos_iff.2 hc
 unfold tail1 outF
 rw[decide_eq_false (by omega),cond_false,decide_eq_true (by omega),cond_true,gMs_eq _ (by unfold shortL LB;omega),hl]
 rfl
theorem tail2_of{y:WR}{x:FF}{b:Bool}(hn:y.nb=false)(hl:y.l ≠ [])(hl2:y.l.length<=1000)(hc:y.p.chain ≠ [])(hc2:y.p.chain.length<=1000):tail2 x y=some (.bool true,outF y x b):=by
 have h0:0<y.p.chain.length:=List.length_pos_iff.2 hc
 have hw:pWR y:=⟨by omega,hl⟩
 have eh:hpT y (.sl 31 4 0 1 1) [.arr true 31 [actM y.p y.p.chain]]=(eWR y).2:=by
  obtain⟨e,g,p,ns,nb,op,l,c⟩:=y
  subst hn
  rfl
 unfold tail2
 rw[decide_eq_false (by omega),cond_false,decide_eq_true (by omega),cond_true,gMs_eq _ (by unfold shortL LB;omega),eh]
 have e1:=gWas_eq (K:=fun z=>some (AV.bool true,hpF2 z x)) hw
 unfold gWas at e1
 refine Eq.trans e1 ?_
 unfold outF
 cases hx:y.l with
 | nil=>exact absurd hx hl
 | cons a t=>rfl
theorem endF_con{s:ES}{x:FF}{b:Bool}(h:EOk (sF s x))(hn:s.nb=false) :
  Contract PG F_coord_desk_end [.ptr 0 0 0,.int .i64 0] (hpEF s x b) (oEndF s x b).1 (oEndF s x b).2/\(hpEF s x b).length<=(oEndF s x b).2.length:=by
 have hns:=h.ns
 have hns:s.ns.length<=1000:=hns
 have core:∀ {T:WR->Option (AV × Heap)} {H:Heap},H=hpEF s x b->(∀ g p,p.chain ≠ []->p.chain.length<=1000->T (wrE s g p)=some (.bool true,outF (wrE s g p) x b)) ->
   (bif !mayP (dsE (sF s x) (s.l.map askM))then some (.bool false,H)else core1 T s x (upP s.ns s.c.susp))=some (oEndF s x b):=by
  intro T H hH hT
  rw[core1_eq h]
  show(bif !mayE (sF s x)then some (AV.bool false,H)else coreG T (sF s x))=some (.bool (mayE (sF s x)),bif mayE (sF s x)then outF (wrE s (endP (sF s x)).1 (endP (sF s x)).2) x b else hpEF s x b)
  cases hm:mayE (sF s x)with
  | false=>rw[hH];rfl
  | true=>
   obtain⟨h1,h2⟩:=endP_chain h hm
   rw[Bool.not_true,cond_false,coreG_eq h hm]
   have:=hT (endP (sF s x)).1 (endP (sF s x)).2 h1 h2
   refine Eq.trans this ?_
   rfl
 cases hl:s.l with
 | nil=>
  have eh:hpEF s x b=hpE1 s x b:=by unfold hpEF;rw[hl]
  have e:=end1 s x b
  rw[gFm_eq,gMay1_of (aqV_sub b) (aqV_dec b) (h.ds _),gUpM_of (by omega)]at e
  have hc:=core (T:=tail1 x b) (H:=hpE1 s x b) eh.symm fun g p h1 h2=>tail1_of (y:=wrE s g p) hl h1 h2
  rw[hl]at hc
  rw[eh]
  exact conHdH kn14_ok (e.trans hc)
 | cons a t=>
  have hne:s.l ≠ []:=by rw[hl];exact List.cons_ne_nil _ _
  have eh:hpEF s x b=hpE2 s x:=by unfold hpEF;rw[hl]
  have e:=end2 s x hn
  have g1:SubV (encAsks s.l) (encMsgs (s.l.map askM)):=by rw[hl];exact akV_sub (.ne a t)
  have g2:decL decMsg (encAsks s.l)=s.l.map askM:=by rw[hl];exact akV_dec (.ne a t)
  rw[gFn_eq,gMay1_of g1 g2 (h.ds _),gUpM_of (by omega)]at e
  have hc:=core (T:=tail2 x) (H:=hpE2 s x) eh.symm fun g p h1 h2=>tail2_of (y:=wrE s g p) hn hne h.l h1 h2
  rw[eh]
  exact conHdH kn12_ok (e.trans hc)
structure EF where
 s:ES
 x:FF
 b:Bool
def eEF(y:EF):List AV × Heap:=([.ptr 0 0 0,.int .i64 0],hpEF y.s y.x y.b)
def dFF(F:AV)(B:BS):FF:=match B with
 | .seq _ _ n f=>.seq ((List.range n).map fun i=>decMsg (f i))
 | .arr _ _ [c]=>.one (decMsg c)
 | _=>.seq []
def dEF(_:List AV)(h:Heap):EF:=
 let d:=cell0 h 0
 let w:=cell0 h 2
 ⟨⟨getI d 0,getI d 1,decPlan (cell0 h 1),getL decAlive d 3,false,dOp (d.getD 5 .undef),getL decMember w 1,.nil,getB w 0,getB w 3,bif isSl (d.getD 6 .undef)then dAsks h 4 else [],⟨getI d 8,getI d 19,getI d 18⟩⟩,dFF (w.getD 2 .undef) (hget h 3),isTrl (d.getD 6 .undef)⟩
def nrmF(y:EF):EF:=⟨{y.s with nb:=false,fz:=.nil},y.x,match y.s.l with
 | []=>y.b
 | _::_=>false⟩
theorem dEF_eq(y:EF):dEF (eEF y).1 (eEF y).2=nrmF y:=by
 obtain⟨⟨e,g,p,ns,nb,op,keep,fz,fe,he,l,c⟩,x,b⟩:=y
 have hA:(List.range l.length).map (fun i=>decAsk (encAsk (l.getD i (0,0))))=l:=decL_encL (e:=encAsk) (d:=decAsk) (z:=(0,0)) (sz:=31) (fun _=>rfl) l
 have hK:decL decMember (encMembers keep)=keep:=decMembers keep
 have hN2:decL decAlive (encAlives ns)=ns:=decAlives ns
 have hP:=dec_encPlan p
 have hX:dFF x.av x.bs=x:=by
  cases x with
  | seq f=>
   have:(List.range f.length).map (fun i=>decMsg (encMsg (f.getD i default)))=f:=decL_encL (e:=encMsg) (d:=decMsg) (z:=default) (sz:=31) dec_encMsg f
   show FF.seq ((List.range f.length).map fun i=>decMsg (encMsg (f.getD i default)))=_
   rw[this]
  | one c0=>
   show FF.one (decMsg (encMsg c0))=_
   rw[dec_encMsg]
 cases l with
 | nil=>
  cases b
  ·show EF.mk ⟨e,g,decPlan (encPlan p),decL decAlive (encAlives ns),false,dOp (opV op),decL decMember (encMembers keep),.nil,fe,he,[],⟨c.chain,c.susp,c.sess⟩⟩ (dFF x.av x.bs) false=_
   rw[dOp_eq,hP,hN2,hK,hX];rfl
  ·show EF.mk ⟨e,g,decPlan (encPlan p),decL decAlive (encAlives ns),false,dOp (opV op),decL decMember (encMembers keep),.nil,fe,he,[],⟨c.chain,c.susp,c.sess⟩⟩ (dFF x.av x.bs) true=_
   rw[dOp_eq,hP,hN2,hK,hX];rfl
 | cons a t=>
  show EF.mk ⟨e,g,decPlan (encPlan p),decL decAlive (encAlives ns),false,dOp (opV op),decL decMember (encMembers keep),.nil,fe,he,(List.range (a::t).length).map (fun i=>decAsk (encAsk ((a::t).getD i (0,0)))),⟨c.chain,c.susp,c.sess⟩⟩ (dFF x.av x.bs) false=_
  rw[dOp_eq,hP,hN2,hK,hX,hA];rfl
theorem eEF_nrm(y:EF):eEF (nrmF y)=eEF y:=by
 obtain⟨⟨e,g,p,ns,nb,op,keep,fz,fe,he,l,c⟩,x,b⟩:=y
 cases l <;> rfl
def outTF(hp:Heap)(g:Int)(p:Plan)(l:List Ask):Heap:=
 let d:=cell0 hp 0
 let D:=fun(A O:AV)=>BS.arr true 23 [[d.getD 0 .undef,.int .i64 g,d.getD 2 .undef,d.getD 3 .undef,d.getD 4 .undef,d.getD 5 .undef,A,.int .i64 3,d.getD 8 .undef,.int .i64 1,.int .i64 0,.int .i64 0,.int .i64 0,.int .i64 0,.int .i64 0,.int .i64 0,.int .i64 0,.int .i64 0,d.getD 18 .undef,d.getD 19 .undef,.int .i64 0,.int .i64 0,O]]
 match d.getD 6 .undef with
 | .sl _ _ _ n _=>[D (.sl 31 4 0 0 0) (.sl 31 5 0 (n+1) 0),.arr true 8 [encPlan p],.arr true 4 [wk0],hget hp 3,clrB (hget hp 4),.seq true 31 (n+1) (canF idC [] (actC p::l.map ansC))]
 | A=>[D A (.sl 31 4 0 1 1),.arr true 8 [encPlan p],.arr true 4 [wk0],hget hp 3,.arr true 31 [actC p]]
theorem outTF_eq(s:ES)(x:FF)(b:Bool)(g:Int)(p:Plan):outTF (eEF ⟨s,x,b⟩).2 g p s.l=outF (wrE s g p) x b:=by
 obtain⟨e,g0,p0,ns,nb,op,keep,fz,fe,he,l,c⟩:=s
 cases l <;> cases b <;> rfl
def GF(t:Bool)(args:List AV)(hp:Heap):Prop:=(EOk (sF (dEF args hp).s (dEF args hp).x)/\eEF (dEF args hp)=(args,hp))/\mayE (sF (dEF args hp).s (dEF args hp).x)=t
def endHF(t:Bool)(hp:Heap):Heap:=bif t then outTF hp (endP (sF (dEF [] hp).s (dEF [] hp).x)).1 (endP (sF (dEF [] hp).s (dEF [] hp).x)).2 (dEF [] hp).s.l else hp
def ansEF(t:Bool)(args:List AV)(hp:Heap):Option Answer:=some {X:=Unit,g:=cd (GF t args hp),a:=(),r:=fun _=>(.bool t,endHF t hp)}
theorem ansEF_ok{t:Bool}{args:List AV}{hp:Heap}{A:Answer}(e:ansEF t args hp=some A)(hg:A.g=true):Contract PG F_coord_desk_end args hp (A.r A.a).1 (A.r A.a).2/\hp.length<=(A.r A.a).2.length:=by
 cases e
 obtain⟨⟨h1,h2⟩,h3⟩:=cd_iff.1 hg
 have:=endF_con (s:=(dEF args hp).s) (x:=(dEF args hp).x) (b:=(dEF args hp).b) h1 rfl
 have e3:hpEF (dEF args hp).s (dEF args hp).x (dEF args hp).b=hp:=congrArg Prod.snd h2
 have e4:([.ptr 0 0 0,.int .i64 0]:List AV)=args:=congrArg Prod.fst h2
 rw[e3,e4]at this
 have ho:oEndF (dEF args hp).s (dEF args hp).x (dEF args hp).b=(.bool t,endHF t hp):=by
  unfold oEndF endHF
  rw[h3,e3]
  cases t with
  | false=>rfl
  | true=>
   have hx:=outTF_eq (dEF args hp).s (dEF args hp).x (dEF args hp).b (endP (sF (dEF args hp).s (dEF args hp).x)).1 (endP (sF (dEF args hp).s (dEF args hp).x)).2
   have e5:(eEF ⟨(dEF args hp).s,(dEF args hp).x,(dEF args hp).b⟩).2=hp:=congrArg Prod.snd h2
   rw[e5]at hx
   exact congrArg (Prod.mk _) hx.symm
 rw[ho]at this
 exact this
def kE9(t:Bool):Known:={f:=F_coord_desk_end,ans:=fun args hp=>match isSl ((cell0 hp 2).getD 2 .undef)with
 | true=>ansEF t args hp
 | false=>(kEb t).ans args hp}
theorem kE9_ok(t:Bool):(kE9 t).Ok PG:=by
 intro args hp A e hg
 have e:(match isSl ((cell0 hp 2).getD 2 .undef)with
  | true=>ansEF t args hp
  | false=>(kEb t).ans args hp)=some A:=e
 cases hc:isSl ((cell0 hp 2).getD 2 .undef)with
 | true=>rw[hc]at e;exact ansEF_ok e hg
 | false=>rw[hc]at e;exact kEb_ok t args hp A e hg
def gEF{R:Type}(t:Bool)(A:List AV)(H:Heap)(K:Option R):Option R:=gX (GF t A H) () fun _=>K
theorem gEF_eq{R:Type}{t:Bool}{y:EF}{K:Option R}(h:EOk (sF y.s y.x))(ht:mayE (sF y.s y.x)=t):gEF t (eEF y).1 (eEF y).2 K=K:=by
 refine gX_of ⟨⟨?_,?_⟩,?_⟩
 ·rw[dEF_eq];exact⟨h.ch,h.ns,h.keep,h.fz,h.ver,h.c1,h.c2,h.l⟩
 ·rw[dEF_eq];exact eEF_nrm y
 ·rw[dEF_eq];exact ht
def kMsgB:Known:={f:=F_twin_Msgs,ans:=fun args hp=>match isEmpT (args.getD 0 .undef)with
 | true=>match args,hp with
  | [_],[]=>some {X:=Unit,g:=true,a:=(),r:=fun _=>(.trl 31 [],[])}
  | _,_=>none
 | false=>kMsgs.ans args hp}
theorem kMsgB_ok:kMsgB.Ok PG:=by
 intro args hp A e hg
 unfold kMsgB at e
 simp only[]at e
 cases hE:isEmpT (args.getD 0 .undef)with
 | true=>
  rw[hE]at e
  simp only[]at e
  split at e
  ·rename_i v
   cases e
   have:v=.trl 31 []:=isEmpT_eq hE
   subst this
   exact⟨emp_con,Nat.le_refl _⟩
  ·cases e
 | false=>rw[hE]at e;exact kMsgs_ok args hp A e hg
def kMsgBO(l:List Msg):Known:={f:=F_twin_Msgs,ans:=fun args hp=>match isTn (args.getD 0 .undef)with
 | true=>(kOpC l).ans args hp
 | false=>kMsgB.ans args hp}
theorem kMsgBO_ok(l:List Msg):(kMsgBO l).Ok PG:=by
 intro args hp A e hg
 unfold kMsgBO at e
 simp only[]at e
 cases hE:isTn (args.getD 0 .undef)with
 | true=>rw[hE]at e;exact kOpC_ok l args hp A e hg
 | false=>rw[hE]at e;exact kMsgB_ok args hp A e hg
def kn38(t:Bool)(l:List Msg):List Known:=[kMsgBO l,kMsgM,kCloneAlive,kCloneMember,kFrozen,kE9 t]
theorem kn38_ok(t:Bool)(l:List Msg):∀ k ∈ kn38 t l,k.Ok PG:=ak (kMsgBO_ok l) (ak kMsgM_ok (ak kCloneAlive_ok (ak kCloneMember_ok (ak kFrozen_ok (ak (kE9_ok t) ank)))))
def gAk9{R:Type}(l:List Ask)(b:Bool)(K:(Nat->AV)->List BS->Option R):Option R:=match l with
 | []=>K (fun _=>aqV b) []
 | a::t=>gC dAk pAk eAk [encAsks (a::t)] fun y=>K (fun q=>.sl 31 q 0 y.length 0) [blkA y]
def gBu9{R:Type}(s:ES)(b:Bool)(K:Plan->List Alive->List Member->(Nat->AV)->List BS->Option R):Option R:=
 gMs s.p.chain fun y0=>gMs s.p.valid fun y1=>gAls s.ns fun y2=>gMs s.keep fun y3=>gOp s.op <| gAk9 s.l b fun A B=>K {s.p with chain:=y0,valid:=y1} y2 y3 A B
theorem h9n(t:Bool)(s:ES)(b:Bool)(m:Msg)(hf:s.fz=.nil):callT (envK2 (kn38 t s.op)) 20 F_coord_Handle [.agg (buV s b),.agg (encCf s.c),.agg (encMsg (kM m 9))] =
 gBu9 s b fun p ns ke A B=>bif decide (s.p.phase=1)then bif !decide (s.p.epoch=m.epoch)then fin (hpB s p ns [.bool s.fe,encMembers ke,.nils,.bool s.he] (A 3) B)
  else gC dWM pWM eWM [.agg [.bool s.fe,encMembers ke,.nils,.bool s.he],.agg [.int .i64 m.src,.int .i64 m.sboot]] fun _=>
   gC dM1 CpOk eM1 [.agg (encMsg (kM m 9))] fun z=>gEF t A0 (hpDf s.op s.e s.g ns (A 4) .nils s.c (encPlan p) [.bool s.fe,encMembers ke,.sl 31 3 0 1 1,.bool s.he] (.arr true 31 [encMsg z]) B)
    (fin (endHF t (hpDf s.op s.e s.g ns (A 4) .nils s.c (encPlan p) [.bool s.fe,encMembers ke,.sl 31 3 0 1 1,.bool s.he] (.arr true 31 [encMsg z]) B)))
  else fin (hpB s p ns [.bool s.fe,encMembers ke,.nils,.bool s.he] (A 3) B):=by
 obtain⟨e,g,p,ns,nb,op,keep,fz,fe,he,l,c⟩:=s
 cases hf
 cases t <;> cases l <;> cases b <;> kernel_rfl
def fnB:AV:=.fn (.func F_coord_desk_beat_c1) [] []
def SBs(ns:List Alive)(t i j:Int):St:={fr:=[(0,encAlives ns),(1,.int .i64 t),(2,fnB),(8,.int .i64 ns.length),(9,.int .i64 i),(10,.int .i64 j)],hp:=[]}
theorem bs_in(N:Nat)(ns:List Alive)(t:Int):callT env0 (N+4) F_slices_BinarySearchFunc_int [encAlives ns,.int .i64 t,fnB]=LP env0 (N+3) 0 F_slices_BinarySearchFunc_int snK 0 [] (N+3) (SBs ns t 0 ns.length):=by kernel_rfl
def mid(i j:Int):Int:=IntKind.i64.wrap ((IntKind.u64.wrap (IntKind.i64.wrap (i+j))).fdiv (2 ^ min (Int.toNat 1) IntKind.u64.bits))
def nodeAt(ns:List Alive)(i:Nat):Int:=(ns.getD i default).member.node
theorem bs_st(N m:Nat)(ns:List Alive)(t i j:Int):LP env0 (N+3) 0 F_slices_BinarySearchFunc_int snK 0 [] (m+1) (SBs ns t i j) =
 bif decide (i<j)then rg (mid i j) ns.length <|
  bif decide (nodeAt ns (mid i j).toNat<t)then LP env0 (N+3) 0 F_slices_BinarySearchFunc_int snK 0 [] m (SBs ns t (IntKind.i64.wrap (mid i j+1)) j)
  else bif decide (t<nodeAt ns (mid i j).toNat)then LP env0 (N+3) 0 F_slices_BinarySearchFunc_int snK 0 [] m (SBs ns t i (mid i j))else LP env0 (N+3) 0 F_slices_BinarySearchFunc_int snK 0 [] m (SBs ns t i (mid i j))
 else bif decide (i<(ns.length:Int))then rg i ns.length <|
   bif decide (nodeAt ns i.toNat<t)then some (.tup [.int .i64 i,.bool false])else bif decide (t<nodeAt ns i.toNat)then some (.tup [.int .i64 i,.bool false])else some (.tup [.int .i64 i,.bool true])
  else some (.tup [.int .i64 i,.bool false]):=by kernel_rfl
theorem mid_eq{i j:Nat}(hi:i<=100000)(hj:j<=100000):mid (i:Int) (j:Int)=((i+j) / 2:Nat):=by
 unfold mid
 have e0:(2:Int) ^ min (Int.toNat 1) IntKind.u64.bits=2:=by decide
 have e1:IntKind.i64.wrap ((i:Int)+(j:Int))=((i+j:Nat):Int):=by rw[IntKind.wrap_i64];omega
 have e2:IntKind.u64.wrap ((i+j:Nat):Int)=((i+j:Nat):Int):=by
  have:IntKind.u64.wrap ((i+j:Nat):Int)=((i+j:Nat):Int) % 18446744073709551616:=rfl
  rw[this];omega
 rw[e1,e2,e0,Int.fdiv_eq_ediv_of_nonneg _ (by omega),IntKind.wrap_i64]
 omega
def bsL(ns:List Alive)(t:Int):Nat->Nat->Nat->Nat
 | 0,i,_=>i
 | k+1,i,j=>bif decide (i<j)then bif decide (nodeAt ns ((i+j) / 2)<t)then bsL ns t k ((i+j) / 2+1) j else bsL ns t k i ((i+j) / 2)else i
def bsP(ns:List Alive)(t:Int):Nat:=bsL ns t (ns.length+1) 0 ns.length
theorem bsL_le{ns:List Alive}{t:Int}:∀ (k i j:Nat),i<=j->bsL ns t k i j<=j
 | 0,i,j,h=>h
 | k+1,i,j,h=>by
  unfold bsL
  by_cases hij:i<j
  ·rw[decide_eq_true hij,cond_true]
   cases decide (nodeAt ns ((i+j) / 2)<t)with
   | true=>exact bsL_le k _ _ (by omega)
   | false=>exact Nat.le_trans (bsL_le k i ((i+j) / 2) (by omega)) (by omega)
  ·rw[decide_eq_false hij,cond_false];exact h
theorem bsP_le(ns:List Alive)(t:Int):bsP ns t<=ns.length:=bsL_le _ _ _ (Nat.zero_le _)
def isAt(ns:List Alive)(t:Int)(i:Nat):Bool:=decide (i<ns.length)&&(!decide (nodeAt ns i<t) && !decide (t<nodeAt ns i))
def tBs(ns:List Alive)(t:Int)(i:Nat):AV:=.tup [.int .i64 i,.bool (isAt ns t i)]
theorem bs_exit{N m:Nat}{ns:List Alive}{t:Int}{i j:Nat}(hj:j<=ns.length)(hij:¬ i<j):LP env0 (N+3) 0 F_slices_BinarySearchFunc_int snK 0 [] (m+1) (SBs ns t (i:Int) (j:Int))=some (tBs ns t i):=by
 rw[bs_st,decide_eq_false (by omega),cond_false]
 unfold tBs isAt
 by_cases hn:i<ns.length
 ·rw[decide_eq_true (by omega),cond_true,rg_eq hn,Int.toNat_natCast,decide_eq_true hn,Bool.true_and]
  cases decide (nodeAt ns i<t) <;> cases decide (t<nodeAt ns i) <;> rfl
 ·rw[decide_eq_false (by omega),cond_false,decide_eq_false hn,Bool.false_and]
theorem bs_con(ns:List Alive)(t:Int)(h:ns.length<=100000):Contract PG F_slices_BinarySearchFunc_int [encAlives ns,.int .i64 t,fnB] [] (tBs ns t (bsP ns t)) []:=by
 have hN:∃ N,N=200000:=⟨_,rfl⟩
 obtain⟨N,hN⟩:=hN
 refine con0 (n:=N+4) ((bs_in N ns t).trans ?_)
 have run:∀ d i j m,j - i<=d->i<=j->j<=ns.length->d<m->LP env0 (N+3) 0 F_slices_BinarySearchFunc_int snK 0 [] m (SBs ns t (i:Nat) (j:Nat))=some (tBs ns t (bsL ns t (d+1) i j)):=by
  intro d
  induction d with
  | zero=>
   intro i j m hd hij hj hm
   obtain⟨m,rfl⟩:∃ k,m=k+1:=⟨m - 1,by omega⟩
   rw[bs_exit hj (by omega)]
   show _=some (tBs ns t (bsL ns t 1 i j))
   unfold bsL
   rw[decide_eq_false (by omega),cond_false]
  | succ d ih=>
   intro i j m hd hij hj hm
   obtain⟨m,rfl⟩:∃ k,m=k+1:=⟨m - 1,by omega⟩
   by_cases hlt:i<j
   ·have e:bsL ns t (d+1+1) i j=bif decide (nodeAt ns ((i+j) / 2)<t)then bsL ns t (d+1) ((i+j) / 2+1) j else bsL ns t (d+1) i ((i+j) / 2):=by
     conv=>lhs;unfold bsL
     rw[decide_eq_true hlt,cond_true]
    rw[e,bs_st,decide_eq_true (by omega),cond_true,mid_eq (by omega) (by omega),rg_eq (by omega),Int.toNat_natCast,wrapS (by omega)]
    cases decide (nodeAt ns ((i+j) / 2)<t)with
    | true=>exact ih _ _ m (by omega) (by omega) hj (by omega)
    | false=>
     rw[cond_false,cond_false]
     have:=ih i ((i+j) / 2) m (by omega) (by omega) (by omega) (by omega)
     cases decide (t<nodeAt ns ((i+j) / 2)) <;> exact this
   ·rw[bs_exit hj hlt]
    conv=>rhs;unfold bsL
    rw[decide_eq_false hlt,cond_false]
 exact run ns.length 0 ns.length (N+3) (by omega) (by omega) (Nat.le_refl _) (by omega)
abbrev AlI:=List Alive × Int
def dBs(a:List AV):AlI:=(decL decAlive (a.getD 0 .nils),getI a 1)
def eBs(p:AlI):List AV:=[encAlives p.1,.int .i64 p.2,fnB]
def pBs(p:AlI):Prop:=p.1.length<=100000
def kBs:Known:=.spec F_slices_BinarySearchFunc_int dBs pBs eBs (fun p=>tBs p.1 p.2 (bsP p.1 p.2))
theorem kBs_ok:kBs.Ok PG:=Known.spec_ok fun p h=>bs_con p.1 p.2 h
end Go.Co
end
noncomputable section
namespace Go.Proofs.YtjhfgaadinklhaaGreat
open Go.RowKit
set_option maxHeartbeats 1000000 in
set_option maxRecDepth 100000 in
theorem ins_shift(B q n c i vb voff vc:Nat)(w w1 w2:World)(hi:i<n)(hroom:n+1<=c)(hn63:n+1<=9223372036854775807)
  (hov:∀ x lb cb,(callFunc 181 #[.slice (some ⟨vb,voff,none⟩) 1 vc,.slice (some ⟨B,x,none⟩) lb cb]).run Tryz.prog w=.ok (.value (.bool false)) w)
  (hcp1:∀ ty l m dc sc,l=n - i->m=n+1 - i->(Builtin.copy_ #[64,64] ty #[.slice (some ⟨B,q+(i+1)*3,none⟩) l dc,.slice (some ⟨B,q+i*3,none⟩) m sc]).run Tryz.prog w.drew=.ok (goInt (n - i:Nat)) w1)
  (hcp2:∀ ty l dc,l=n+1 - i->(Builtin.copy_ #[64,64] ty #[.slice (some ⟨B,q+i*3,none⟩) l dc,.slice (some ⟨vb,voff,none⟩) 1 vc]).run Tryz.prog w1=.ok (goInt 1) w2) :
  Calls Tryz.prog 161 #[.slice (some ⟨B,q,none⟩) n c,.int .i64 i,.slice (some ⟨vb,voff,none⟩) 1 vc] w fun e w'=>
   e=.returned (.slice (some ⟨B,q,none⟩) (n+1) c)/\w'=w2:=by
 have hz1:¬ ((1:Int)=0):=by omega
 have hz2:¬ ((i:Int)=(n:Int)):=by omega
 have hw1:IntKind.i64.wrap ((i:Int)+(1:Int))=(i:Int)+(1:Int):=by rw[IntKind.wrap_i64];omega
 have hw2:IntKind.i64.wrap ((n:Int)+(1:Int))=(n:Int)+(1:Int):=by rw[IntKind.wrap_i64];omega
 have hb1:(0:Int)<=(i:Int)+(1:Int):=by omega
 have hin:i<=n:=by omega
 have htn:((i:Int)+(1:Int)).toNat=i+1:=by omega
 have hb2:¬ (c=i+1):=by omega
 have hb3:(i:Int)<=(n:Int)+(1:Int):=by omega
 have hb4:¬ (c=i):=by omega
 have mixed:Tryz.prog.follows .mixedOrders=true:=by kernel_rfl
 go_enter Tryz.func161,Tryz.ntmps161
 go_wp2_with (simp only[hov])
 go_region_law_o (refine step_copy_runI rfl _ _ 64 64 rfl _ _ (by simp[Act.eval,Act.put]) (by simp[Act.eval,Act.put]) (hcp1 _ _ _ _ _ (by omega) (by omega)) ?_)
 go_wp2_with (at_builtin;refine wpList_copy_runI _ rfl _ _ 64 64 rfl _ _ rfl rfl (hcp2 _ _ _ (by omega)) ?_)
 go_ret
 exact⟨rfl,rfl⟩
set_option maxHeartbeats 1000000 in
set_option maxRecDepth 100000 in
theorem ins_grow(B q n i vb voff vc NB G:Nat)(w w1 w2 w3:World)(hi:i<n)(hG:n+1<=G)(hG63:G<=9223372036854775807)(hn63:n+1<=9223372036854775807)
  (hap:∀ ty x,x=(n:Int)+1 - i->(Builtin.append_ #[64,3] ty #[.slice (some ⟨B,q,none⟩) i n,.int .i64 x]).run Tryz.prog w=.ok (.slice (some ⟨NB,0,none⟩) (n+1) G) w1)
  (hcp1:∀ ty l dc,l=n+1 - i->(Builtin.copy_ #[64,64] ty #[.slice (some ⟨NB,i*3,none⟩) l dc,.slice (some ⟨vb,voff,none⟩) 1 vc]).run Tryz.prog w1=.ok (goInt 1) w2)
  (hcp2:∀ ty l m dc sc,l=n - i->m=n - i->(Builtin.copy_ #[64,64] ty #[.slice (some ⟨NB,(i+1)*3,none⟩) l dc,.slice (some ⟨B,q+i*3,none⟩) m sc]).run Tryz.prog w2.drew=.ok (goInt (n - i:Nat)) w3) :
  Calls Tryz.prog 161 #[.slice (some ⟨B,q,none⟩) n n,.int .i64 i,.slice (some ⟨vb,voff,none⟩) 1 vc] w fun e w'=>
   e=.returned (.slice (some ⟨NB,0,none⟩) (n+1) G)/\w'=w3:=by
 have hz1:¬ ((1:Int)=0):=by omega
 have hz2:¬ ((i:Int)=(n:Int)):=by omega
 have hz3:(n:Int)<(n:Int)+1:=by omega
 have hw1:IntKind.i64.wrap ((i:Int)+(1:Int))=(i:Int)+(1:Int):=by rw[IntKind.wrap_i64];omega
 have hw2:IntKind.i64.wrap ((n:Int)+(1:Int))=(n:Int)+(1:Int):=by rw[IntKind.wrap_i64];omega
 have hw3:IntKind.i64.wrap ((n:Int)+(1:Int) - (i:Int))=(n:Int)+(1:Int) - (i:Int):=by rw[IntKind.wrap_i64];omega
 have hb1:(0:Int)<=(i:Int)+(1:Int):=by omega
 have hin:i<=n:=by omega
 have htn:((i:Int)+(1:Int)).toNat=i+1:=by omega
 have hb3:(i:Int)<=(n:Int)+(1:Int):=by omega
 have hb4:¬ (n=i):=by omega
 have hb5:¬ (G=i):=by omega
 have hb6:¬ (G=i+1):=by omega
 have mixed:Tryz.prog.follows .mixedOrders=true:=by kernel_rfl
 go_enter Tryz.func161,Tryz.ntmps161
 go_wp2_with (first
  | (at_builtin;refine Lib.wpList_append_run _ rfl _ _ _ _ rfl _ _ rfl rfl _ _ (hap _ _ (by omega)) ?_)
  | (at_builtin;refine wpList_copy_runI _ rfl _ _ 64 64 rfl _ _ rfl rfl (hcp1 _ _ _ (by omega)) ?_))
 go_region_law_o (refine step_copy_runI rfl _ _ 64 64 rfl _ _ (by simp[Act.eval,Act.put]) (by simp[Act.eval,Act.put]) (hcp2 _ _ _ _ _ (by omega) (by omega)) ?_)
 go_wp2
 go_ret
 exact⟨rfl,rfl⟩
end Go.Proofs.YtjhfgaadinklhaaGreat
end
noncomputable section
open Go Go.AM Go.Md
namespace Go.Wk
set_option maxRecDepth 100000
set_option maxHeartbeats 400000
theorem run_copy_sz{P:Program}(W:World)(dT sT ty elem:TypeId)(sz B dq dLen dCap sb sq sLen sCap:Nat)(vs:List Value){c:Array Value}{e:TypeId}{fz:Nat × Nat}
  (hu:P.underlying dT=some (.slice elem)) (hs:(P.info? elem).map (·.size)=some sz) (hn:vs.length=Nat.min sLen dLen*sz)
  (hsrc:∀ (j:Nat) v,vs[j]? = some v->W.cell? ⟨sb,sq+j,none⟩=some v) (hc:W.heap[B]? = some (.cells c e fz)) (hfit:dq+vs.length<=c.size) (ht:thawed c fz) (h1:∀ v ∈ vs,v.oneCell'=true) :
  (Builtin.copy_ #[dT,sT] ty #[.slice (some ⟨B,dq,none⟩) dLen dCap,.slice (some ⟨sb,sq,none⟩) sLen sCap]).run P W=.ok (goInt (Nat.min sLen dLen)) (World.setBlk W B (.cells (splice c dq vs) e fz)):=by
 have hl:=run_loadCells_of (P:=P) (w:=W) vs rfl hsrc
 have hst:=run_storeCells (P:=P) (o:=dq) vs 0 c W hc (by omega) ht h1
 rw[Nat.add_zero]at hst
 cases hq:P.info? elem with
 | none=>simp[hq]at hs
 | some i=>
  have hi:i.size=sz:=by simpa [hq] using hs
  simp[Builtin.copy_,run_underlying hu,Builtin.lenOf,Builtin.firstCells,sizeOf,typeInfo,hq,hi,<- hn,hl,hst]
def insL(l:List Alive)(i:Nat)(a:Alive):List Alive:=l.take i++a::l.drop i
theorem insL_len{l:List Alive}{i:Nat}{a:Alive}(h:i<=l.length):(insL l i a).length=l.length+1:=by unfold insL;simp;omega
theorem insL_lt{l:List Alive}{i k:Nat}{a:Alive}(h:i<=l.length)(hk:k<i):(insL l i a).getD k default=l.getD k default:=by
 unfold insL
 simp only[List.getD]
 rw[List.getElem?_append_left (by simp;omega),List.getElem?_take,if_pos hk]
theorem insL_eq{l:List Alive}{i:Nat}{a:Alive}(h:i<=l.length):(insL l i a).getD i default=a:=by
 unfold insL
 simp only[List.getD]
 rw[List.getElem?_append_right (by simp;omega)]
 have:i - (l.take i).length=0:=by simp;omega
 rw[this];rfl
theorem insL_gt{l:List Alive}{i k:Nat}{a:Alive}(h:i<=l.length)(hk:i<k):(insL l i a).getD k default=l.getD (k - 1) default:=by
 unfold insL
 simp only[List.getD]
 rw[List.getElem?_append_right (by simp;omega)]
 have:k - (l.take i).length=(k - 1 - i)+1:=by simp;omega
 rw[this,List.getElem?_cons_succ,List.getElem?_drop]
 have:i+(k - 1 - i)=k - 1:=by omega
 rw[this]
def blkM(l:List Alive):BS:=.seq true 3 l.length fun k=>encAlive (l.getD k default)
def cellE(a:Alive)(r:Nat):AV:=(encAlive a).getD r .undef
theorem cellE_get{a:Alive}{r:Nat}(h:r<3):(encAlive a)[r]? = some (cellE a r):=by
 match r,h with
 | 0,_=>rfl
 | 1,_=>rfl
 | 2,_=>rfl
theorem cellE_of{a:Alive}{r:Nat}{x:AV}(h:(encAlive a)[r]? = some x):r<3/\x=cellE a r:=by
 have hr:r<3:=by
  rcases Nat.lt_or_ge r 3 with h' | h'
  ·exact h'
  ·rw[List.getElem?_eq_none (by exact h')]at h;cases h
 rw[cellE_get hr]at h
 cases h
 exact⟨hr,rfl⟩
theorem cellE_free(a:Alive)(r:Nat):refFree (cellE a r)=true:=by
 unfold cellE
 match r with
 | 0=>rfl
 | 1=>rfl
 | 2=>rfl
 | _+3=>rfl
theorem setBlk_two(w:World)(B:Nat)(x y:Obj):World.setBlk (World.setBlk w B x) B y=World.setBlk w B y:=by
 simp only[World.setBlk,Array.setIfInBounds_setIfInBounds]
theorem ov_run{w:World}{B B2 voff vc x lb cb:Nat}{c c2:Array Value}{e e2:TypeId}{fz fz2:Nat × Nat}(hB:w.heap[B]? = some (.cells c e fz))(hV:w.heap[B2]? = some (.cells c2 e2 fz2))(hne:B2 ≠ B)(hc:c.size ≠ 0)
  (ht:thawed c2 fz2) (hs:notStr c2 fz2 3) (hv:voff<c2.size) :
  (callFunc 181 #[.slice (some ⟨B2,voff,none⟩) 1 vc,.slice (some ⟨B,x,none⟩) lb cb]).run PG w=.ok (.value (.bool false)) w:=by
 have hov:=Lib.run_overlaps_apart (P:=PG) w 64 4 74 (by kernel_rfl) 3 (fun w=>by
  have:tiOf PG 74=some ((tiOf PG 74).getD ⟨0,0,false,.bool,none,false,none⟩):=by kernel_rfl
  rw[AM.run_sizeOf this w]
  have h3:((tiOf PG 74).getD ⟨0,0,false,.bool,none,false,none⟩).size=3:=by kernel_rfl
  rw[h3]) ⟨B2,voff,none⟩ ⟨B,x,none⟩ 1 vc lb cb hne e2 e c2.size c.size (by simp[World.shape?,hV]) (by simp[World.shape?,hB]) hc (frozen_of hV ht hv) (by
   simp only[World.frozen?,hV]
   have:=hs.resolve_left (by decide)
   simpa using this)
 rw[run_callFunc_extern (P:=PG) (f:=181) (fn:=Go.Proofs.Tryz.f181) Go.Proofs.Tryz.func181 (by kernel_rfl) (by kernel_rfl) (by kernel_rfl) (e:=Extern.SlicesOverlaps.overlaps #[64,64] #[4]) (by kernel_rfl),hov]
 rfl
end Go.Wk
end
noncomputable section
open Go Go.AM Go.Md
namespace Go.Wk
set_option maxRecDepth 100000
set_option maxHeartbeats 1000000
def insH(l:List Alive)(a:Alive):Heap:=[blkM l,.arr true 3 [encAlive a]]
def insO(l:List Alive)(i:Nat)(a:Alive):Heap:=[.dead,.arr true 3 [encAlive a],blkM (insL l i a)]
theorem insO_rd(l:List Alive)(i:Nat)(a:Alive):hget (insO l i a)=rdput (rdput (hget (insH l a)) 0 .dead) 2 (blkM (insL l i a)):=by
 funext b
 match b with
 | 0=>rfl
 | 1=>rfl
 | 2=>rfl
 | _+3=>rfl
theorem row_cells{w:World}{I:Nat->Prop}{φ:Phi}{rd:Nat->BS}{b B o:Nat}{l:List Alive}(hh:RH w I φ rd)(hb:rd b=blkM l)(h0:φ b=some (B,o,3)) :
  ∃ c e fz,w.heap[B]? = some (.cells c e fz)/\thawed c fz/\notStr c fz 3 /\ ∀ k r,k<l.length->r<3 -> ∃ u,c[o+k*3+r]? = some u/\u.oneCell'=true/\RV w I Phi.no (cellE (l.getD k default) r) u:=by
 obtain⟨B',o',sz',e,hrb⟩:=(hh.blk b (by rw[hb];rfl)).resolve_right fun⟨e0,_⟩=>by rw[h0]at e0;cases e0
 rw[h0]at e;cases e
 rw[hb]at hrb
 obtain⟨_,⟨c,e,fz,hc,ht⟩,_,hcell⟩:=hrb
 refine⟨c,e,fz,hc,(ht rfl).1,(ht rfl).2,fun k r hk hr=>?_⟩
 obtain⟨u,h1,h2,h3⟩:=hcell k r _ hk (cellE_get hr)
 rw[cell_of hc]at h1
 exact⟨u,h1,h2,h3⟩
theorem one_cells{w:World}{I:Nat->Prop}{φ:Phi}{rd:Nat->BS}{b B o:Nat}{a:Alive}(hh:RH w I φ rd)(hb:rd b=.arr true 3 [encAlive a])(h0:φ b=some (B,o,3)) :
  ∃ c e fz,w.heap[B]? = some (.cells c e fz)/\thawed c fz/\notStr c fz 3 /\ ∃ vs:List Value,vs.length=3/\(∀ r v,vs[r]? = some v->c[o+r]? = some v/\v.oneCell'=true/\RV w I Phi.no (cellE a r) v):=by
 obtain⟨B',o',sz',e,hrb⟩:=(hh.blk b (by rw[hb];rfl)).resolve_right fun⟨e0,_⟩=>by rw[h0]at e0;cases e0
 rw[h0]at e;cases e
 rw[hb]at hrb
 obtain⟨_,⟨c,e,fz,hc,ht⟩,_,hcell⟩:=hrb
 have g:∀ r,r<3 -> ∃ u,c[o+r]? = some u/\u.oneCell'=true/\RV w I Phi.no (cellE a r) u:=fun r hr=>by
  obtain⟨u,h1,h2,h3⟩:=hcell 0 (encAlive a) r _ rfl (cellE_get hr)
  rw[cell_of hc,Nat.zero_mul,Nat.add_zero]at h1
  exact⟨u,h1,h2,h3.free (cellE_free a r)⟩
 obtain⟨u0,a0⟩:=g 0 (by omega)
 obtain⟨u1,a1⟩:=g 1 (by omega)
 obtain⟨u2,a2⟩:=g 2 (by omega)
 refine⟨c,e,fz,hc,(ht rfl).1,(ht rfl).2,[u0,u1,u2],rfl,fun r v hv=>?_⟩
 match r with
 | 0=>cases hv;exact a0
 | 1=>cases hv;exact a1
 | 2=>cases hv;exact a2
 | _+3=>simp at hv
def piece(c:Array Value)(p m:Nat):List Value:=(List.range m).map fun j=>c.getD (p+j) default
theorem piece_len(c:Array Value)(p m:Nat):(piece c p m).length=m:=by simp[piece]
theorem piece_get{c:Array Value}{p m j:Nat}(h:p+m<=c.size)(hj:j<m):(piece c p m)[j]? = c[p+j]? := by
 unfold piece
 rw[List.getElem?_map,List.getElem?_range hj,Option.map_some,Array.getElem?_eq_getElem (by omega),Array.getD_eq_getD_getElem?,Array.getElem?_eq_getElem (by omega)]
 rfl
theorem split3{n j:Nat}(h:j<n*3):j / 3<n/\j % 3<3/\j=j / 3*3+j % 3:=by omega
def insC(c:Array Value)(q i n:Nat)(src:List Value)(vs:List Value):Array Value:=splice (splice c (q+(i+1)*3) src) (q+i*3) vs
theorem insC_get{c:Array Value}{q i n:Nat}{src vs:List Value}(hi:i<=n)(hs:src.length=(n - i)*3)(hv:vs.length=3)(hc:q+(n+1)*3<=c.size){k r:Nat}(hk:k<n+1)(hr:r<3) :
  (insC c q i n src vs)[q+k*3+r]? = if k<i then c[q+k*3+r]? else if k=i then vs[r]? else src[(k - 1 - i)*3+r]? := by
 unfold insC
 rw[splice_get _ _ _ _ (by rw[splice_size,hv];omega),splice_get _ _ _ _ (by rw[hs];omega),hv,hs]
 by_cases h1:k<i
 ·rw[if_pos h1,if_neg (by omega),if_neg (by omega)]
 ·rw[if_neg h1]
  by_cases h2:k=i
  ·subst h2
   rw[if_pos rfl,if_pos (by omega)]
   congr 1;omega
  ·rw[if_neg h2,if_neg (by omega),if_pos (by omega)]
   congr 1
   omega
theorem insRB{w W:World}{I:Nat->Prop}{φ':Phi}{B q:Nat}{l:List Alive}{i:Nat}{a:Alive}{c':Array Value}{e:TypeId}{fz:Nat × Nat}(hi:i<=l.length)(hW:W.heap[B]? = some (.cells c' e fz))(ht:thawed c' fz)(hn:notStr c' fz 3)
  (mono:∀ {v:AV} {u:Value},RV w I Phi.no v u->RV W I Phi.no v u)
  (hg:∀ k r,k<l.length+1->r<3 -> ∃ u,c'[q+k*3+r]? = some u/\u.oneCell'=true/\RV w I Phi.no (cellE ((insL l i a).getD k default) r) u):RB W I φ' B q 3 (blkM (insL l i a)):=by
 have hl:=insL_len (a:=a) hi
 refine⟨rfl,⟨c',e,fz,hW,fun _=>⟨ht,hn⟩⟩,fun k _=>rfl,fun k r cc hk hcc=>?_⟩
 obtain⟨hr,rfl⟩:=cellE_of hcc
 obtain⟨u,h1,h2,h3⟩:=hg k r (by omega) hr
 exact⟨u,by rw[cell_of hW];exact h1,h2,mono h3⟩
theorem ins_place{w:World}{I:Nat->Prop}{φ:Phi}{l:List Alive}{i:Nat}{a:Alive}(hh:RH w I φ (hget (insH l a))){B o cap B2 o2 vc:Nat}(h0:φ 0=some (B,o,3))(h1:φ 1=some (B2,o2,3))(hi:i<l.length)(hl:l.length<=100000)
  (hcap:l.length+1<=cap) (hs:o+cap*3<=csize w B) :
  ∃ w2,(Calls PG F_slices_Insert_api_Alive #[.slice (some ⟨B,o,none⟩) l.length cap,.int .i64 i,.slice (some ⟨B2,o2,none⟩) 1 vc] w fun e w'=>e=.returned (.slice (some ⟨B,o,none⟩) (l.length+1) cap)/\w'=w2) /\
   RH w2 I (φ.set 2 (B,o,3)) (hget (insO l i a))/\Step 2 (hget (insH l a)) φ I w (hget (insO l i a)) (φ.set 2 (B,o,3)) I w2/\csize w2 B=csize w B:=by
 obtain⟨c,e,fz,hc,ht,hns,hcell⟩:=row_cells (b:=0) hh rfl h0
 obtain⟨c2,e2,fz2,hc2,ht2,hns2,vs,hvl,hvs⟩:=one_cells (b:=1) hh rfl h1
 have hne:B2 ≠ B:=fun hE=>by
  have:=hh.inj 1 0 B2 o2 3 o 3 rfl rfl h1 (hE ▸ h0)
  cases this
 have hcs:csize w B=c.size:=by unfold AM.csize;rw[hc]
 rw[hcs]at hs
 have hin:i<=l.length:=by omega
 have hv0:o2<c2.size:=by
  obtain⟨h,_⟩:=hvs 0 _ (List.getElem?_eq_getElem (by omega:0<vs.length))
  rw[Nat.add_zero]at h
  exact(Array.getElem?_eq_some_iff.1 h).1
 have hsrcl:(piece c (o+i*3) ((l.length - i)*3)).length=(l.length - i)*3:=piece_len _ _ _
 have hpf:o+i*3+(l.length - i)*3<=c.size:=by omega
 have hpg:∀ j,j<(l.length - i)*3->(piece c (o+i*3) ((l.length - i)*3))[j]? = c[o+i*3+j]? := fun j hj=>piece_get hpf hj
 have hdr:=hh.drew 2
 have hone:∀ v ∈ piece c (o+i*3) ((l.length - i)*3),v.oneCell'=true:=fun v hv=>by
  obtain⟨j,hj⟩:=List.getElem?_of_mem hv
  have hjl:j<(l.length - i)*3:=by
   rcases Nat.lt_or_ge j ((l.length - i)*3)with h | h
   ·exact h
   ·rw[List.getElem?_eq_none (by rw[hsrcl];exact h)]at hj;cases hj
  rw[hpg j hjl]at hj
  obtain⟨s1,s2,s3⟩:=split3 hjl
  obtain⟨u,g1,g2,_⟩:=hcell (i+j / 3) (j % 3) (by omega) s2
  have:o+(i+j / 3)*3+j % 3=o+i*3+j:=by omega
  rw[this,hj]at g1
  cases g1
  exact g2
 have hvone:∀ v ∈ vs,v.oneCell'=true:=fun v hv=>by
  obtain⟨j,hj⟩:=List.getElem?_of_mem hv
  exact(hvs j v hj).2.1
 have hu30:PG.underlying 64=some (.slice 74):=by kernel_rfl
 have hs75:(PG.info? 74).map (·.size)=some 3:=by kernel_rfl
 have hcd:w.drew.heap[B]? = some (.cells c e fz):=hc
 have hm1:Nat.min (l.length+1 - i) (l.length - i)=l.length - i:=Nat.min_eq_right (by omega)
 have hm2:Nat.min 1 (l.length+1 - i)=1:=Nat.min_eq_left (by omega)
 have hcp1:∀ ty ll m dc sc,ll=l.length - i->m=l.length+1 - i->(Builtin.copy_ #[64,64] ty #[.slice (some ⟨B,o+(i+1)*3,none⟩) ll dc,.slice (some ⟨B,o+i*3,none⟩) m sc]).run PG w.drew =
   .ok (goInt (l.length - i:Nat)) (World.setBlk w.drew B (.cells (splice c (o+(i+1)*3) (piece c (o+i*3) ((l.length - i)*3))) e fz)):=by
  intro ty ll m dc sc h2 h3
  subst h2 h3
  have:=run_copy_sz (P:=PG) w.drew 64 64 ty 74 3 B (o+(i+1)*3) (l.length - i) dc B (o+i*3) (l.length+1 - i) sc (piece c (o+i*3) ((l.length - i)*3)) hu30 hs75 (by rw[hsrcl,hm1])
   (fun j v hj=>by
    have hjl:j<(l.length - i)*3:=by
     rcases Nat.lt_or_ge j ((l.length - i)*3)with h | h
     ·exact h
     ·rw[List.getElem?_eq_none (by rw[hsrcl];exact h)]at hj;cases hj
    rw[cell_of hcd,<- hpg j hjl];exact hj) hcd (by rw[hsrcl];omega) ht hone
  rw[hm1]at this
  exact this
 have hW1:=setBlk_same (w:=w.drew) (o:=.cells (splice c (o+(i+1)*3) (piece c (o+i*3) ((l.length - i)*3))) e fz) (lt_of_heap hcd)
 have ht1:thawed (splice c (o+(i+1)*3) (piece c (o+i*3) ((l.length - i)*3))) fz:=fun k hk=>ht k (by simpa using hk)
 have hcp2:∀ ty ll dc,ll=l.length+1 - i->(Builtin.copy_ #[64,64] ty #[.slice (some ⟨B,o+i*3,none⟩) ll dc,.slice (some ⟨B2,o2,none⟩) 1 vc]).run PG (World.setBlk w.drew B (.cells (splice c (o+(i+1)*3) (piece c (o+i*3) ((l.length - i)*3))) e fz)) =
   .ok (goInt 1) (World.setBlk w.drew B (.cells (insC c o i l.length (piece c (o+i*3) ((l.length - i)*3)) vs) e fz)):=by
  intro ty ll dc h2
  subst h2
  have:=run_copy_sz (P:=PG) (World.setBlk w.drew B (.cells (splice c (o+(i+1)*3) (piece c (o+i*3) ((l.length - i)*3))) e fz)) 64 64 ty 74 3 B (o+i*3) (l.length+1 - i) dc B2 o2 1 vc vs hu30 hs75 (by rw[hvl,hm2])
   (fun j v hj=>by
    have h3:(World.setBlk w.drew B (.cells (splice c (o+(i+1)*3) (piece c (o+i*3) ((l.length - i)*3))) e fz)).heap[B2]? = some (.cells c2 e2 fz2):=by rw[setBlk_ne hne];exact hc2
    rw[cell_of h3];exact(hvs j v hj).1) hW1 (by rw[hvl,splice_size];omega) ht1 hvone
  rw[hm2,setBlk_two]at this
  exact this
 have hsz:(insC c o i l.length (piece c (o+i*3) ((l.length - i)*3)) vs).size=c.size:=by unfold insC;rw[splice_size,splice_size]
 have hrun:=Go.Proofs.YtjhfgaadinklhaaGreat.ins_shift B o l.length cap i B2 o2 vc w _ _ hi hcap (by omega) (fun x lb cb=>ov_run hc hc2 hne (by omega) ht2 hns2 hv0) hcp1 hcp2
 have hM:Mut φ (hget (insH l a)) B:=⟨0,o,3,rfl,h0⟩
 have ext:=Ext.setBlk (M:=Mut φ (hget (insH l a))) (c':=insC c o i l.length (piece c (o+i*3) ((l.length - i)*3)) vs) hcd hsz hM
 have mono:∀ {v:AV} {u:Value},RV w I Phi.no v u->RV (World.setBlk w.drew B (.cells (insC c o i l.length (piece c (o+i*3) ((l.length - i)*3)) vs) e fz)) I Phi.no v u:=fun hvu=>
  hvu.mono (fun B' hB'=>⟨hB',(ext.keep B' (hdr.1.lt B' hB') fun⟨b,o',sz,hm,e'⟩=>hh.disj b B' o' sz hm e' hB').trans rfl⟩) (fun B'=>ext.csize B') (Phi.le_refl _)
 have hnss:notStr (insC c o i l.length (piece c (o+i*3) ((l.length - i)*3)) vs) fz 3:=by
  unfold notStr at *;rw[hsz];exact hns
 have hmv:=hdr.1.move (b:=0) (nx:=2) h0 rfl rfl hcd hsz (blkM (insL l i a)) o rfl (insRB (w:=w) hin (setBlk_same (lt_of_heap hcd)) (fun k hk=>ht k (by rw[<- hsz];exact hk)) hnss mono fun k r hk hr=>by
  rw[insC_get hin hsrcl hvl (by omega) hk hr]
  by_cases c1:k<i
  ·rw[if_pos c1,insL_lt hin c1]
   exact hcell k r (by omega) hr
  ·rw[if_neg c1]
   by_cases c2:k=i
   ·subst c2
    rw[if_pos rfl,insL_eq hin]
    have hv:vs[r]? = some vs[r]:=List.getElem?_eq_getElem (by omega)
    obtain⟨g1,g2,g3⟩:=hvs r _ hv
    exact⟨_,hv,g2,g3⟩
   ·rw[if_neg c2,insL_gt hin (by omega),hpg _ (by omega)]
    have:o+i*3+((k - 1 - i)*3+r)=o+(k - 1)*3+r:=by omega
    rw[this]
    exact hcell (k - 1) r (by omega) hr) 2
 rw[<- insO_rd]at hmv
 refine⟨_,hrun,hmv.1,hdr.2.trans hmv.2.1,?_⟩
 rw[hcs]
 unfold AM.csize
 rw[setBlk_same (lt_of_heap hcd)]
 exact hsz
theorem growC_get{R:Array Value}{i n:Nat}{src vs:List Value}(hi:i<=n)(hs:src.length=(n - i)*3)(hv:vs.length=3)(hc:(n+1)*3<=R.size){k r:Nat}(hk:k<n+1)(hr:r<3) :
  (splice (splice R (i*3) vs) ((i+1)*3) src)[0+k*3+r]? = if k<i then R[k*3+r]? else if k=i then vs[r]? else src[(k - 1 - i)*3+r]? := by
 rw[splice_get _ _ _ _ (by rw[splice_size,hs];omega),splice_get _ _ _ _ (by rw[hv];omega),hv,hs,Nat.zero_add]
 by_cases h1:k<i
 ·rw[if_pos h1,if_neg (by omega),if_neg (by omega)]
 ·rw[if_neg h1]
  by_cases h2:k=i
  ·subst h2
   rw[if_pos rfl,if_neg (by omega),if_pos (by omega)]
   congr 1;omega
  ·rw[if_neg h2,if_pos (by omega)]
   congr 1
   omega
theorem zeroCells_size(z:Array Value)(n:Nat):(Builtin.zeroCells z n).size=n*z.size:=by simp[Builtin.zeroCells]
theorem ins_new{w:World}{I:Nat->Prop}{φ:Phi}{l:List Alive}{i:Nat}{a:Alive}(hh:RH w I φ (hget (insH l a))){B o B2 o2 vc:Nat}(h0:φ 0=some (B,o,3))(h1:φ 1=some (B2,o2,3))(hi:i<l.length)(hl:l.length<=100000)
  (hs:o+l.length*3<=csize w B) :
  ∃ w2 G,l.length+1<=G/\(Calls PG F_slices_Insert_api_Alive #[.slice (some ⟨B,o,none⟩) l.length l.length,.int .i64 i,.slice (some ⟨B2,o2,none⟩) 1 vc] w fun e w'=>e=.returned (.slice (some ⟨w.heap.size,0,none⟩) (l.length+1) G)/\w'=w2) /\
   RH w2 I (φ.set 2 (w.heap.size,0,3)) (hget (insO l i a))/\Step 2 (hget (insH l a)) φ I w (hget (insO l i a)) (φ.set 2 (w.heap.size,0,3)) I w2/\G*3<=csize w2 w.heap.size:=by
 obtain⟨c,e,fz,hc,ht,hns,hcell⟩:=row_cells (b:=0) hh rfl h0
 obtain⟨c2,e2,fz2,hc2,ht2,hns2,vs,hvl,hvs⟩:=one_cells (b:=1) hh rfl h1
 have hcs:csize w B=c.size:=by unfold AM.csize;rw[hc]
 rw[hcs]at hs
 have hin:i<=l.length:=by omega
 have hBlt:=lt_of_heap hc
 have hB2lt:=lt_of_heap hc2
 have hsrcl:(piece c (o+i*3) ((l.length - i)*3)).length=(l.length - i)*3:=piece_len _ _ _
 have hpg:∀ j,j<(l.length - i)*3->(piece c (o+i*3) ((l.length - i)*3))[j]? = c[o+i*3+j]? := fun j hj=>piece_get (by omega) hj
 have hol:(piece c o (i*3)).length=i*3:=piece_len _ _ _
 have hog:∀ j,j<i*3->(piece c o (i*3))[j]? = c[o+j]? := fun j hj=>piece_get (by omega) hj
 have hdr:=hh.drew 2
 have hone:∀ v ∈ piece c (o+i*3) ((l.length - i)*3),v.oneCell'=true:=fun v hv=>by
  obtain⟨j,hj⟩:=List.getElem?_of_mem hv
  have hjl:j<(l.length - i)*3:=by
   rcases Nat.lt_or_ge j ((l.length - i)*3)with h | h
   ·exact h
   ·rw[List.getElem?_eq_none (by rw[hsrcl];exact h)]at hj;cases hj
  rw[hpg j hjl]at hj
  obtain⟨s1,s2,s3⟩:=split3 hjl
  obtain⟨u,g1,g2,_⟩:=hcell (i+j / 3) (j % 3) (by omega) s2
  have:o+(i+j / 3)*3+j % 3=o+i*3+j:=by omega
  rw[this,hj]at g1
  cases g1
  exact g2
 have hvone:∀ v ∈ vs,v.oneCell'=true:=fun v hv=>by
  obtain⟨j,hj⟩:=List.getElem?_of_mem hv
  exact(hvs j v hj).2.1
 have hu30:PG.underlying 64=some (.slice 74):=by kernel_rfl
 have hu3:PG.underlying 3=some (.int .i64):=by kernel_rfl
 have hs75:(PG.info? 74).map (·.size)=some 3:=by kernel_rfl
 have hi75:(PG.info? 74).map (fun i=>(i.size,i.bytes,i.zero.map (·.cells.size)))=some (3,24,some 3):=by kernel_rfl
 obtain⟨i0,hi0,e1,e3,z,hz,hzs⟩:∃ i0,PG.info? 74=some i0/\i0.size=3/\i0.bytes=24 /\ ∃ z,i0.zero=some z/\z.cells.size=3:=by
  cases hq:PG.info? 74 with
  | none=>rw[hq]at hi75;cases hi75
  | some i0=>
   rw[hq]at hi75
   simp only[Option.map_some,Option.some.injEq,Prod.mk.injEq]at hi75
   obtain⟨a1,a2,a3⟩:=hi75
   cases hz:i0.zero with
   | none=>rw[hz]at a3;cases a3
   | some z=>rw[hz]at a3;exact⟨i0,rfl,a1,a2,z,hz,by simpa using a3⟩
 have hold:(Builtin.firstCells i0.size i (.slice (some ⟨B,o,none⟩) i l.length)).run PG w.drew=.ok (piece c o (i*3)).toArray w.drew:=by
  rw[e1]
  exact run_loadCells_of (P:=PG) (w:=w.drew) (piece c o (i*3)) hol fun j v hj=>by
   have hjl:j<i*3:=by
    rcases Nat.lt_or_ge j (i*3)with h | h
    ·exact h
    ·rw[List.getElem?_eq_none (by rw[hol];exact h)]at hj;cases hj
   rw[cell_of (w:=w.drew) hc,<- hog j hjl];exact hj
 have hik:i+(l.length+1 - i)=l.length+1:=by omega
 have hap:=Lib.run_append_grow_zeros (P:=PG) w 64 3
 obtain⟨G,hG⟩:∃ G,G=grownCap w (l.length+1) l.length 74:=⟨_,rfl⟩
 obtain⟨R,hR⟩:∃ R:Array Value,R=(piece c o (i*3)).toArray++Builtin.zeroCells z.cells (l.length+1 - i)++Builtin.zeroCells z.cells (G - (l.length+1)):=⟨_,rfl⟩
 have hGn:l.length+1<=G:=by rw[hG];exact grownCap_ge w _ _ _
 have hG63:G<=9223372036854775807:=by
  have:=grownCap_le_maxLen w (l.length+1) l.length 74 (by unfold maxLen;omega)
  rw[<- hG]at this
  unfold maxLen at this
  omega
 have hRs:R.size=G*3:=by
  rw[hR,Array.size_append,Array.size_append,zeroCells_size,zeroCells_size,hzs]
  have:(piece c o (i*3)).toArray.size=i*3:=by simpa using hol
  rw[this];omega
 have hRg:∀ j,j<i*3->R[j]? = c[o+j]? := fun j hj=>by
  have h2:(piece c o (i*3)).toArray.size=i*3:=by simpa using hol
  rw[hR,Array.append_assoc,Array.getElem?_append_left (by rw[h2];exact hj),<- hog j hj]
  simp
 have happ:∀ ty x,x=(l.length:Int)+1 - i->(Builtin.append_ #[64,3] ty #[.slice (some ⟨B,o,none⟩) i l.length,.int .i64 x]).run PG w=.ok (.slice (some ⟨w.heap.size,0,none⟩) (l.length+1) G) (w.drew.alloc (.cells R 74)):=by
  intro ty x hx
  have h:=hap ty 74 i0 z .i64 .i64 hu30 hu3 hi0 hz (some ⟨B,o,none⟩) i l.length (piece c o (i*3)) hold (l.length+1 - i) (by omega) (by omega) (by omega) (by omega) (by rw[e3];omega) (by rw[e3,hik];exact growslice_fits (by omega) (by omega))
  rw[hik,<- hG,<- hR]at h
  have:x=((l.length+1 - i:Nat):Int):=by omega
  rw[this]
  exact h
 have hW1:(w.drew.alloc (.cells R 74)).heap[w.heap.size]? = some (.cells R 74 (0,0)):=alloc_new w.drew _
 have hth0:∀ {c:Array Value},thawed c (0,0):=fun k _ h=>Nat.not_lt_zero _ h.2
 have hns0:∀ {c:Array Value},notStr c (0,0) 3:=.inr fun h=>Nat.not_lt_zero _ h.2
 have hm1:Nat.min 1 (l.length+1 - i)=1:=Nat.min_eq_left (by omega)
 have hm2:Nat.min (l.length - i) (l.length - i)=l.length - i:=Nat.min_self _
 have hcp1:∀ ty ll dc,ll=l.length+1 - i->(Builtin.copy_ #[64,64] ty #[.slice (some ⟨w.heap.size,i*3,none⟩) ll dc,.slice (some ⟨B2,o2,none⟩) 1 vc]).run PG (w.drew.alloc (.cells R 74)) =
   .ok (goInt 1) (World.setBlk (w.drew.alloc (.cells R 74)) w.heap.size (.cells (splice R (i*3) vs) 74 (0,0))):=by
  intro ty ll dc h2
  subst h2
  have:=run_copy_sz (P:=PG) (w.drew.alloc (.cells R 74)) 64 64 ty 74 3 w.heap.size (i*3) (l.length+1 - i) dc B2 o2 1 vc vs hu30 hs75 (by rw[hvl,hm1])
   (fun j v hj=>by
    have h3:(w.drew.alloc (.cells R 74)).heap[B2]? = some (.cells c2 e2 fz2):=by rw[alloc_old w.drew _ hB2lt];exact hc2
    rw[cell_of h3];exact(hvs j v hj).1) hW1 (by rw[hvl,hRs];omega) hth0 hvone
  rw[hm1]at this
  exact this
 have hW2:(World.setBlk (w.drew.alloc (.cells R 74)) w.heap.size (.cells (splice R (i*3) vs) 74 (0,0))).drew.heap[w.heap.size]? = some (.cells (splice R (i*3) vs) 74 (0,0)):=setBlk_same (lt_of_heap hW1)
 have hcp2:∀ ty ll m dc sc,ll=l.length - i->m=l.length - i->(Builtin.copy_ #[64,64] ty #[.slice (some ⟨w.heap.size,(i+1)*3,none⟩) ll dc,.slice (some ⟨B,o+i*3,none⟩) m sc]).run PG (World.setBlk (w.drew.alloc (.cells R 74)) w.heap.size (.cells (splice R (i*3) vs) 74 (0,0))).drew =
   .ok (goInt (l.length - i:Nat)) (World.setBlk (World.setBlk (w.drew.alloc (.cells R 74)) w.heap.size (.cells (splice R (i*3) vs) 74 (0,0))).drew w.heap.size (.cells (splice (splice R (i*3) vs) ((i+1)*3) (piece c (o+i*3) ((l.length - i)*3))) 74 (0,0))):=by
  intro ty ll m dc sc h2 h3
  subst h2 h3
  have:=run_copy_sz (P:=PG) (World.setBlk (w.drew.alloc (.cells R 74)) w.heap.size (.cells (splice R (i*3) vs) 74 (0,0))).drew 64 64 ty 74 3 w.heap.size ((i+1)*3) (l.length - i) dc B (o+i*3) (l.length - i) sc (piece c (o+i*3) ((l.length - i)*3)) hu30 hs75 (by rw[hsrcl,hm2])
   (fun j v hj=>by
    have hjl:j<(l.length - i)*3:=by
     rcases Nat.lt_or_ge j ((l.length - i)*3)with h | h
     ·exact h
     ·rw[List.getElem?_eq_none (by rw[hsrcl];exact h)]at hj;cases hj
    have h3:(World.setBlk (w.drew.alloc (.cells R 74)) w.heap.size (.cells (splice R (i*3) vs) 74 (0,0))).drew.heap[B]? = some (.cells c e fz):=by
     show(World.setBlk (w.drew.alloc (.cells R 74)) w.heap.size (.cells (splice R (i*3) vs) 74 (0,0))).heap[B]? = _
     rw[setBlk_ne (by omega),alloc_old w.drew _ hBlt];exact hc
    rw[cell_of h3,<- hpg j hjl];exact hj) hW2 (by rw[hsrcl,splice_size,hRs];omega) hth0 hone
  rw[hm2]at this
  exact this
 have hrun:=Go.Proofs.YtjhfgaadinklhaaGreat.ins_grow B o l.length i B2 o2 vc w.heap.size G w _ _ _ hi hGn hG63 (by omega) happ hcp1 hcp2
 have x0:∀ {W:World} {φ':Phi} {cc:Array Value},W.heap[w.heap.size]? = some (.cells cc 74 (0,0))->RB W I φ' w.heap.size 0 3 (.arr true 3 []):=fun hW=>
  ⟨rfl,⟨_,_,_,hW,fun _=>⟨hth0,hns0⟩⟩,fun i cs h=>by simp at h,fun i cs k c h=>by simp at h⟩
 have r2:=hdr.1.alloc (nx:=2) rfl (.cells R 74) (.arr true 3 []) 3 rfl (x0 hW1) okObj.row 2
 have r3:=r2.1.write (b:=2) (Phi.set_same _ _ _) rfl hW1 (splice_size vs R (i*3)) (.arr true 3 []) rfl (x0 (setBlk_same (lt_of_heap hW1))) 2
 have r4:=r3.1.drew 2
 have st4:=((hdr.2.trans r2.2.1).trans r3.2).trans r4.2
 have e5:=Ext.setBlk (M:=fun B'=>B'=w.heap.size) (c':=splice (splice R (i*3) vs) ((i+1)*3) (piece c (o+i*3) ((l.length - i)*3))) hW2 (splice_size _ _ _) rfl
 have mono:∀ {v:AV} {u:Value},RV w I Phi.no v u->RV (World.setBlk (World.setBlk (w.drew.alloc (.cells R 74)) w.heap.size (.cells (splice R (i*3) vs) 74 (0,0))).drew w.heap.size (.cells (splice (splice R (i*3) vs) ((i+1)*3) (piece c (o+i*3) ((l.length - i)*3))) 74 (0,0))) I Phi.no v u:=fun hvu=>
  (hvu.mono (fun B' hB'=>⟨hB',st4.ext.keep B' (hh.lt B' hB') fun⟨b,o',sz,hm,e'⟩=>hh.disj b B' o' sz hm e' hB'⟩) (fun B'=>st4.ext.csize B') (Phi.le_refl _)).mono
   (fun B' hB'=>⟨hB',e5.keep B' (r4.1.lt B' hB') (fun hE=>by have:=hh.lt B' hB';omega)⟩) (fun B'=>e5.csize B') (Phi.le_refl _)
 have r5:=r4.1.write (b:=2) (Phi.set_same _ _ _) rfl hW2 (splice_size _ _ _) (blkM (insL l i a)) rfl (insRB (w:=w) (q:=0) hin (setBlk_same (lt_of_heap hW2)) hth0 hns0 mono fun k r hk hr=>by
  rw[growC_get hin hsrcl hvl (by rw[hRs];omega) hk hr]
  by_cases c1:k<i
  ·rw[if_pos c1,insL_lt hin c1,hRg _ (by omega)]
   have:o+(k*3+r)=o+k*3+r:=by omega
   rw[this]
   exact hcell k r (by omega) hr
  ·rw[if_neg c1]
   by_cases c2:k=i
   ·subst c2
    rw[if_pos rfl,insL_eq hin]
    have hv:vs[r]? = some vs[r]:=List.getElem?_eq_getElem (by omega)
    obtain⟨g1,g2,g3⟩:=hvs r _ hv
    exact⟨_,hv,g2,g3⟩
   ·rw[if_neg c2,insL_gt hin (by omega),hpg _ (by omega)]
    have:o+i*3+((k - 1 - i)*3+r)=o+(k - 1)*3+r:=by omega
    rw[this]
    exact hcell (k - 1) r (by omega) hr) 2
 have r6:=r5.1.kill 0 rfl 2
 have hrd:rdput (rdput (rdput (rdput (hget (insH l a)) 2 (.arr true 3 [])) 2 (.arr true 3 [])) 2 (blkM (insL l i a))) 0 .dead=hget (insO l i a):=by
  funext b
  match b with
  | 0=>rfl
  | 1=>rfl
  | 2=>rfl
  | _+3=>rfl
 rw[hrd]at r6
 refine⟨_,G,hGn,hrun,r6.1,(st4.trans r5.2).trans r6.2,?_⟩
 unfold AM.csize
 rw[setBlk_same (lt_of_heap hW2)]
 simp only[splice_size]
 omega
def insA(l:List Alive)(i:Nat):List AV:=[.sl 3 0 0 l.length 0,.int .i64 i,.sl 3 1 0 1 1]
theorem enter161(ra:Array Value)(w:World):(callFunc F_slices_Insert_api_Alive ra).run PG w=.ok (.enter F_slices_Insert_api_Alive ra) w:=by
 have hfn:PG.funcs[F_slices_Insert_api_Alive]? = some Go.Proofs.Tryz.f161:=Go.Proofs.Tryz.func161
 have hname : (Go.Proofs.Tryz.f161.name == "runtime.NumGoroutine") = false := by kernel_rfl
 have hbody:Go.Proofs.Tryz.f161.body.isNone=false:=by kernel_rfl
 simp only[callFunc,Sem.run_bind,run_program,Result.andThen_ok,hfn,hname,hbody,Bool.false_eq_true,if_false,Sem.run_pure]
theorem sl_inv{w:World}{I:Nat->Prop}{φ:Phi}{sz b off len cm:Nat}{u:Value}(h:RV w I φ (.sl sz b off len cm) u)(hn:0<len) :
  ∃ B o cap,φ b=some (B,o,sz)/\len<=cap/\cm<=cap/\o+(off+cap)*sz<=csize w B/\u=.slice (some ⟨B,o+off*sz,none⟩) len cap:=by
 cases h with
 | sl _ _ B o _ _ _ cap q h hq hl hc hs=>exact⟨B,o,cap,h,hl,hc,hs,by rw[hq]⟩
 | sle=>omega
theorem ins_con{l:List Alive}{i:Nat}{a:Alive}(hi:i<l.length)(hl:l.length<=100000) :
  Contract PG F_slices_Insert_api_Alive (insA l i) (insH l a) (.sl 3 2 0 (l.length+1) 0) (insO l i a)/\(insH l a).length<=(insO l i a).length:=by
 refine⟨fun w I φ ra hh hx=>?_,by show 2<=3;omega⟩
 obtain⟨hsz,hel⟩:=hx
 have hsz:ra.size=3:=hsz.symm
 have g0:=hel 0 _ ra[0] rfl (Array.getElem?_eq_getElem (by omega))
 have g1:=hel 1 _ ra[1] rfl (Array.getElem?_eq_getElem (by omega))
 have g2:=hel 2 _ ra[2] rfl (Array.getElem?_eq_getElem (by omega))
 obtain⟨B,o,cap,h0,hc1,_,hs,e0⟩:=sl_inv g0 (by omega)
 obtain⟨B2,o2,vc,h1,_,_,_,e2⟩:=sl_inv g2 (by omega)
 have e1:ra[1]=.int .i64 i:=by
  generalize ra[1]=v at g1
  cases g1
  rfl
 have hra:ra = #[.slice (some ⟨B,o,none⟩) l.length cap,.int .i64 i,.slice (some ⟨B2,o2,none⟩) 1 vc]:=by
  rw[Nat.zero_mul,Nat.add_zero]at e0 e2
  refine Array.ext (by simp[hsz]) fun j h3 h4=>?_
  match j,h3 with
  | 0,_=>exact e0
  | 1,_=>exact e1
  | 2,_=>exact e2
  | j+3,h=>omega
 subst hra
 rw[Nat.zero_add]at hs
 refine .inl ⟨enter161 _ _,?_⟩
 by_cases hr:l.length+1<=cap
 ·obtain⟨w2,hrun,a1,a2,a3⟩:=ins_place hh h0 h1 hi hl hr hs
  refine Calls.mono hrun fun e w' ⟨he,hw⟩=>⟨_,he,φ.set 2 (B,o,3),I,?_,hw ▸ a1,hw ▸ a2⟩
  subst hw
  exact .sl 3 2 B o 0 _ 0 cap o (Phi.set_same _ _ _) (by omega) hr (Nat.zero_le _) (by rw[a3];omega)
 ·have hcap:cap=l.length:=by omega
  subst hcap
  obtain⟨w2,G,hG,hrun,a1,a2,a3⟩:=ins_new hh h0 h1 hi hl hs
  refine Calls.mono hrun fun e w' ⟨he,hw⟩=>⟨_,he,φ.set 2 (w.heap.size,0,3),I,?_,hw ▸ a1,hw ▸ a2⟩
  subst hw
  exact .sl 3 2 w.heap.size 0 0 _ 0 G 0 (Phi.set_same _ _ _) (by omega) hG (Nat.zero_le _) (by omega)
end Go.Wk
end
noncomputable section
open Go Go.AM Go.Md Go.Wk
namespace Go.Co
set_option maxRecDepth 100000
set_option maxHeartbeats 400000
theorem RH.congr{w:World}{I:Nat->Prop}{φ:Phi}{rd rd':Nat->BS}(h:RH w I φ rd)(h1:∀ b,rd' b=.none->rd b=.none)(h2:∀ b,live (rd' b)=live (rd b))(h3:∀ b,mutable (rd' b)=mutable (rd b))
  (h4:∀ b B o sz,RB w I φ B o sz (rd b)->RB w I φ B o sz (rd' b)) (h5:∀ b,phantom (rd b)->phantom (rd' b)):RH w I φ rd':=
 ⟨fun b hb=>h.none b (h1 b hb),fun b hb=>by
   rcases h.blk b (by rw[<- h2];exact hb)with ⟨B,o,sz,e,r⟩ | ⟨e,r⟩
   ·exact .inl ⟨B,o,sz,e,h4 b B o sz r⟩
   ·exact .inr ⟨e,h5 b r⟩,
  fun b b' B o sz o' sz' hm hm'=>h.inj b b' B o sz o' sz' (by rw[<- h3];exact hm) (by rw[<- h3];exact hm'),fun b B o sz hm=>h.disj b B o sz (by rw[<- h3];exact hm),
  fun b B o sz hl hm=>h.imm b B o sz (by rw[<- h2];exact hl) (by rw[<- h3];exact hm),h.lt⟩
theorem Step.congr{base:Nat}{rd rd1 rd1':Nat->BS}{φ φ':Phi}{I I':Nat->Prop}{w w':World}(h:Step base rd φ I w rd1 φ' I' w')(h3:∀ b,mutable (rd1' b)=mutable (rd1 b)):Step base rd φ I w rd1' φ' I' w':=
 ⟨h.le,h.Ile,h.Inew,fun B ⟨b,o,sz,hm,e⟩=>h.mt B ⟨b,o,sz,by rw[<- h3];exact hm,e⟩,h.ext⟩
theorem RB.seq_congr{w:World}{I:Nat->Prop}{φ:Phi}{B o sz s n:Nat}{m:Bool}{f g:Nat->List AV}(h:RB w I φ B o sz (.seq m s n f))(hfg:∀ i,i<n->f i=g i):RB w I φ B o sz (.seq m s n g):=
 ⟨h.1,h.2.1,fun i hi=>by rw[<- hfg i hi];exact h.2.2.1 i hi,fun i k c hi e=>h.2.2.2 i k c hi (by rw[hfg i hi];exact e)⟩
def envI:Env:=envL [] (fun _=>none) []
theorem insEnd(n:Nat)(f:Nat->List AV)(a:Alive)(i:Int):callH envI 5 F_slices_Insert_api_Alive [AV.sl 3 0 0 (n+1) 0,AV.int IntKind.i64 i,AV.sl 3 1 0 1 1] [BS.seq true 3 (n+1) f,BS.arr true 3 [encAlive a]] =
 bif decide (0<=i)&&decide (i<=(↑(n+1):Int))then
  bif decide (i=(↑(n+1):Int))then
   bif(n+1).ble (n+1)then
    bif((n+1+1)*24).ble 140737488355328&&(n+1+1).ble 140737488355328 then
     some ((AV.sl 3 2 0 (n+1+1) 0,[BS.dead,BS.arr true 3 [encAlive a],BS.seq true 3 (n+1+1) fun i=>bif i.blt (n+1)then f i else bif i.blt (n+1+1)then [encAlive a].getD (i - (n+1)) []else f (n+1)]))
    else none
   else none
  else none
 else none:=by kernel_rfl
theorem Contract.congrH{f:Nat}{args:List AV}{hp hp1 hp2:Heap}{r:AV}(h:Contract PG f args hp r hp1)(h1:∀ b,hget hp2 b=.none->hget hp1 b=.none)(h2:∀ b,live (hget hp2 b)=live (hget hp1 b))(h3:∀ b,mutable (hget hp2 b)=mutable (hget hp1 b))
  (h4:∀ (w:World) (I:Nat->Prop) (φ:Phi) b B o sz,RB w I φ B o sz (hget hp1 b)->RB w I φ B o sz (hget hp2 b)) (h5:∀ b,phantom (hget hp1 b)->phantom (hget hp2 b)):Contract PG f args hp r hp2:=fun w I φ ra hh hx=>
 (h w I φ ra hh hx).mono fun u w' ⟨φ',I',a1,a2,a3⟩=>⟨φ',I',a1,RH.congr a2 h1 h2 h3 (h4 w' I' φ') h5,Step.congr a3 h3⟩
theorem insEnd_con{l:List Alive}{a:Alive}(hne:l ≠ [])(hl:l.length<=100000) :
  Contract PG F_slices_Insert_api_Alive (insA l l.length) (insH l a) (.sl 3 2 0 (l.length+1) 0) (insO l l.length a):=by
 obtain⟨n,hn⟩:∃ n,l.length=n+1:=⟨l.length - 1,by have:=List.length_pos_iff.2 hne;omega⟩
 have e:=insEnd n (fun k=>encAlive (l.getD k default)) a ((n+1:Nat):Int)
 rw[decide_eq_true (by omega),decide_eq_true (Int.le_refl _),Bool.and_true,cond_true,decide_eq_true rfl,cond_true,ble_true (Nat.le_refl _),cond_true,ble_true (by omega),ble_true (by omega),Bool.and_true,cond_true]at e
 have hc:=(callH_ok (envL_ok ank) envL_code mixed e).1
 have ea:insA l l.length=[.sl 3 0 0 (n+1) 0,.int .i64 ((n+1:Nat):Int),.sl 3 1 0 1 1]:=by unfold insA;rw[hn]
 have eh:insH l a=[.seq true 3 (n+1) (fun k=>encAlive (l.getD k default)),.arr true 3 [encAlive a]]:=by unfold insH blkM;rw[hn]
 have er:(AV.sl 3 2 0 (l.length+1) 0)=.sl 3 2 0 (n+1+1) 0:=by rw[hn]
 have hil:(insL l l.length a).length=n+1+1:=by rw[insL_len (Nat.le_refl _),hn]
 have eo:blkM (insL l l.length a)=.seq true 3 (n+1+1) fun k=>encAlive ((insL l l.length a).getD k default):=by unfold blkM;rw[hil]
 rw[ea,eh,er]
 unfold insO
 rw[eo]
 refine Contract.congrH hc (fun b hb=>?_) (fun b=>?_) (fun b=>?_) (fun w I φ b B o sz hr=>?_) fun b hb=>?_
 ·match b,hb with
  | 0,hb=>cases hb
  | 1,hb=>cases hb
  | 2,hb=>cases hb
  | _+3,_=>rfl
 ·match b with
  | 0=>rfl
  | 1=>rfl
  | 2=>rfl
  | _+3=>rfl
 ·match b with
  | 0=>rfl
  | 1=>rfl
  | 2=>rfl
  | _+3=>rfl
 ·match b,hr with
  | 0,hr=>exact hr
  | 1,hr=>exact hr
  | 2,hr=>
   refine RB.seq_congr hr fun k hk=>?_
   by_cases h1:k<n+1
   ·rw[blt_true h1,cond_true,insL_lt (Nat.le_refl _) (by omega)]
   ·have:k=l.length:=by omega
    subst this
    rw[blt_false (by omega),cond_false,blt_true (by omega),cond_true,insL_eq (Nat.le_refl _)]
    have:l.length - (n+1)=0:=by omega
    rw[this];rfl
  | _+3,hr=>exact hr
 ·match b,hb with
  | 0,hb=>exact hb
  | 1,hb=>exact hb
  | 2,hb=>exact absurd hb (Nat.succ_ne_zero _)
  | _+3,hb=>exact hb
structure IX where
 l:List Alive
 i:Nat
 a:Alive
def dIX(args:List AV)(h:Heap):IX:=⟨dNs h 0,(getI args 1).toNat,decAlive (cell0 h 1)⟩
def pIX(x:IX):Prop:=x.i<=x.l.length/\x.l.length<=100000/\x.l ≠ []
def eIX(x:IX):List AV × Heap:=(insA x.l x.i,insH x.l x.a)
def oIX(x:IX):AV × Heap:=(.sl 3 2 0 (x.l.length+1) 0,insO x.l x.i x.a)
theorem dIX_eq(x:IX):dIX (eIX x).1 (eIX x).2=x:=by
 obtain⟨l,i,a⟩:=x
 have h2:(List.range l.length).map (fun k=>decAlive (encAlive (l.getD k default)))=l:=decL_encL (e:=encAlive) (d:=decAlive) (z:=default) (sz:=3) dec_encAlive l
 show(⟨(List.range l.length).map (fun k=>decAlive (encAlive (l.getD k default))),((i:Int)).toNat,decAlive (encAlive a)⟩:IX)=_
 rw[h2,Int.toNat_natCast,dec_encAlive]
theorem insAt_con(x:IX)(h:pIX x):Contract PG F_slices_Insert_api_Alive (eIX x).1 (eIX x).2 (oIX x).1 (oIX x).2/\(eIX x).2.length<=(oIX x).2.length:=by
 obtain⟨l,i,a⟩:=x
 obtain⟨h1,h2,h3⟩:=h
 simp only[]at h1 h2 h3
 refine⟨?_,by show 2<=3;omega⟩
 by_cases hi:i<l.length
 ·exact(ins_con hi h2).1
 ·have:i=l.length:=by omega
  subst this
  exact insEnd_con h3 h2
def kIns:Known:=.specH F_slices_Insert_api_Alive dIX pIX eIX oIX
theorem kIns_ok:kIns.Ok PG:=Known.specH_ok insAt_con
def gIns{R:Type}(x:IX)(K:IX->Option R):Option R:=gCH dIX pIX eIX (eIX x).1 (eIX x).2 K
theorem gIns_eq{R:Type}{x:IX}{K:IX->Option R}(h:pIX x):gIns x K=K x:=gCH_eq x (dIX_eq x) h rfl
def SubF(c c':AV):Prop:=∀ (w:World) (I:Nat->Prop) (φ:Phi) (u:Value),RV w I φ c u->RV w I φ c' u
def SubFs(cs cs':List AV):Prop:=cs.length=cs'.length /\ ∀ (k:Nat) c c',cs[k]? = some c->cs'[k]? = some c'->SubF c c'
theorem SubF.refl(c:AV):SubF c c:=fun _ _ _ _ h=>h
theorem SubFs.refl(cs:List AV):SubFs cs cs:=⟨rfl,fun k c c' e e'=>by rw[e]at e';cases e';exact .refl _⟩
theorem SubFs.cons{c c':AV}{cs cs':List AV}(h:SubF c c')(h':SubFs cs cs'):SubFs (c::cs) (c'::cs'):=by
 refine⟨by simp[h'.1],fun k x x' e e'=>?_⟩
 cases k with
 | zero=>simp at e e';subst e;subst e';exact h
 | succ k=>exact h'.2 k x x' (by simpa using e) (by simpa using e')
theorem SubF.nils{sz:Nat}{f:Nat->List AV}:SubF .nils (.tr sz 0 f):=fun w I φ u h=>by cases h;exact .trn _ _ _
theorem SubF.slack{sz b off len cm:Nat}:SubF (.sl sz b off len cm) (.sl sz b off len 0):=fun w I φ u h=>RV.slack h
theorem SubFs.rvs{w:World}{I:Nat->Prop}{φ:Phi}{cs cs':List AV}{vs:Array Value}(h:SubFs cs cs')(hv:RVs w I φ cs vs):RVs w I φ cs' vs:=by
 refine⟨by rw[<- h.1];exact hv.1,fun k x u e e'=>?_⟩
 have hk:k<cs.length:=by
  have:=(List.getElem?_eq_some_iff.1 e).1
  rw[h.1];exact this
 exact h.2 k _ _ (List.getElem?_eq_getElem hk) e w I φ u (hv.2 k _ u (List.getElem?_eq_getElem hk) e')
structure SubB(x y:BS):Prop where
 non:y=BS.none ↔ x=BS.none
 lv:AM.live y=AM.live x
 mt:mutable y=mutable x
 rb:∀ (w:World) (I:Nat->Prop) (φ:Phi) (B o sz:Nat),RB w I φ B o sz x->RB w I φ B o sz y
 ph:phantom x->phantom y
theorem SubB.refl(x:BS):SubB x x:=⟨.rfl,rfl,rfl,fun _ _ _ _ _ _ h=>h,id⟩
theorem SubB.arr{m:Bool}{sz:Nat}{es es':List (List AV)}(hl:es.length=es'.length)(h:∀ (i:Nat) c c',es[i]? = some c->es'[i]? = some c'->SubFs c c'):SubB (.arr m sz es) (.arr m sz es'):=by
 refine⟨⟨(fun e=>by cases e),(fun e=>by cases e)⟩,rfl,rfl,fun w I φ B o s ⟨h0,h1,h2,h3⟩=>⟨h0,h1,fun i cs e=>?_,fun i cs k c e e'=>?_⟩,fun x=>x.elim⟩
 ·have hi:i<es.length:=by rw[hl];exact(List.getElem?_eq_some_iff.1 e).1
  rw[<- (h i _ _ (List.getElem?_eq_getElem hi) e).1]
  exact h2 i _ (List.getElem?_eq_getElem hi)
 ·have hi:i<es.length:=by rw[hl];exact(List.getElem?_eq_some_iff.1 e).1
  have hs:=h i _ _ (List.getElem?_eq_getElem hi) e
  have hk:k<es[i].length:=by rw[hs.1];exact(List.getElem?_eq_some_iff.1 e').1
  obtain⟨u,a1,a2,a3⟩:=h3 i _ k _ (List.getElem?_eq_getElem hi) (List.getElem?_eq_getElem hk)
  exact⟨u,a1,a2,hs.2 k _ _ (List.getElem?_eq_getElem hk) e' w I φ u a3⟩
theorem SubB.arr1{m:Bool}{sz:Nat}{c c':List AV}(h:SubFs c c'):SubB (.arr m sz [c]) (.arr m sz [c']):=.arr rfl fun i x x' e e'=>by
 cases i with
 | zero=>simp at e e';subst e;subst e';exact h
 | succ i=>simp at e
theorem SubB.arr_seq{m:Bool}{sz:Nat}{c:List AV}{f:Nat->List AV}(hf:c.all refFree=true)(h:f 0=c):SubB (.arr m sz [c]) (.seq m sz 1 f):=by
 refine⟨⟨(fun e=>by cases e),(fun e=>by cases e)⟩,rfl,rfl,fun w I φ B o s ⟨h0,h1,h2,h3⟩=>⟨h0,h1,fun i hi=>?_,fun i k x hi e=>?_⟩,fun x=>x.elim⟩
 ·have:i=0:=by omega
  subst this
  rw[h];exact h2 0 c rfl
 ·have:i=0:=by omega
  subst this
  rw[h]at e
  obtain⟨u,a1,a2,a3⟩:=h3 0 c k x rfl e
  exact⟨u,a1,a2,a3.free (List.all_eq_true.1 hf x (List.mem_of_getElem? e))⟩
def SubH(h1 h2:Heap):Prop:=h1.length=h2.length /\ ∀ b,SubB (hget h1 b) (hget h2 b)
theorem SubH.refl(h:Heap):SubH h h:=⟨rfl,fun _=>.refl _⟩
theorem SubH.cons{x y:BS}{a b:Heap}(h:SubB x y)(h':SubH a b):SubH (x::a) (y::b):=⟨by simp[h'.1],fun k=>by
 cases k with
 | zero=>exact h
 | succ k=>exact h'.2 k⟩
theorem Contract.outH{f:Nat}{args:List AV}{hp h1 h2:Heap}{r:AV}(h:Contract PG f args hp r h1)(s:SubH h1 h2):Contract PG f args hp r h2:=
 Contract.congrH h (fun b hb=>((s.2 b).non).1 hb) (fun b=>(s.2 b).lv) (fun b=>(s.2 b).mt) (fun w I φ b B o sz=>(s.2 b).rb w I φ B o sz) fun b=>(s.2 b).ph
theorem Contract.inH{f:Nat}{args args':List AV}{hp hp' h1:Heap}{r:AV}(h:Contract PG f args' hp' r h1)(sa:SubFs args args')(s:SubH hp hp'):Contract PG f args hp r h1:=by
 intro w I φ ra hh hx
 have hh':RH w I φ (hget hp'):=RH.congr hh (fun b hb=>((s.2 b).non).1 hb) (fun b=>(s.2 b).lv) (fun b=>(s.2 b).mt) (fun b B o sz=>(s.2 b).rb w I φ B o sz) fun b=>(s.2 b).ph
 refine(h w I φ ra hh' (sa.rvs hx)).mono fun u w' ⟨φ',I',a1,a2,a3⟩=>⟨φ',I',a1,a2,?_⟩
 have hm:∀ B,Mut φ (hget hp') B->Mut φ (hget hp) B:=fun B ⟨b,o,sz,e1,e2⟩=>⟨b,o,sz,by rw[<- (s.2 b).mt];exact e1,e2⟩
 have hm':∀ B,Mut φ (hget hp) B->Mut φ (hget hp') B:=fun B ⟨b,o,sz,e1,e2⟩=>⟨b,o,sz,by rw[(s.2 b).mt];exact e1,e2⟩
 have e:Mut φ (hget hp')=Mut φ (hget hp):=funext fun B=>propext ⟨hm B,hm' B⟩
 have el:hp.length=hp'.length:=s.1
 rw[el]
 exact⟨a3.le,a3.Ile,fun B hB=>(a3.Inew B hB).imp id fun x=>x.imp (hm B) id,fun B hB=>(a3.mt B hB).imp (hm B) id,by rw[<- e];exact a3.ext⟩
def wkFz(k:Work):List AV:=[.bool k.fenced,encMembers k.keep,.sl 31 0 0 k.froze.length 0,.bool k.heard]
def bkFz(l:List Msg):BS:=.seq true 31 l.length fun i=>encMsg (l.getD i default)
def SFzH(k:Work)(m:Member)(i:Int):St:={fr:=[(3,.ptr 1 0 0),(4,.ptr 2 0 0),(9,.sl 31 0 0 k.froze.length 0),(10,.int .i64 k.froze.length),(11,.int .i64 i)],hp:=[bkFz k.froze,.arr true 2 [encMember m],.arr true 31 [zMsgC]]}
theorem conC2H{l:List Known}(h:∀ k ∈ l,k.Ok PG){n f:Nat}{args:List AV}{hp:Heap}{r:AV}{hp':Heap}(e:callH (envC2 l) n f args hp=some (r,hp')):Contract PG f args hp r hp'/\hp.length<=hp'.length:=callH_ok (envL_ok h) envL_code mixed e
theorem fzH_in(N:Nat)(k:Work)(m:Member):callH (envC2 []) (N+1) F_coord_frozen [AV.agg (wkFz k),AV.agg (encMember m)] [bkFz k.froze]=LP (envC2 []) N 1 F_coord_frozen (hnK 1) 0 [] N (SFzH k m 0):=by kernel_rfl
theorem SubF.agg{cs cs':List AV}(h:SubFs cs cs'):SubF (.agg cs) (.agg cs'):=by
 intro w I φ u hv
 cases hv with
 | agg _ vs hl h1 hr=>
  have:=h.rvs (vs:=vs) ⟨hl,fun k c u e e'=>hr k c u e e'⟩
  exact .agg _ _ this.1 h1 fun k c u e e'=>this.2 k c u e e'
theorem SubF.tup{cs cs':List AV}(h:SubFs cs cs'):SubF (.tup cs) (.tup cs'):=by
 intro w I φ u hv
 cases hv with
 | tup _ vs hl hr=>
  have:=h.rvs (vs:=vs) ⟨hl,fun k c u e e'=>hr k c u e e'⟩
  exact .tup _ _ this.1 fun k c u e e'=>this.2 k c u e e'
theorem Contract.resF{f:Nat}{args:List AV}{hp hp':Heap}{r r':AV}(h:Contract PG f args hp r hp')(hs:SubF r r'):Contract PG f args hp r' hp':=
 fun w I φ ra hh hx=>(h w I φ ra hh hx).mono fun u w' ⟨φ',I',h1,h2,h3⟩=>⟨φ',I',hs _ _ _ _ h1,h2,h3⟩
theorem zMsg_subF:SubFs zMsgC (encMsg default):=by
 repeat' (first | exact SubF.nils | exact SubF.refl _ | exact SubFs.refl [] | apply SubFs.cons)
def oFzR(k:Work)(p:Msg × Bool):AV × Heap:=(.tup [.agg (bif p.2 then encMsg p.1 else zMsgC),.bool p.2],[bkFz k.froze])
theorem frozenL_no:∀ (l:List Msg) (m:Member),(frozenL l m).2=false->(frozenL l m).1=default
 | [],_,_=>rfl
 | f::r,m,h=>by
  have ih:=frozenL_no r m
  have e:frozenL (f::r) m=bif isFz m f then(f,true)else frozenL r m:=rfl
  rw[e]at h ⊢
  generalize isFz m f=b at h ⊢
  cases b with
  | true=>cases h
  | false=>exact ih h
def oFz(k:Work)(p:Msg × Bool):AV × Heap:=(.tup [.agg (encMsg p.1),.bool p.2],[bkFz k.froze])
theorem fzH_st(N j:Nat)(k:Work)(m:Member)(i:Int):LP (envC2 []) N 1 F_coord_frozen (hnK 1) 0 [] (j+1) (SFzH k m i) =
 bif decide (i<(k.froze.length:Int))then rg i k.froze.length <| bif(0+i.toNat).blt k.froze.length then
   bif decide ((k.froze.getD (0+i.toNat) default).src=m.node)then bif decide ((k.froze.getD (0+i.toNat) default).sboot=m.boot)then some (oFzR k (k.froze.getD (0+i.toNat) default,true))
    else LP (envC2 []) N 1 F_coord_frozen (hnK 1) 0 [] j (SFzH k m (IntKind.i64.wrap (i+1)))else LP (envC2 []) N 1 F_coord_frozen (hnK 1) 0 [] j (SFzH k m (IntKind.i64.wrap (i+1)))else none
 else some (oFzR k (default,false)):=by kernel_rfl
def eFzH(p:WM):List AV × Heap:=([.agg (wkFz p.1),.agg (encMember p.2)],[bkFz p.1.froze])
def dBk(B:BS):List Msg:=match B with
 | .seq _ _ n f=>(List.range n).map fun i=>decMsg (f i)
 | _=>[]
def dFzH(a:List AV)(h:Heap):WM:=(⟨getB (argC a 0) 0,getL decMember (argC a 0) 1,dBk (hget h 0),getB (argC a 0) 3⟩,decMember (argC a 1))
theorem dBk_eq(l:List Msg):dBk (bkFz l)=l:=decL_encL (e:=encMsg) (d:=decMsg) (z:=default) (sz:=31) dec_encMsg l
theorem dFzH_eq(p:WM):dFzH (eFzH p).1 (eFzH p).2=p:=by
 show((⟨p.1.fenced,decL decMember (encMembers p.1.keep),dBk (bkFz p.1.froze),p.1.heard⟩:Work),p.2)=p
 rw[decMembers,dBk_eq]
theorem fzH_con(p:WM)(h:pWM p):Contract PG F_coord_frozen (eFzH p).1 (eFzH p).2 (oFz p.1 (frozenP p.1 p.2)).1 (oFz p.1 (frozenP p.1 p.2)).2/\(eFzH p).2.length<=(oFz p.1 (frozenP p.1 p.2)).2.length:=by
 obtain⟨k,m⟩:=p
 have h:k.froze.length<=100000:=h
 have hN:∃ N,N=200000:=⟨_,rfl⟩
 obtain⟨N,hN⟩:=hN
 have run:∀ d i j,i+d=k.froze.length->d<j->LP (envC2 []) N 1 F_coord_frozen (hnK 1) 0 [] j (SFzH k m (i:Nat))=some (oFzR k (frozenL (k.froze.drop i) m)):=by
  intro d
  induction d with
  | zero=>
   intro i j hi hj
   obtain⟨j,rfl⟩:∃ q,j=q+1:=⟨j - 1,by omega⟩
   rw[fzH_st,decide_eq_false (by omega),cond_false,List.drop_eq_nil_of_le (by omega)]
   rfl
  | succ d ih=>
   intro i j hi hj
   obtain⟨j,rfl⟩:∃ q,j=q+1:=⟨j - 1,by omega⟩
   have hil:i<k.froze.length:=by omega
   rw[fzH_st,decide_eq_true (by omega),cond_true,rg_eq hil,Int.toNat_natCast,Nat.zero_add,blt_true hil,cond_true,wrapS (by omega),drop_cons (z:=default) hil]
   show _=some (oFzR k (bif isFz m (k.froze.getD i default)then(k.froze.getD i default,true)else frozenL (k.froze.drop (i+1)) m))
   unfold isFz
   cases decide ((k.froze.getD i default).src=m.node)with
   | false=>exact ih (i+1) j (by omega) (by omega)
   | true=>
    cases decide ((k.froze.getD i default).sboot=m.boot)with
    | false=>exact ih (i+1) j (by omega) (by omega)
    | true=>rfl
 have h1:=run k.froze.length 0 N (by omega) (by omega)
 rw[List.drop_zero]at h1
 obtain⟨c1,c2⟩:=conC2H ank (n:=N+1) ((fzH_in N k m).trans h1)
 refine⟨Contract.resF c1 (.tup (.cons (.agg ?_) (.refl _))),c2⟩
 show SubFs (bif(frozenL k.froze m).2 then encMsg (frozenL k.froze m).1 else zMsgC) (encMsg (frozenL k.froze m).1)
 cases hb:(frozenL k.froze m).2 with
 | true=>exact .refl _
 | false=>rw[frozenL_no _ _ hb];exact zMsg_subF
def kFzH:Known:=.specH F_coord_frozen dFzH pWM eFzH (fun p=>oFz p.1 (frozenP p.1 p.2))
theorem kFzH_ok:kFzH.Ok PG:=Known.specH_ok fzH_con
def kFzB:Known:={f:=F_coord_frozen,ans:=fun args hp=>match isSl ((argC args 0).getD 2 .undef)with
 | true=>kFzH.ans args hp
 | false=>kFrozen.ans args hp}
theorem kFzB_ok:kFzB.Ok PG:=by
 intro args hp A e hg
 have e:(match isSl ((argC args 0).getD 2 .undef)with
  | true=>kFzH.ans args hp
  | false=>kFrozen.ans args hp)=some A:=e
 cases hc:isSl ((argC args 0).getD 2 .undef)with
 | true=>rw[hc]at e;exact kFzH_ok args hp A e hg
 | false=>rw[hc]at e;exact kFrozen_ok args hp A e hg
def gFzH{R:Type}(p:WM)(K:WM->Option R):Option R:=gCH dFzH pWM eFzH (eFzH p).1 (eFzH p).2 K
theorem gFzH_eq{R:Type}{p:WM}{K:WM->Option R}(h:pWM p):gFzH p K=K p:=gCH_eq p (dFzH_eq p) h rfl
def mdK3(f:Nat):Option Nat:=bif Nat.beq f F_coord_frozen then some 5 else mdK f
def envK3(l:List Known):Env:={envL [] mdK3 l with msk:=fun f=>bif Nat.beq f F_coord_Up then [2,4,5,6]else []}
theorem envK3_ok{l:List Known}(h:∀ k ∈ l,k.Ok PG):EnvOk PG (envK3 l):=⟨tt_ok rfl,orc_ok h⟩
theorem conK3{l:List Known}(h:∀ k ∈ l,k.Ok PG){n f:Nat}{xs:List AV}{r:AV}(e:callT (envK3 l) n f xs=some r):Contract PG f xs [] r []:=callT_ok (envK3_ok h) (codeOf_ok rfl) mixed e
def kn39(t:Bool)(l:List Msg):List Known:=[kMsgBO l,kMsgM,kCloneAlive,kCloneMember,kFzB,kE9 t]
theorem kn39_ok(t:Bool)(l:List Msg):∀ k ∈ kn39 t l,k.Ok PG:=ak (kMsgBO_ok l) (ak kMsgM_ok (ak kCloneAlive_ok (ak kCloneMember_ok (ak kFzB_ok (ak (kE9_ok t) ank)))))
def room2{R:Type}(n k b:Nat)(K:Option R):Option R:=
 bif Nat.beq n 0||Nat.ble n k then bif Nat.ble ((n+1)*b) 140737488355328&&Nat.ble (n+1) 140737488355328 then K else none else none
def gBu9e{R:Type}(s:ES)(f:Msg)(fs:List Msg)(b:Bool)(K:Plan->List Alive->List Member->List Msg->(Nat->AV)->List BS->Option R):Option R:=
 gMs s.p.chain fun y0=>gMs s.p.valid fun y1=>gAls s.ns fun y2=>gMs s.keep fun y3=>gC (dL decMsg) pMs eMs [encMsgs (f::fs)] fun y=>gOp s.op <| gAk9 s.l b fun A B=>K {s.p with chain:=y0,valid:=y1} y2 y3 y A B
def wkQ(s:ES)(ke:List Member)(n:Nat):List AV:=[.bool s.fe,encMembers ke,.sl 31 3 0 n 0,.bool s.he]
def apB(n:Nat)(l:List Msg)(z:Msg):BS:=.seq true 31 (n+1) fun k=>bif k.blt n then encMsg (l.getD k default)else bif k.blt (n+1)then [encMsg z].getD (k - n) []else encMsg (l.getD n default)
theorem h9e(t:Bool)(s:ES)(b:Bool)(m:Msg)(f:Msg)(fs:List Msg)(hf:s.fz=.ne f fs):callT (envK3 (kn39 t s.op)) 20 F_coord_Handle [.agg (buV s b),.agg (encCf s.c),.agg (encMsg (kM m 9))] =
 gBu9e s f fs b fun p ns ke y A B=>bif decide (s.p.phase=1)then bif !decide (s.p.epoch=m.epoch)then fin (hpDf s.op s.e s.g ns (A 4) .nils s.c (encPlan p) (wkQ s ke y.length) (bkFz y) B)
  else gFzH (⟨s.fe,ke,y,s.he⟩,⟨m.src,m.sboot⟩) fun z=>bif !(frozenP z.1 z.2).2 then
    gC dM1 CpOk eM1 [.agg (encMsg (kM m 9))] fun x=>room2 y.length z.1.froze.length 392 (gEF t A0 (hpDf s.op s.e s.g ns (A 4) .nils s.c (encPlan p) (wkQ s ke (y.length+1)) (apB y.length z.1.froze x) B)
     (fin (endHF t (hpDf s.op s.e s.g ns (A 4) .nils s.c (encPlan p) (wkQ s ke (y.length+1)) (apB y.length z.1.froze x) B))))
   else gEF t A0 (hpDf s.op s.e s.g ns (A 4) .nils s.c (encPlan p) (wkQ s ke y.length) (bkFz z.1.froze) B)
     (fin (endHF t (hpDf s.op s.e s.g ns (A 4) .nils s.c (encPlan p) (wkQ s ke y.length) (bkFz z.1.froze) B)))
  else fin (hpDf s.op s.e s.g ns (A 4) .nils s.c (encPlan p) (wkQ s ke y.length) (bkFz y) B):=by
 obtain⟨e,g,p,ns,nb,op,keep,fz,fe,he,l,c⟩:=s
 cases hf
 cases t <;> cases l <;> cases b <;> kernel_rfl
def gU0(n:Nat):Bool:=n.beq 0||n.ble n
theorem gU0_eq(n:Nat):gU0 n=true:=by unfold gU0;rw[orU]
theorem fzx_sub{x:FF}(hx:x.l ≠ []):SubV x.tr (fzV (lnOf x.l)):=by
 cases x with
 | seq l=>
  cases l with
  | nil=>exact absurd rfl hx
  | cons a t=>exact .refl _
 | one c=>exact SubV.trl_encL (e:=encMsg) (z:=default) [c]
theorem akAV_ask'(l:List Ask)(b:Bool):SubV (akAV l b) (encAsks l):=by
 cases l with
 | nil=>exact aqV_ask b
 | cons a t=>exact .refl _
def keepV(s:ES)(x:FF)(b:Bool):AV:=.tup [.agg [.int .i64 s.e,.int .i64 s.g,.trl 8 [encPlan s.p],encAlives s.ns,.trl 4 [wkT s x.tr],opV s.op,akAV s.l b],.nils]
def gFF(x:FF)(l:List Ask):Bool:=match x,l with
 | .seq f,[]=>gU0 f.length&&true&&true&&true&&true&&true
 | .seq f,a::t=>gU0 f.length&&true&&true&&true&&((a::t).length.ble (a::t).length&&true)&&true
 | .one _,[]=>true
 | .one _,a::t=>(a::t).length.ble (a::t).length&&true&&true
theorem gFF_eq{x:FF}{l:List Ask}:gFF x l=true:=by
 cases x <;> cases l <;> simp only[gFF,gU0_eq,Bool.and_true,ble_true (Nat.le_refl _)]
theorem fin_keepE{s:ES}(x:FF)(b:Bool)(hn:s.nb=false):fin (hpEF s x b)=bif gFF x s.l then some (keepV s x b)else none:=by
 obtain⟨e,g,p,ns,nb,op,keep,fz,fe,he,l,c⟩:=s
 subst hn
 cases x <;> cases l <;> cases b <;> rfl
theorem fin_keepF{s:ES}{x:FF}(b:Bool)(hn:s.nb=false)(hx:x.l ≠ []):∃ v,fin (hpEF s x b)=some v/\SubV v (ansB (sF s x,[])):=by
 have e:=fin_keepE x b hn
 rw[gFF_eq]at e
 refine⟨_,e,.tup (.cons (.agg (.cons (.refl _) (.cons (.refl _) (.cons (.refl _) (.cons (.refl _) (.cons (one_trl ?_) (.cons (.refl _) (.cons (akAV_ask' _ _) .nil)))))))) (.cons nilsL .nil))⟩
 exact .cons (.refl _) (.cons (.refl _) (.cons (fzx_sub hx) (.cons (.refl _) .nil)))
theorem fin_endX{s:ES}(x:FF)(b:Bool)(g:Int)(p:Plan)(hn:s.nb=false):∃ v,fin (outF (wrE s g p) x b)=some v/\SubV v (ansB ({s with g:=g,p:=p,fe:=false,keep:=[],fz:=.nil,he:=false,l:=[]},outMs p s.l)):=by
 obtain⟨e,g0,p0,ns,nb,op,keep,fz,fe,he,l,c⟩:=s
 subst hn
 have hw:SubV (.trl 4 [wk0]) (.trl 4 [wkA ⟨e,g,p,ns,false,op,[],.nil,false,false,[],c⟩]):=one_trl (wk0_sub _ rfl rfl rfl rfl)
 cases l with
 | nil=>
  refine⟨.tup [.agg [.int .i64 e,.int .i64 g,.trl 8 [encPlan p],encAlives ns,.trl 4 [wk0],opV op,aqV b],.trl 31 [actC p]],?_,?_⟩
  ·cases x <;> cases b <;> rfl
  ·refine .tup (.cons (.agg (.cons (.refl _) (.cons (.refl _) (.cons (.refl _) (.cons (.refl _) (.cons hw (.cons (.refl _) (.cons (aqV_ask b) .nil)))))))) (.cons ?_ .nil))
   exact SubV.trans (one_trl (act_sub p)) (SubV.trl_encL (e:=encMsg) (z:=default) [actMg p])
 | cons a t=>
  refine⟨.tup [.agg [.int .i64 e,.int .i64 g,.trl 8 [encPlan p],encAlives ns,.trl 4 [wk0],opV op,.tr 31 0 fun i=>bif(i+0).blt (0+(a::t).length)then zMsgC else encAsk ((a::t).getD (i+0) (0,0))],.tr 31 ((a::t).length+1) fun i=>canF idC [] (actC p::(a::t).map ansC) (i+0)],?_,?_⟩
  ·have:(bif true&&((((a::t).length+1).beq 0||((a::t).length+1+0).ble ((a::t).length+1))&&true)then some (AV.tup [.agg [.int .i64 e,.int .i64 g,.trl 8 [encPlan p],encAlives ns,.trl 4 [wk0],opV op,.tr 31 0 fun i=>bif(i+0).blt (0+(a::t).length)then zMsgC else encAsk ((a::t).getD (i+0) (0,0))],.tr 31 ((a::t).length+1) fun i=>canF idC [] (actC p::(a::t).map ansC) (i+0)])else none)=some (AV.tup [.agg [.int .i64 e,.int .i64 g,.trl 8 [encPlan p],encAlives ns,.trl 4 [wk0],opV op,.tr 31 0 fun i=>bif(i+0).blt (0+(a::t).length)then zMsgC else encAsk ((a::t).getD (i+0) (0,0))],.tr 31 ((a::t).length+1) fun i=>canF idC [] (actC p::(a::t).map ansC) (i+0)]):=by
    rw[show(a::t).length+1+0=(a::t).length+1 from rfl,orU];rfl
   exact this
  ·refine .tup (.cons (.agg (.cons (.refl _) (.cons (.refl _) (.cons (.refl _) (.cons (.refl _) (.cons hw (.cons (.refl _) (.cons ?_ .nil)))))))) (.cons (outs_sub p (a::t)) .nil))
   exact SubV.trs fun i hi=>absurd hi (Nat.not_lt_zero i)
theorem endHF_eq(s:ES)(x:FF)(b:Bool)(t:Bool):endHF t (hpEF s x b)=bif t then outF (wrE s (endP (sF s x)).1 (endP (sF s x)).2) x b else hpEF s x b:=by
 have e:dEF [] (eEF ⟨s,x,b⟩).2=nrmF ⟨s,x,b⟩:=dEF_eq ⟨s,x,b⟩
 unfold endHF
 cases t with
 | false=>rfl
 | true=>
  have e:dEF [] (hpEF s x b)=nrmF ⟨s,x,b⟩:=e
  rw[cond_true,cond_true,e]
  exact outTF_eq s x b _ _
theorem fin_endHF{s:ES}{x:FF}(b:Bool)(hn:s.nb=false)(hx:x.l ≠ []):∃ v,fin (endHF (mayE (sF s x)) (hpEF s x b))=some v/\SubV v (ansB (endQ (sF s x))):=by
 rw[endHF_eq]
 unfold endQ
 cases mayE (sF s x)with
 | false=>exact fin_keepF b hn hx
 | true=>exact fin_endX x b _ _ hn
def akS(l:List Ask)(b:Bool)(q:Nat):AV:=match l with
 | []=>aqV b
 | _::_=>.sl 31 q 0 l.length 0
theorem hpEF_eq(s:ES)(x:FF)(b:Bool):hpDf s.op s.e s.g s.ns (akS s.l b 4) .nils s.c (encPlan s.p) (wkT s x.av) x.bs (akBl s.l)=hpEF s x b:=by
 obtain⟨e,g,p,ns,nb,op,keep,fz,fe,he,l,c⟩:=s
 cases l <;> rfl
theorem gAk9_eq{R:Type}{l:List Ask}{b:Bool}{K:(Nat->AV)->List BS->Option R}(h:l.length<=1000):gAk9 l b K=K (akS l b) (akBl l):=by
 cases l with
 | nil=>rfl
 | cons a t=>
  have hp:pAk (a::t):=⟨Nat.le_trans h (by omega),List.cons_ne_nil _ _⟩
  exact qAk (k:=fun y=>K (fun q=>.sl 31 q 0 y.length 0) [blkA y]) hp
def lnApp:LN Msg->Msg->LN Msg
 | .nil,m=>.ne m []
 | .emp,m=>.ne m []
 | .ne f fs,m=>.ne f (fs++[m])
def frzS(s:ES)(m:Msg):ES:=bif(frozenP (wkE s) ⟨m.src,m.sboot⟩).2 then s else {s with fz:=lnApp s.fz (kM m 9)}
def h9P(s:ES)(m:Msg):ES × List Msg:=bif decide (s.p.phase=1)&&decide (s.p.epoch=m.epoch)then endQ (frzS s m)else(s,[])
theorem EOk.fz'{s:ES}{fz:LN Msg}(h:EOk s)(h1:fz.l.length<=1000)(h2:∀ f ∈ fz.l,VNum f.ver):EOk {s with fz:=fz}:=⟨h.ch,h.ns,h.keep,h1,h2,h.c1,h.c2,h.l⟩
theorem room2_eq{R:Type}{n b:Nat}{k:Option R}(hb:b<=1000)(h:n<=1000000):room2 n n b k=k:=room1_eq hb h
theorem apB_eq(l:List Msg)(z:Msg):apB l.length l z=(FF.seq (l++[z])).bs:=by
 have e:(fun k=>bif k.blt l.length then encMsg (l.getD k default)else bif k.blt (l.length+1)then [encMsg z].getD (k - l.length) []else encMsg (l.getD l.length default))=fun k=>encMsg ((l++[z]).getD k default):=by
  funext k
  by_cases h:k<l.length
  ·rw[blt_true h,cond_true]
   simp[List.getD,List.getElem?_append_left h]
  ·have hb:k.blt l.length=false:=by
    cases e:k.blt l.length with
    | false=>rfl
    | true=>exact absurd (Nat.le_of_ble_eq_true e) h
   rw[hb,cond_false]
   by_cases h':k=l.length
   ·subst h'
    rw[blt_true (by omega),cond_true]
    simp[List.getD]
   ·have hb:k.blt (l.length+1)=false:=by
     cases e:k.blt (l.length+1)with
     | false=>rfl
     | true=>exact absurd (Nat.le_of_ble_eq_true e) (by omega)
    rw[hb,cond_false]
    have h1:l.length<=k:=by omega
    have h2:(l++[z]).length<=k:=by simp;omega
    simp only[List.getD,List.getElem?_eq_none h2,List.getElem?_eq_none (Nat.le_refl l.length)]
 unfold apB
 rw[e]
 show BS.seq true 31 (l.length+1) _=.seq true 31 (l++[z]).length _
 rw[List.length_append];rfl
structure FOk(s:ES)(m:Msg):Prop where
 h:HOk s
 ne:s.fz ≠ .emp
 lt:s.fz.l.length<1000
 cp:CpOk (kM m 9)
 ver:VNum m.ver
theorem h9_nil{s:ES}{b:Bool}{m:Msg}(h:FOk s m)(hf:s.fz=.nil):Contract PG F_coord_Handle [.agg (buV s b),.agg (encCf s.c),.agg (encMsg (kM m 9))] [] (ansB (h9P s m)) []:=by
 obtain⟨h0,_,_,hcp,hver⟩:=h
 have h1:=h0.eok.ch
 have h2:=h0.val
 have h3:=h0.eok.ns
 have h4:=h0.eok.keep
 have hs:frzS s m=sF s (.one (kM m 9)):=by
  unfold frzS
  have:(frozenP (wkE s) ⟨m.src,m.sboot⟩).2=false:=by
   show(frozenL s.fz.l _).2=false
   rw[hf];rfl
  rw[this,cond_false,hf];rfl
 have e:=h9n (mayE (sF s (.one (kM m 9)))) s b m hf
 have qW:∀ K:WM->Option AV,gC dWM pWM eWM [.agg [.bool s.fe,encMembers s.keep,.nils,.bool s.he],.agg [.int .i64 m.src,.int .i64 m.sboot]] K=K (⟨s.fe,s.keep,[],s.he⟩,⟨m.src,m.sboot⟩):=fun K=>by
  refine gC_eq ((⟨s.fe,s.keep,[],s.he⟩,⟨m.src,m.sboot⟩):WM) ?_ (Nat.zero_le _) (.cons (.agg (.cons (.refl _) (.cons (.refl _) (.cons nilsL (.cons (.refl _) .nil))))) (.refl _))
  show((⟨s.fe,decL decMember (encMembers s.keep),[],s.he⟩:Work),(⟨m.src,m.sboot⟩:Member))=_
  rw[decMembers]
 have qM:∀ K:Msg->Option AV,gC dM1 CpOk eM1 [.agg (encMsg (kM m 9))] K=K (kM m 9):=fun K=>gC_eq (kM m 9) (dec_encMsg _) hcp (.refl _)
 unfold gBu9 at e
 rw[gMs_eq _ (by unfold shortL LB;omega),gMs_eq _ (by unfold shortL LB;omega),gAls_eq h3,gMs_eq _ (by unfold shortL LB;omega),gOp_eq h0.op,gAk9_eq h0.eok.l]at e
 simp only[]at e
 rw[qW,qM]at e
 have hK:=hpEF_eq s (.one (kM m 9)) b
 have hE:EOk (sF s (.one (kM m 9))):=h0.eok.fz' (by simp[lnOf,FF.l,LN.l]) (fun f hf=>by
  have:f=kM m 9:=by simpa [lnOf,FF.l,LN.l] using hf
  subst this;exact hver)
 have hG:∀ K:Option AV,gEF (mayE (sF s (.one (kM m 9)))) A0 (hpEF s (.one (kM m 9)) b) K=K:=fun K=>gEF_eq (y:=⟨s,.one (kM m 9),b⟩) hE rfl
 have hH:hpDf s.op s.e s.g s.ns (akS s.l b 4) .nils s.c (encPlan s.p) [.bool s.fe,encMembers s.keep,.sl 31 3 0 1 1,.bool s.he] (.arr true 31 [encMsg (kM m 9)]) (akBl s.l)=hpEF s (.one (kM m 9)) b:=hK
 have hp:({s.p with chain:=s.p.chain,valid:=s.p.valid}:Plan)=s.p:=rfl
 rw[hH,hG]at e
 obtain⟨v1,f1,g1⟩:=fin_endHF (s:=s) (x:=.one (kM m 9)) b h0.nb (List.cons_ne_nil _ _)
 obtain⟨v2,f2,g2⟩:=fin_keep (s:=s) b h0.nb
 have hB:hpB s s.p s.ns [.bool s.fe,encMembers s.keep,fzV s.fz,.bool s.he] (akS s.l b 3) (akBl s.l)=hpEE s b:=hpB_eq (b:=b) s.fe h0
 have e0:fzV s.fz=.nils:=by rw[hf];rfl
 rw[e0]at hB
 rw[f1,hB,f2]at e
 unfold h9P
 cases hp:decide (s.p.phase=1)with
 | false=>
  rw[hp,cond_false]at e
  exact(conK2 (kn38_ok _ _) e).res g2
 | true=>
  rw[hp,cond_true]at e
  cases he:decide (s.p.epoch=m.epoch)with
  | false=>
   rw[he]at e
   exact(conK2 (kn38_ok _ _) e).res g2
  | true=>
   rw[he]at e
   rw[Bool.true_and,cond_true,hs]
   exact(conK2 (kn38_ok _ _) e).res g1
theorem h9_ne{s:ES}{b:Bool}{m:Msg}{f:Msg}{fs:List Msg}(h:FOk s m)(hf:s.fz=.ne f fs):Contract PG F_coord_Handle [.agg (buV s b),.agg (encCf s.c),.agg (encMsg (kM m 9))] [] (ansB (h9P s m)) []:=by
 obtain⟨h0,_,hlt,hcp,hver⟩:=h
 have h1:=h0.eok.ch
 have h2:=h0.val
 have h3:=h0.eok.ns
 have h4:=h0.eok.keep
 have hl:s.fz.l=f::fs:=by rw[hf];rfl
 rw[hl]at hlt
 have hw:wkE s=⟨s.fe,s.keep,f::fs,s.he⟩:=by unfold wkE;rw[hl]
 have hMs:pMs (f::fs):=⟨by omega,List.cons_ne_nil _ _,fun x hx=>h0.cp x (by rw[hl];exact hx)⟩
 have hq:sF s (.seq (f::fs))=s:=by
  unfold sF lnOf
  obtain⟨e,g,p,ns,nb,op,keep,fz,fe,he,l,c⟩:=s
  simp only at hf
  subst hf;rfl
 have hsq:sF s (.seq ((f::fs)++[kM m 9]))={s with fz:=lnApp s.fz (kM m 9)}:=by
  rw[hf];rfl
 have qM:∀ K:Msg->Option AV,gC dM1 CpOk eM1 [.agg (encMsg (kM m 9))] K=K (kM m 9):=fun K=>gC_eq (kM m 9) (dec_encMsg _) hcp (.refl _)
 have hE1:EOk (sF s (.seq (f::fs))):=by rw[hq];exact h0.eok
 have hE2:EOk (sF s (.seq ((f::fs)++[kM m 9]))):=by
  rw[hsq]
  have hll:(lnApp s.fz (kM m 9)).l=(f::fs)++[kM m 9]:=by rw[hf];rfl
  refine h0.eok.fz' (by rw[hll,List.length_append];simp at hlt ⊢;omega) fun x hx=>?_
  rw[hll]at hx
  rcases List.mem_append.1 hx with hx | hx
  ·exact h0.eok.ver x (by rw[hl];exact hx)
  ·have:x=kM m 9:=by simpa using hx
   subst this;exact hver
 have hH1:=hpEF_eq s (.seq (f::fs)) b
 have hH2:=hpEF_eq s (.seq ((f::fs)++[kM m 9])) b
 obtain⟨v1,f1,g1⟩:=fin_endHF (s:=s) (x:=.seq (f::fs)) b h0.nb (List.cons_ne_nil _ _)
 obtain⟨v2,f2,g2⟩:=fin_endHF (s:=s) (x:=.seq ((f::fs)++[kM m 9])) b h0.nb (List.cons_ne_nil _ _)
 obtain⟨v3,f3,g3⟩:=fin_keepF (s:=s) (x:=.seq (f::fs)) b h0.nb (List.cons_ne_nil _ _)
 rw[hq]at g3
 have key:∀ t,(bif(frozenP (wkE s) ⟨m.src,m.sboot⟩).2 then t=mayE (sF s (.seq (f::fs)))else t=mayE (sF s (.seq ((f::fs)++[kM m 9])))) ->
   ∃ v,callT (envK3 (kn39 t s.op)) 20 F_coord_Handle [.agg (buV s b),.agg (encCf s.c),.agg (encMsg (kM m 9))]=some v/\SubV v (ansB (h9P s m)):=by
  intro t ht
  have e:=h9e t s b m f fs hf
  unfold gBu9e at e
  rw[gMs_eq _ (by unfold shortL LB;omega),gMs_eq _ (by unfold shortL LB;omega),gAls_eq h3,gMs_eq _ (by unfold shortL LB;omega),qMs hMs,gOp_eq h0.op,gAk9_eq h0.eok.l]at e
  simp only[]at e
  rw[gFzH_eq (p:=(⟨s.fe,s.keep,f::fs,s.he⟩,⟨m.src,m.sboot⟩)) (by show(f::fs).length<=100000;omega),qM]at e
  simp only[]at e
  rw[room2_eq (by omega) (by omega),apB_eq,<- hw]at e
  have a1:hpDf s.op s.e s.g s.ns (akS s.l b 4) .nils s.c (encPlan s.p) (wkQ s s.keep (f::fs).length) (bkFz (f::fs)) (akBl s.l)=hpEF s (.seq (f::fs)) b:=hH1
  have a2:hpDf s.op s.e s.g s.ns (akS s.l b 4) .nils s.c (encPlan s.p) (wkQ s s.keep ((f::fs).length+1)) (FF.seq ((f::fs)++[kM m 9])).bs (akBl s.l)=hpEF s (.seq ((f::fs)++[kM m 9])) b:=by
   have e0:(f::fs).length+1=((f::fs)++[kM m 9]).length:=by simp
   rw[e0];exact hH2
  rw[a1,a2,f3]at e
  unfold h9P
  cases hp:decide (s.p.phase=1)with
  | false=>rw[hp,cond_false]at e;exact⟨_,e,g3⟩
  | true=>
   rw[hp,cond_true]at e
   cases he:decide (s.p.epoch=m.epoch)with
   | false=>rw[he]at e;exact⟨_,e,g3⟩
   | true=>
    rw[he,Bool.not_true,cond_false]at e
    rw[Bool.true_and,cond_true]
    unfold frzS
    cases hz:(frozenP (wkE s) ⟨m.src,m.sboot⟩).2 with
    | true=>
     rw[hz]at ht
     have ht:t=mayE (sF s (.seq (f::fs))):=ht
     have hG:∀ K:Option AV,gEF t A0 (hpEF s (.seq (f::fs)) b) K=K:=fun K=>gEF_eq (y:=⟨s,.seq (f::fs),b⟩) hE1 ht.symm
     rw[hz,Bool.not_true,cond_false,hG,ht,f1]at e
     rw[cond_true]
     rw[hq]at g1 e
     rw[ht,hq]
     exact⟨_,e,g1⟩
    | false=>
     rw[hz]at ht
     have ht:t=mayE (sF s (.seq ((f::fs)++[kM m 9]))):=ht
     have hG:∀ K:Option AV,gEF t A0 (hpEF s (.seq ((f::fs)++[kM m 9])) b) K=K:=fun K=>gEF_eq (y:=⟨s,.seq ((f::fs)++[kM m 9]),b⟩) hE2 ht.symm
     rw[hz,Bool.not_false,cond_true,hG,ht,f2]at e
     rw[cond_false,ht,<- hsq]
     exact⟨_,e,g2⟩
 cases hz:(frozenP (wkE s) ⟨m.src,m.sboot⟩).2 with
 | true=>
  obtain⟨v,e,g⟩:=key (mayE (sF s (.seq (f::fs)))) (by rw[hz];rfl)
  exact(conK3 (kn39_ok _ _) e).res g
 | false=>
  obtain⟨v,e,g⟩:=key (mayE (sF s (.seq ((f::fs)++[kM m 9])))) (by rw[hz];rfl)
  exact(conK3 (kn39_ok _ _) e).res g
theorem h9_con{s:ES}{m:Msg}(h:FOk s m):Contract PG F_coord_Handle [.agg (buT s),.agg (encCf s.c),.agg (encMsg (kM m 9))] [] (ansB (h9P s m)) []:=con_bu fun b=>by
 match hf:s.fz with
 | .nil=>exact h9_nil h hf
 | .emp=>exact absurd hf h.ne
 | .ne f fs=>exact h9_ne h hf
def envB2:Env:=envL [] (fun f=>bif Nat.beq f F_slices_Clone_api_Alive then some 1 else none) []
theorem cloA_eq(n:Nat)(f:Nat->List AV):callH envB2 2 F_slices_Clone_api_Alive [.tr 3 (n+1) f] []=bif Nat.ble ((0+(n+1))*24) 140737488355328&&Nat.ble (0+(n+1)) 140737488355328 then some (.sl 3 0 0 (n+1) 0,[.seq true 3 (n+1) f])else none:=by kernel_rfl
theorem cloA_con(l:List Alive)(h:l.length<=1000/\l ≠ []):Contract PG F_slices_Clone_api_Alive (eAls l) [] (outBlk 3 encAlive default l).1 (outBlk 3 encAlive default l).2:=by
 obtain⟨h1,h2⟩:=h
 obtain⟨n,hn⟩:∃ n,l.length=n+1:=⟨l.length - 1,by have:=List.length_pos_iff.2 h2;omega⟩
 have e:=cloA_eq n (fun k=>encAlive (l.getD k default))
 rw[ble_true (by omega),ble_true (by omega),Bool.and_true,cond_true]at e
 have hc:=(callH_ok (envL_ok ank) envL_code mixed e).1
 unfold eAls encAlives encL outBlk
 rw[hn]
 exact hc
def kCloA:Known:=.specB F_slices_Clone_api_Alive (dL decAlive) (fun l=>l.length<=1000/\l ≠ []) eAls (outBlk 3 encAlive default)
theorem kCloA_ok:kCloA.Ok PG:=Known.specB_ok cloA_con
def mdT(f:Nat):Option Nat:=bif nmem f [F_slices_Clone_api_Alive]then some 1 else bif nmem f [F_slices_BinarySearchFunc_int]then some 0 else bif nmem f [F_slices_Insert_api_Alive]then some 5 else mdK f
def envT2(l:List Known):Env:={envL [] mdT l with msk:=fun f=>bif Nat.beq f F_coord_Up then [2,4,5,6]else []}
theorem envT2_ok{l:List Known}(h:∀ k ∈ l,k.Ok PG):EnvOk PG (envT2 l):=⟨tt_ok rfl,orc_ok h⟩
theorem conT2{l:List Known}(h:∀ k ∈ l,k.Ok PG){n f:Nat}{xs:List AV}{r:AV}(e:callT (envT2 l) n f xs=some r):Contract PG f xs [] r []:=callT_ok (envT2_ok h) (codeOf_ok rfl) mixed e
def kn28(l:List Msg):List Known:=[kMsgO l,kCloA,kCloneMember,kBs,kIns]
theorem kn28_ok(l:List Msg):∀ k ∈ kn28 l,k.Ok PG:=ak (kMsgO_ok l) (ak kCloA_ok (ak kCloneMember_ok (ak kBs_ok (ak kIns_ok ank))))
inductive VF where
 | nil
 | emp
 | one (v:Md.View)
def VF.av:VF->AV
 | .nil=>.nils
 | .emp=>.trl 5 []
 | .one v=>.trl 5 [encView {v with shard:=0}]
def beM(m:Msg)(x:VF):List AV:=(encMsg {m with kind:=7}).set 25 x.av
def gVw{R:Type}(x:VF)(s:ES)(m:Msg)(p:Plan)(K:Plan->Bool->Option R):Option R:=match x with
 | .nil=>K p s.he
 | .emp=>K p s.he
 | .one v=>bif !decide (s.p.phase=3)then K p s.he else bif !decide (s.p.epoch=v.epoch)then K p s.he else bif decide ((p.chain.length:Int)=0)then K p s.he else bif decide (0<(p.chain.length:Int))then
   bif !(decide ((p.chain.getD (Int.toNat 0) default).node=m.src)&&(decide ((p.chain.getD (Int.toNat 0) default).boot=m.sboot)&&true))then K p s.he else
   bif decide (v.phase=3)then gMs p.chain fun y=>K {p with valid:=y} true else K p true else none
def gAkN{R:Type}(l:List Ask)(b:Bool)(K:AV->List BS->Option R):Option R:=match l with
 | []=>K (aqV b) []
 | a::t=>gC dAk pAk eAk [encAsks (a::t)] fun y=>K (.sl 31 4 0 y.length 0) [blkA y]
def hpN(s:ES)(p:Plan)(n:Nat)(Nb:BS)(W:List AV)(A:AV)(B:List BS):Heap:=.arr true 23 [dsk s.e s.g (.sl 8 1 0 1 1) (.sl 3 2 0 n 0) (.sl 4 3 0 1 1) (opV s.op) A s.c .nils] :: .arr true 8 [encPlan p]::Nb :: .arr true 4 [W]::B
def gCA{R:Type}(l:List Alive)(k:List Alive->Option R):Option R:=gC (dL decAlive) (fun l=>l.length<=1000/\l ≠ []) eAls [encAlives l] k
def gBuN{R:Type}(s:ES)(b:Bool)(K:Plan->List Alive->List Member->AV->AV->List BS->Option R):Option R:=
 gMs s.p.chain fun y0=>gMs s.p.valid fun y1=>gCA s.ns fun y2=>gMs s.keep fun y3=>gFzV s.fz fun F=>gOp s.op <| gAkN s.l b fun A B=>K {s.p with chain:=y0,valid:=y1} y2 y3 F A B
def gBs{R:Type}(ns:List Alive)(t:Int)(K:AlI->Option R):Option R:=gC dBs pBs eBs [encAlives ns,.int .i64 t,fnB] K
def setN(ns:List Alive)(i:Int)(m:Msg):BS:=.seq true 3 ns.length fun k=>bif k.beq (0+i.toNat)then [.int .i64 m.src,.int .i64 m.sboot,.int .i64 0]else encAlive (ns.getD k default)
def putN(x:VF)(s:ES)(m:Msg)(p:Plan)(ns:List Alive)(ke:List Member)(F A:AV)(B:List BS)(y:AlI):Option AV:=
 bif isAt y.1 y.2 (bsP y.1 y.2)then bif decide (((bsP y.1 y.2:Nat):Int)<(ns.length:Int))then bif(0+((bsP y.1 y.2:Nat):Int).toNat).blt ns.length&&true then
   gVw x s m p fun p' he=>fin (hpN s p' ns.length (setN ns (bsP y.1 y.2:Nat) m) [.bool s.fe,encMembers ke,F,.bool he] A B)else none else none
 else gCH dIX pIX eIX [.sl 3 0 0 ns.length 0,.int .i64 ((bsP y.1 y.2:Nat):Int),.sl 3 1 0 1 1] [blkM ns,.arr true 3 [[.int .i64 m.src,.int .i64 m.sboot,.int .i64 0]]] fun z=>
  gVw x s m p fun p' he=>fin (hpN s p' (z.l.length+1) (blkM (insL z.l z.i z.a)) [.bool s.fe,encMembers ke,F,.bool he] A B)
theorem h7N(s:ES)(b:Bool)(m:Msg)(x:VF)(hne:s.ns ≠ [])(hf:s.fz=.nil):callT (envT2 (kn28 s.op)) 20 F_coord_Handle [.agg (buV s b),.agg (encCf s.c),.agg (beM m x)] =
 gBuN s b fun p ns ke F A B=>bif(ns.length.beq 0||ns.length.ble ns.length)&&true then gBs ns m.src fun y=>
  bif isAt y.1 y.2 (bsP y.1 y.2)then bif decide (((bsP y.1 y.2:Nat):Int)<(ns.length:Int))then bif(0+((bsP y.1 y.2:Nat):Int).toNat).blt ns.length then
   bif decide (m.sboot<(ns.getD (0+((bsP y.1 y.2:Nat):Int).toNat) default).member.boot)then fin (hpN s p ns.length (blkM ns) [.bool s.fe,encMembers ke,F,.bool s.he] A B)
   else putN x s m p ns ke F A B y else none else none
  else putN x s m p ns ke F A B y else none:=by
 obtain⟨e,g,p,ns,nb,op,keep,fz,fe,he,l,c⟩:=s
 cases hf
 cases ns with
 | nil=>exact absurd rfl hne
 | cons n0 nt=>cases x <;> cases l <;> cases b <;> kernel_rfl
theorem h7E(s:ES)(b:Bool)(m:Msg)(x:VF)(hne:s.ns ≠ [])(hf:s.fz=.emp):callT (envT2 (kn28 s.op)) 20 F_coord_Handle [.agg (buV s b),.agg (encCf s.c),.agg (beM m x)] =
 gBuN s b fun p ns ke F A B=>bif(ns.length.beq 0||ns.length.ble ns.length)&&true then gBs ns m.src fun y=>
  bif isAt y.1 y.2 (bsP y.1 y.2)then bif decide (((bsP y.1 y.2:Nat):Int)<(ns.length:Int))then bif(0+((bsP y.1 y.2:Nat):Int).toNat).blt ns.length then
   bif decide (m.sboot<(ns.getD (0+((bsP y.1 y.2:Nat):Int).toNat) default).member.boot)then fin (hpN s p ns.length (blkM ns) [.bool s.fe,encMembers ke,F,.bool s.he] A B)
   else putN x s m p ns ke F A B y else none else none
  else putN x s m p ns ke F A B y else none:=by
 obtain⟨e,g,p,ns,nb,op,keep,fz,fe,he,l,c⟩:=s
 cases hf
 cases ns with
 | nil=>exact absurd rfl hne
 | cons n0 nt=>cases x <;> cases l <;> cases b <;> kernel_rfl
theorem h7A(s:ES)(f0:Msg)(ft:List Msg)(b:Bool)(m:Msg)(x:VF)(hne:s.ns ≠ [])(hf:s.fz=.ne f0 ft):callT (envT2 (kn28 s.op)) 20 F_coord_Handle [.agg (buV s b),.agg (encCf s.c),.agg (beM m x)] =
 gBuN s b fun p ns ke F A B=>bif(ns.length.beq 0||ns.length.ble ns.length)&&true then gBs ns m.src fun y=>
  bif isAt y.1 y.2 (bsP y.1 y.2)then bif decide (((bsP y.1 y.2:Nat):Int)<(ns.length:Int))then bif(0+((bsP y.1 y.2:Nat):Int).toNat).blt ns.length then
   bif decide (m.sboot<(ns.getD (0+((bsP y.1 y.2:Nat):Int).toNat) default).member.boot)then fin (hpN s p ns.length (blkM ns) [.bool s.fe,encMembers ke,F,.bool s.he] A B)
   else putN x s m p ns ke F A B y else none else none
  else putN x s m p ns ke F A B y else none:=by
 obtain⟨e,g,p,ns,nb,op,keep,fz,fe,he,l,c⟩:=s
 cases hf
 cases ns with
 | nil=>exact absurd rfl hne
 | cons n0 nt=>cases x <;> cases l <;> cases b <;> kernel_rfl
theorem h7(s:ES)(b:Bool)(m:Msg)(x:VF)(hne:s.ns ≠ []):callT (envT2 (kn28 s.op)) 20 F_coord_Handle [.agg (buV s b),.agg (encCf s.c),.agg (beM m x)] =
 gBuN s b fun p ns ke F A B=>bif(ns.length.beq 0||ns.length.ble ns.length)&&true then gBs ns m.src fun y=>
  bif isAt y.1 y.2 (bsP y.1 y.2)then bif decide (((bsP y.1 y.2:Nat):Int)<(ns.length:Int))then bif(0+((bsP y.1 y.2:Nat):Int).toNat).blt ns.length then
   bif decide (m.sboot<(ns.getD (0+((bsP y.1 y.2:Nat):Int).toNat) default).member.boot)then fin (hpN s p ns.length (blkM ns) [.bool s.fe,encMembers ke,F,.bool s.he] A B)
   else putN x s m p ns ke F A B y else none else none
  else putN x s m p ns ke F A B y else none:=by
 cases hf:s.fz with
 | nil=>exact h7N s b m x hne hf
 | emp=>exact h7E s b m x hne hf
 | ne f0 ft=>exact h7A s f0 ft b m x hne hf
def akCellN(l:List Ask)(b:Bool):AV:=match l with
 | []=>aqV b
 | _::_=>.sl 31 4 0 l.length 0
theorem gAkN_eq{R:Type}{l:List Ask}{b:Bool}{K:AV->List BS->Option R}(h:l.length<=1000):gAkN l b K=K (akCellN l b) (akBl l):=by
 cases l with
 | nil=>rfl
 | cons a t=>
  have hp:pAk (a::t):=⟨Nat.le_trans h (by omega),List.cons_ne_nil _ _⟩
  exact qAk (k:=fun y=>K (.sl 31 4 0 y.length 0) [blkA y]) hp
theorem gCA_eq{R:Type}{l:List Alive}{k:List Alive->Option R}(h:l.length<=1000)(hne:l ≠ []):gCA l k=k l:=gC_eq l (decAlives l) ⟨h,hne⟩ (.refl _)
theorem gBs_eq{R:Type}{ns:List Alive}{t:Int}{K:AlI->Option R}(h:ns.length<=1000):gBs ns t K=K (ns,t):=by
 have hp:pBs (ns,t):=Nat.le_trans h (by omega)
 exact gC_eq (ns,t) (by show(decL decAlive (encAlives ns),t)=_;rw[decAlives]) hp (.refl _)
theorem gBuN_eq{R:Type}{s:ES}{b:Bool}{K:Plan->List Alive->List Member->AV->AV->List BS->Option R}(h:HOk s)(hne:s.ns ≠ []):gBuN s b K=K s.p s.ns s.keep (fzV s.fz) (akCellN s.l b) (akBl s.l):=by
 have h1:=h.eok.ch
 have h2:=h.val
 have h3:=h.eok.ns
 have h4:=h.eok.keep
 unfold gBuN
 rw[gMs_eq _ (by unfold shortL LB;omega),gMs_eq _ (by unfold shortL LB;omega),gCA_eq h3 hne,gMs_eq _ (by unfold shortL LB;omega),gFzV_eq h.eok.fz h.cp,gOp_eq h.op,gAkN_eq h.eok.l]
def alM(m:Msg):Alive:=⟨⟨m.src,m.sboot⟩,0⟩
def putNs(ns:List Alive)(m:Msg):List Alive:=bif isAt ns m.src (bsP ns m.src)then ns.set (bsP ns m.src) (alM m)else insL ns (bsP ns m.src) (alM m)
def stale(ns:List Alive)(m:Msg):Bool:=isAt ns m.src (bsP ns m.src)&&decide (m.sboot<(ns.getD (bsP ns m.src) default).member.boot)
def serves(s:ES)(m:Msg)(v:Md.View):Bool:=decide (s.p.phase=3)&&(decide (s.p.epoch=v.epoch)&&(decide (0<s.p.chain.length)&&(decide ((s.p.chain.getD 0 default).node=m.src)&&decide ((s.p.chain.getD 0 default).boot=m.sboot))))
def vwP(x:VF)(s:ES)(m:Msg):Plan × Bool:=match x with
 | .one v=>bif serves s m v then(bif decide (v.phase=3)then {s.p with valid:=s.p.chain}else s.p,true)else(s.p,s.he)
 | _=>(s.p,s.he)
def h7P(s:ES)(m:Msg)(x:VF):ES:=bif stale s.ns m then s else {s with p:=(vwP x s m).1,he:=(vwP x s m).2,ns:=putNs s.ns m}
theorem gVw_eq{R:Type}{x:VF}{s:ES}{m:Msg}{K:Plan->Bool->Option R}(h:HOk s):gVw x s m s.p K=K (vwP x s m).1 (vwP x s m).2:=by
 cases x with
 | nil=>rfl
 | emp=>rfl
 | one v=>
  have h1:=h.eok.ch
  unfold gVw vwP serves
  rw[gMs_eq _ (by unfold shortL LB;omega)]
  simp only[show(Int.toNat 0)=0 from rfl]
  cases decide (s.p.phase=3)with
  | false=>rfl
  | true=>
   cases decide (s.p.epoch=v.epoch)with
   | false=>rfl
   | true=>
    by_cases hc:0<s.p.chain.length
    ·rw[decide_eq_false (p:=(s.p.chain.length:Int)=0) (by omega),decide_eq_true (p:=0<(s.p.chain.length:Int)) (by omega),decide_eq_true hc]
     cases decide ((s.p.chain.getD 0 default).node=m.src) <;> cases decide ((s.p.chain.getD 0 default).boot=m.sboot) <;> cases decide (v.phase=3) <;> rfl
    ·rw[decide_eq_true (p:=(s.p.chain.length:Int)=0) (by omega),decide_eq_false hc]
     rfl
theorem fin_N{s:ES}{b:Bool}{p:Plan}{he:Bool}{n:Nat}{f:Nat->List AV}{ns:List Alive}(hn:n=ns.length)(hf:∀ k,k<n->f k=encAlive (ns.getD k default))(hnb:s.nb=false) :
  ∃ v,fin (hpN s p n (.seq true 3 n f) [.bool s.fe,encMembers s.keep,fzV s.fz,.bool he] (akCellN s.l b) (akBl s.l))=some v/\SubV v (ansB ({s with p:=p,he:=he,ns:=ns},[])):=by
 have hN:SubV (.tr 3 n fun k=>f (k+0)) (encAlives ns):=by
  subst hn
  exact SubV.trs fun k hk=>by rw[Nat.add_zero,hf k hk];exact .refl _
 obtain⟨e,g,p0,ns0,nb,op,keep,fz,fe,he0,l,c⟩:=s
 simp only[]at hnb
 subst hnb
 cases l with
 | nil=>
  refine⟨.tup [.agg [.int .i64 e,.int .i64 g,.trl 8 [encPlan p],.tr 3 n fun k=>f (k+0),.trl 4 [[.bool fe,encMembers keep,fzV fz,.bool he]],opV op,aqV b],.nils],?_,?_⟩
  ·have:(bif(n.beq 0||(n+0).ble n)&&true&&true then some (AV.tup [.agg [.int .i64 e,.int .i64 g,.trl 8 [encPlan p],.tr 3 n fun k=>f (k+0),.trl 4 [[.bool fe,encMembers keep,fzV fz,.bool he]],opV op,aqV b],.nils])else none)=some (AV.tup [.agg [.int .i64 e,.int .i64 g,.trl 8 [encPlan p],.tr 3 n fun k=>f (k+0),.trl 4 [[.bool fe,encMembers keep,fzV fz,.bool he]],opV op,aqV b],.nils]):=by
    rw[show n+0=n from rfl,orU];rfl
   refine Eq.trans ?_ this
   cases b <;> cases fz <;> rfl
  ·exact .tup (.cons (.agg (.cons (.refl _) (.cons (.refl _) (.cons (.refl _) (.cons hN (.cons (.refl _) (.cons (.refl _) (.cons (aqV_ask b) .nil)))))))) (.cons nilsL .nil))
 | cons a t=>
  refine⟨.tup [.agg [.int .i64 e,.int .i64 g,.trl 8 [encPlan p],.tr 3 n fun k=>f (k+0),.trl 4 [[.bool fe,encMembers keep,fzV fz,.bool he]],opV op,encAsks (a::t)],.nils],?_,?_⟩
  ·have:(bif((n.beq 0||(n+0).ble n)&&(((a::t).length.beq 0||((a::t).length+0).ble (a::t).length)&&true))&&true then some (AV.tup [.agg [.int .i64 e,.int .i64 g,.trl 8 [encPlan p],.tr 3 n fun k=>f (k+0),.trl 4 [[.bool fe,encMembers keep,fzV fz,.bool he]],opV op,encAsks (a::t)],.nils])else none)=some (AV.tup [.agg [.int .i64 e,.int .i64 g,.trl 8 [encPlan p],.tr 3 n fun k=>f (k+0),.trl 4 [[.bool fe,encMembers keep,fzV fz,.bool he]],opV op,encAsks (a::t)],.nils]):=by
    rw[show n+0=n from rfl,orU,show(a::t).length+0=(a::t).length from rfl,orU];rfl
   refine Eq.trans ?_ this
   cases fz <;> rfl
  ·exact .tup (.cons (.agg (.cons (.refl _) (.cons (.refl _) (.cons (.refl _) (.cons hN (.refl _)))))) (.cons nilsL .nil))
theorem isAt_lt{ns:List Alive}{t:Int}{i:Nat}(h:isAt ns t i=true):i<ns.length:=by
 unfold isAt at h
 rw[Bool.and_eq_true]at h
 exact of_decide_eq_true h.1
theorem set_get{ns:List Alive}{i k:Nat}{a:Alive}(hk:k<ns.length):(bif k.beq i then encAlive a else encAlive (ns.getD k default))=encAlive ((ns.set i a).getD k default):=by
 by_cases h:k=i
 ·subst h
  have:Nat.beq k k=true:=Nat.beq_refl k
  rw[this,cond_true]
  simp[List.getD,hk]
 ·have:Nat.beq k i=false:=by
   cases hb:Nat.beq k i with
   | false=>rfl
   | true=>exact absurd (Nat.eq_of_beq_eq_true hb) h
  rw[this,cond_false]
  simp[List.getD,List.getElem?_set_ne (Ne.symm h)]
theorem h7_at{s:ES}{b:Bool}{m:Msg}{x:VF}(h:HOk s)(hne:s.ns ≠ []):Contract PG F_coord_Handle [.agg (buV s b),.agg (encCf s.c),.agg (beM m x)] [] (ansB (h7P s m x,[])) []:=by
 have hl:=h.eok.ns
 have e:=h7 s b m x hne
 rw[gBuN_eq h hne,orU,Bool.and_true,cond_true,gBs_eq hl]at e
 dsimp only at e
 have hput:∃ v,putN x s m s.p s.ns s.keep (fzV s.fz) (akCellN s.l b) (akBl s.l) (s.ns,m.src)=some v/\SubV v (ansB ({s with p:=(vwP x s m).1,he:=(vwP x s m).2,ns:=putNs s.ns m},[])):=by
  unfold putN
  dsimp only
  unfold putNs
  cases hA:isAt s.ns m.src (bsP s.ns m.src)with
  | true=>
   have hi:=isAt_lt hA
   rw[cond_true,cond_true,decide_eq_true (by omega),cond_true,Int.toNat_natCast,Nat.zero_add,blt_true hi,Bool.and_true,cond_true,gVw_eq h]
   exact fin_N (by simp) (fun k hk=>by rw[Int.toNat_natCast,Nat.zero_add];exact set_get (i:=bsP s.ns m.src) (a:=alM m) hk) h.nb
  | false=>
   rw[cond_false,cond_false]
   have e1:=gIns_eq (x:=⟨s.ns,bsP s.ns m.src,alM m⟩) (K:=fun z=>gVw x s m s.p fun p' he=>fin (hpN s p' (z.l.length+1) (blkM (insL z.l z.i z.a)) [.bool s.fe,encMembers s.keep,fzV s.fz,.bool he] (akCellN s.l b) (akBl s.l))) ⟨bsP_le _ _,by simp only;omega,hne⟩
   have e2:=fin_N (s:=s) (b:=b) (p:=(vwP x s m).1) (he:=(vwP x s m).2) (n:=s.ns.length+1) (f:=fun k=>encAlive ((insL s.ns (bsP s.ns m.src) (alM m)).getD k default)) (ns:=insL s.ns (bsP s.ns m.src) (alM m)) (insL_len (bsP_le _ _)).symm (fun k _=>rfl) h.nb
   obtain⟨v,f1,f2⟩:=e2
   refine⟨v,?_,f2⟩
   refine Eq.trans e1 ?_
   dsimp only
   rw[gVw_eq h]
   unfold blkM
   rw[insL_len (bsP_le _ _)]
   exact f1
 obtain⟨v2,f2,g2⟩:=hput
 rw[f2]at e
 unfold h7P stale
 cases hA:isAt s.ns m.src (bsP s.ns m.src)with
 | false=>
  rw[hA,cond_false]at e
  exact(conT2 (kn28_ok _) e).res g2
 | true=>
  have hi:=isAt_lt hA
  rw[hA,cond_true,decide_eq_true (by omega),cond_true,Int.toNat_natCast,Nat.zero_add,blt_true hi,cond_true]at e
  cases hs:decide (m.sboot<(s.ns.getD (bsP s.ns m.src) default).member.boot)with
  | true=>
   rw[hs,cond_true]at e
   obtain⟨v1,f1,g1⟩:=fin_N (s:=s) (b:=b) (p:=s.p) (he:=s.he) (n:=s.ns.length) (f:=fun k=>encAlive (s.ns.getD k default)) (ns:=s.ns) rfl (fun k _=>rfl) h.nb
   have f1:fin (hpN s s.p s.ns.length (blkM s.ns) [.bool s.fe,encMembers s.keep,fzV s.fz,.bool s.he] (akCellN s.l b) (akBl s.l))=some v1:=f1
   rw[f1]at e
   exact(conT2 (kn28_ok _) e).res g1
  | false=>
   rw[hs,cond_false]at e
   exact(conT2 (kn28_ok _) e).res g2
theorem h7_con{s:ES}{m:Msg}{x:VF}(h:HOk s)(hne:s.ns ≠ []):Contract PG F_coord_Handle [.agg (buT s),.agg (encCf s.c),.agg (beM m x)] [] (ansB (h7P s m x,[])) []:=con_bu fun _=>h7_at h hne
def kn32(l:List Msg):List Known:=[kMsgO l,kCloneMember,kBs]
theorem kn32_ok(l:List Msg):∀ k ∈ kn32 l,k.Ok PG:=ak (kMsgO_ok l) (ak kCloneMember_ok (ak kBs_ok ank))
def nA(n:Bool):AV:=bif n then .trl 3 []else .nils
def buV0(s:ES)(b n:Bool):List AV:=[.int .i64 s.e,.int .i64 s.g,.trl 8 [encPlan s.p],nA n,.trl 4 [wkA s],opV s.op,akAV s.l b]
def gBu0{R:Type}(s:ES)(b:Bool)(K:Plan->List Member->AV->AV->List BS->Option R):Option R:=
 gMs s.p.chain fun y0=>gMs s.p.valid fun y1=>gMs s.keep fun y3=>gFzV s.fz fun F=>gOp s.op <| gAkN s.l b fun A B=>K {s.p with chain:=y0,valid:=y1} y3 F A B
def hpO(s:ES)(p:Plan)(c:List AV)(W:List AV)(A:AV)(B:List BS):Heap:=.arr true 23 [dsk s.e s.g (.sl 8 1 0 1 1) (.sl 3 2 0 1 1) (.sl 4 3 0 1 1) (opV s.op) A s.c .nils] :: .arr true 8 [encPlan p] :: .arr true 3 [c] :: .arr true 4 [W]::B
theorem h70N(s:ES)(b n:Bool)(m:Msg)(x:VF)(hf:s.fz=.nil):callT (envT2 (kn32 s.op)) 20 F_coord_Handle [.agg (buV0 s b n),.agg (encCf s.c),.agg (beM m x)] =
 gBu0 s b fun p ke F A B=>gC dBs pBs eBs [nA n,.int .i64 m.src,fnB] fun y=>
  bif isAt y.1 y.2 (bsP y.1 y.2)then none else bif isAt y.1 y.2 (bsP y.1 y.2)then none else
  bif decide (((bsP y.1 y.2:Nat):Int)<=((0:Nat):Int))then bif decide (((bsP y.1 y.2:Nat):Int)=((0:Nat):Int))then
   gVw x s m p fun p' he=>fin (hpO s p' [.int .i64 m.src,.int .i64 m.sboot,.int .i64 0] [.bool s.fe,encMembers ke,F,.bool he] A B)else none else none:=by
 obtain⟨e,g,p,ns,nb,op,keep,fz,fe,he,l,c⟩:=s
 cases hf
 cases x <;> cases l <;> cases b <;> cases n <;> kernel_rfl
theorem h70E(s:ES)(b n:Bool)(m:Msg)(x:VF)(hf:s.fz=.emp):callT (envT2 (kn32 s.op)) 20 F_coord_Handle [.agg (buV0 s b n),.agg (encCf s.c),.agg (beM m x)] =
 gBu0 s b fun p ke F A B=>gC dBs pBs eBs [nA n,.int .i64 m.src,fnB] fun y=>
  bif isAt y.1 y.2 (bsP y.1 y.2)then none else bif isAt y.1 y.2 (bsP y.1 y.2)then none else
  bif decide (((bsP y.1 y.2:Nat):Int)<=((0:Nat):Int))then bif decide (((bsP y.1 y.2:Nat):Int)=((0:Nat):Int))then
   gVw x s m p fun p' he=>fin (hpO s p' [.int .i64 m.src,.int .i64 m.sboot,.int .i64 0] [.bool s.fe,encMembers ke,F,.bool he] A B)else none else none:=by
 obtain⟨e,g,p,ns,nb,op,keep,fz,fe,he,l,c⟩:=s
 cases hf
 cases x <;> cases l <;> cases b <;> cases n <;> kernel_rfl
theorem h70A(s:ES)(f0:Msg)(ft:List Msg)(b n:Bool)(m:Msg)(x:VF)(hf:s.fz=.ne f0 ft):callT (envT2 (kn32 s.op)) 20 F_coord_Handle [.agg (buV0 s b n),.agg (encCf s.c),.agg (beM m x)] =
 gBu0 s b fun p ke F A B=>gC dBs pBs eBs [nA n,.int .i64 m.src,fnB] fun y=>
  bif isAt y.1 y.2 (bsP y.1 y.2)then none else bif isAt y.1 y.2 (bsP y.1 y.2)then none else
  bif decide (((bsP y.1 y.2:Nat):Int)<=((0:Nat):Int))then bif decide (((bsP y.1 y.2:Nat):Int)=((0:Nat):Int))then
   gVw x s m p fun p' he=>fin (hpO s p' [.int .i64 m.src,.int .i64 m.sboot,.int .i64 0] [.bool s.fe,encMembers ke,F,.bool he] A B)else none else none:=by
 obtain⟨e,g,p,ns,nb,op,keep,fz,fe,he,l,c⟩:=s
 cases hf
 cases x <;> cases l <;> cases b <;> cases n <;> kernel_rfl
theorem h70(s:ES)(b n:Bool)(m:Msg)(x:VF):callT (envT2 (kn32 s.op)) 20 F_coord_Handle [.agg (buV0 s b n),.agg (encCf s.c),.agg (beM m x)] =
 gBu0 s b fun p ke F A B=>gC dBs pBs eBs [nA n,.int .i64 m.src,fnB] fun y=>
  bif isAt y.1 y.2 (bsP y.1 y.2)then none else bif isAt y.1 y.2 (bsP y.1 y.2)then none else
  bif decide (((bsP y.1 y.2:Nat):Int)<=((0:Nat):Int))then bif decide (((bsP y.1 y.2:Nat):Int)=((0:Nat):Int))then
   gVw x s m p fun p' he=>fin (hpO s p' [.int .i64 m.src,.int .i64 m.sboot,.int .i64 0] [.bool s.fe,encMembers ke,F,.bool he] A B)else none else none:=by
 cases hf:s.fz with
 | nil=>exact h70N s b n m x hf
 | emp=>exact h70E s b n m x hf
 | ne f0 ft=>exact h70A s f0 ft b n m x hf
theorem gBu0_eq{R:Type}{s:ES}{b:Bool}{K:Plan->List Member->AV->AV->List BS->Option R}(h:HOk s):gBu0 s b K=K s.p s.keep (fzV s.fz) (akCellN s.l b) (akBl s.l):=by
 have h1:=h.eok.ch
 have h2:=h.val
 have h4:=h.eok.keep
 unfold gBu0
 rw[gMs_eq _ (by unfold shortL LB;omega),gMs_eq _ (by unfold shortL LB;omega),gMs_eq _ (by unfold shortL LB;omega),gFzV_eq h.eok.fz h.cp,gOp_eq h.op,gAkN_eq h.eok.l]
theorem nA_sub(n:Bool):SubV (nA n) (encAlives []):=by
 cases n with
 | false=>exact .nils
 | true=>exact SubV.trl_encL (e:=encAlive) (z:=default) []
theorem gBs0_eq{R:Type}{n:Bool}{t:Int}{K:AlI->Option R}:gC dBs pBs eBs [nA n,.int .i64 t,fnB] K=K ([],t):=by
 have hp:pBs ([],t):=Nat.zero_le _
 refine gC_eq ([],t) ?_ hp (.cons (nA_sub n) (.refl _))
 show(decL decAlive (nA n),t)=_
 cases n <;> rfl
theorem fin_O{s:ES}{b:Bool}{p:Plan}{he:Bool}{a:Alive}(hnb:s.nb=false) :
  ∃ v,fin (hpO s p (encAlive a) [.bool s.fe,encMembers s.keep,fzV s.fz,.bool he] (akCellN s.l b) (akBl s.l))=some v/\SubV v (ansB ({s with p:=p,he:=he,ns:=[a]},[])):=by
 have hN:SubV (.trl 3 [encAlive a]) (encAlives [a]):=SubV.trl_encL (e:=encAlive) (z:=default) [a]
 obtain⟨e,g,p0,ns0,nb,op,keep,fz,fe,he0,l,c⟩:=s
 simp only[]at hnb
 subst hnb
 cases l with
 | nil=>
  refine⟨.tup [.agg [.int .i64 e,.int .i64 g,.trl 8 [encPlan p],.trl 3 [encAlive a],.trl 4 [[.bool fe,encMembers keep,fzV fz,.bool he]],opV op,aqV b],.nils],?_,?_⟩
  ·cases b <;> cases fz <;> rfl
  ·exact .tup (.cons (.agg (.cons (.refl _) (.cons (.refl _) (.cons (.refl _) (.cons hN (.cons (.refl _) (.cons (.refl _) (.cons (aqV_ask b) .nil)))))))) (.cons nilsL .nil))
 | cons a1 t=>
  refine⟨.tup [.agg [.int .i64 e,.int .i64 g,.trl 8 [encPlan p],.trl 3 [encAlive a],.trl 4 [[.bool fe,encMembers keep,fzV fz,.bool he]],opV op,encAsks (a1::t)],.nils],?_,?_⟩
  ·have:(bif((a1::t).length.beq 0||((a1::t).length+0).ble (a1::t).length)&&true&&true then some (AV.tup [.agg [.int .i64 e,.int .i64 g,.trl 8 [encPlan p],.trl 3 [encAlive a],.trl 4 [[.bool fe,encMembers keep,fzV fz,.bool he]],opV op,encAsks (a1::t)],.nils])else none)=some (AV.tup [.agg [.int .i64 e,.int .i64 g,.trl 8 [encPlan p],.trl 3 [encAlive a],.trl 4 [[.bool fe,encMembers keep,fzV fz,.bool he]],opV op,encAsks (a1::t)],.nils]):=by
    rw[show(a1::t).length+0=(a1::t).length from rfl,orU];rfl
   refine Eq.trans ?_ this
   cases fz <;> rfl
  ·exact .tup (.cons (.agg (.cons (.refl _) (.cons (.refl _) (.cons (.refl _) (.cons hN (.refl _)))))) (.cons nilsL .nil))
theorem bsP_nil(t:Int):bsP [] t=0:=rfl
theorem isAt_nil(t:Int)(i:Nat):isAt [] t i=false:=by unfold isAt;rw[decide_eq_false (by simp),Bool.false_and]
theorem h70_at{s:ES}{b n:Bool}{m:Msg}{x:VF}(h:HOk s)(hns:s.ns=[]):Contract PG F_coord_Handle [.agg (buV0 s b n),.agg (encCf s.c),.agg (beM m x)] [] (ansB (h7P s m x,[])) []:=by
 have e:=h70 s b n m x
 rw[gBu0_eq h,gBs0_eq]at e
 dsimp only at e
 rw[isAt_nil,cond_false,cond_false,bsP_nil,decide_eq_true (by omega),cond_true,decide_eq_true rfl,cond_true,gVw_eq h]at e
 obtain⟨v,f1,f2⟩:=fin_O (s:=s) (b:=b) (p:=(vwP x s m).1) (he:=(vwP x s m).2) (a:=alM m) h.nb
 have f1:fin (hpO s (vwP x s m).1 [.int .i64 m.src,.int .i64 m.sboot,.int .i64 0] [.bool s.fe,encMembers s.keep,fzV s.fz,.bool (vwP x s m).2] (akCellN s.l b) (akBl s.l))=some v:=f1
 rw[f1]at e
 have hh:h7P s m x={s with p:=(vwP x s m).1,he:=(vwP x s m).2,ns:=[alM m]}:=by
  unfold h7P stale putNs
  rw[hns,isAt_nil,Bool.false_and,cond_false,bsP_nil]
  rfl
 rw[hh]
 exact(conT2 (kn32_ok _) e).res f2
def buT0(s:ES)(n:Bool):List AV:=[.int .i64 s.e,.int .i64 s.g,.trl 8 [encPlan s.p],nA n,.trl 4 [wkA s],opV s.op,encAsks s.l]
theorem h70_asks{s:ES}{n:Bool}{m:Msg}{x:VF}(h:HOk s)(hns:s.ns=[]):Contract PG F_coord_Handle [.agg (buT0 s n),.agg (encCf s.c),.agg (beM m x)] [] (ansB (h7P s m x,[])) []:=by
 by_cases hl:s.l=[]
 ·refine Contract.split (args1:=[.agg (buV0 s false n),.agg (encCf s.c),.agg (beM m x)]) (args2:=[.agg (buV0 s true n),.agg (encCf s.c),.agg (beM m x)]) ?_ (h70_at h hns) (h70_at h hns)
  unfold buT0 buV0 akAV
  rw[hl]
  exact OrC.of [] [.agg (encCf s.c),.agg (beM m x)] (.agg (OrC.of [.int .i64 s.e,.int .i64 s.g,.trl 8 [encPlan s.p],nA n,.trl 4 [wkA s],opV s.op] [] .nil))
 ·have:buT0 s n=buV0 s false n:=by
   unfold buT0 buV0 akAV
   cases h:s.l with
   | nil=>exact absurd h hl
   | cons a t=>rfl
  rw[this]
  exact h70_at h hns
theorem h7_all{s:ES}{m:Msg}{x:VF}(h:HOk s):Contract PG F_coord_Handle [.agg (buT s),.agg (encCf s.c),.agg (beM m x)] [] (ansB (h7P s m x,[])) []:=by
 by_cases hns:s.ns=[]
 ·refine Contract.split (args1:=[.agg (buT0 s false),.agg (encCf s.c),.agg (beM m x)]) (args2:=[.agg (buT0 s true),.agg (encCf s.c),.agg (beM m x)]) ?_ (h70_asks h hns) (h70_asks h hns)
  unfold buT buT0
  rw[hns]
  exact OrC.of [] [.agg (encCf s.c),.agg (beM m x)] (.agg (OrC.of [.int .i64 s.e,.int .i64 s.g,.trl 8 [encPlan s.p]] [.trl 4 [wkA s],opV s.op,encAsks s.l] .nil))
 ·exact h7_con h hns
def kn40:List Known:=[kUpM,kOneDown,kOneUp,kGrows,kBoth]
theorem kn40_ok:∀ k ∈ kn40,k.Ok PG:=ak kUpM_ok (ak kOneDown_ok (ak kOneUp_ok (ak kGrows_ok (ak kBoth_ok ank))))
inductive ND where
 | blk
 | emp (n:Bool)
def ND.q:ND->Nat
 | .blk=>4
 | .emp _=>3
def nV(d:ND)(ns:List Alive):AV:=match d with
 | .blk=>encAlives ns
 | .emp n=>nA n
def akCellK(d:ND)(l:List Ask)(b:Bool):AV:=match l with
 | []=>aqV b
 | _::_=>.sl 31 d.q 0 l.length 0
def akBlK(l:List Ask):List BS:=match l with
 | []=>[]
 | _::_=>[blkA l]
def hpK(d:ND)(t:Bool)(s:ES)(P W:List AV)(A O:AV)(B:List BS):Heap:=match d with
 | .emp n=>.arr true 23 [dsk s.e s.g (.sl 8 1 0 1 1) (nA n) (.sl 4 2 0 1 1) (opV s.op) A s.c O] :: .arr true 8 [P] :: .arr true 4 [W]::B
 | .blk=>.arr true 23 [dsk s.e s.g (.sl 8 1 0 1 1) (.sl 3 2 0 s.ns.length 0) (.sl 4 3 0 1 1) (opV s.op) A s.c O] :: .arr true 8 [P]::(.seq t 3 s.ns.length fun i=>encAlive (s.ns.getD i default)) :: .arr true 4 [W]::B
def gNN{R:Type}(d:ND)(ns:List Alive)(K:Option R):Option R:=match d with
 | .blk=>bif(ns.length.beq 0||ns.length.ble ns.length)&&true&&true then K else none
 | .emp _=>K
def gUpN{R:Type}(d:ND)(s:ES)(K:UX->Option R):Option R:=gC dUX pUX eUX [mkU s.e s.g (nV d s.ns),.agg (encCf s.c)] K
def gNA{R:Type}(d:ND)(ns:List Alive)(l:List Ask)(K:Option R):Option R:=match d,l with
 | .blk,[]=>bif(ns.length.beq 0||ns.length.ble ns.length)&&true&&true then K else none
 | .blk,_::_=>bif(ns.length.beq 0||ns.length.ble ns.length)&&((l.length.beq 0||l.length.ble l.length)&&true)&&true then K else none
 | .emp _,[]=>K
 | .emp _,_::_=>bif(l.length.beq 0||l.length.ble l.length)&&true&&true then K else none
def gGr{R:Type}(d:ND)(s:ES)(b:Bool)(up:List Member)(K:GX->Option R):Option R:=gC dGX pGX eGX [.tp (dsk s.e s.g (.trl 8 [encPlan s.p]) (nV d s.ns) (.trl 4 [wkA s]) (opV s.op) (akAV s.l b) s.c .nils) 0,.agg (encPlan s.p),encMembers up] K
def lkO(d:ND)(s:ES)(b:Bool)(P W:List AV):Option (AV × Heap):=some (.tup [],hpK d false s P W (akCellK d s.l b) .nils (akBlK s.l))
def lkS(d:ND)(s:ES)(b:Bool):Option (AV × Heap):=lkO d s b (encPlan s.p) (wkA s)
def begP(p:Plan)(fr:Bool):Plan:={p with epoch:=IntKind.i64.wrap (p.epoch+1),phase:=1,fresh:=fr}
def lkT(d:ND)(s:ES)(b:Bool):Option (AV × Heap):=bif decide (1099511627776<=s.p.epoch)then lkS d s b else lkO d s b (encPlan (begP s.p true)) wk0
def lkF(d:ND)(s:ES)(b:Bool):Option (AV × Heap):=bif decide (1099511627776<=s.p.epoch)then lkS d s b else gNN d s.ns (gUpN d s fun y=>gEq s.p.valid (upP y.ns y.c.susp) fun z=>lkO d s b (encPlan (begP s.p false)) [.bool false,encMembers (bothP z.1 z.2),.nils,.bool false])
def lkG(d:ND)(s:ES)(b:Bool)(up:List Member):Option (AV × Heap):=gNA d s.ns s.l (gGr d s b up fun y=>bif growsP y.p y.x.c y.up then lkF d s b else lkS d s b)
theorem look_eq(d:ND)(s:ES)(b:Bool):callH (envK2 kn40) 20 F_coord_desk_look A0 (hpK d true s (encPlan s.p) (wkA s) (akCellK d s.l b) .nils (akBlK s.l)) =
 gNN d s.ns (gUpN d s fun y0=>bif decide (s.p.phase=0)then bif decide (0<((upP y0.ns y0.c.susp).length:Int))then lkT d s b else lkS d s b
  else bif decide (s.p.phase=3)then gEq s.p.chain (upP y0.ns y0.c.susp) fun y1=>bif y1.1.any (fun m=>!inUp y1.2 m)then gEq s.p.valid (upP y0.ns y0.c.susp) fun y2=>bif y2.1.any (fun m=>inUp y2.2 m)then lkF d s b else lkG d s b (upP y0.ns y0.c.susp)
   else lkG d s b (upP y0.ns y0.c.susp)
  else bif decide (s.p.phase=1)then bif !s.p.fresh then bif decide ((s.keep.length:Int)=0)then gEq s.p.valid (upP y0.ns y0.c.susp) fun y3=>bif y3.1.any (fun m=>inUp y3.2 m)then lkF d s b else lkS d s b
    else gEq s.keep (upP y0.ns y0.c.susp) fun y4=>bif y4.1.any (fun m=>!inUp y4.2 m)then gEq s.p.valid (upP y0.ns y0.c.susp) fun y5=>bif y5.1.any (fun m=>inUp y5.2 m)then lkF d s b else lkS d s b else lkS d s b
   else lkS d s b
  else lkS d s b):=by
 obtain⟨e,g,p,ns,nb,op,keep,fz,fe,he,l,c⟩:=s
 rcases d with _ | n
 ·cases fz <;> cases l <;> cases b <;> kernel_rfl
 ·cases n <;> cases fz <;> cases l <;> cases b <;> kernel_rfl
def qOf(d:ND)(l:List Ask):Nat:=match l with
 | []=>d.q
 | _::_=>d.q+1
def kMayF:Known:={f:=F_coord_desk_may,ans:=fun args hp=>match hp with
 | []=>some {X:=Unit,g:=cd (gP dMy pDS eMy args/\mayP (dMy args)=false),a:=(),r:=fun _=>(.bool false,[])}
 | _=>none}
theorem kMayF_ok:kMayF.Ok PG:=by
 intro args hp A e hg
 cases hp with
 | nil=>
  cases e
  obtain⟨⟨h1,h2⟩,h3⟩:=cd_iff.1 hg
  have:=(may_con (dMy args) h1).args h2
  rw[h3]at this
  exact⟨this,Nat.le_refl _⟩
 | cons x r=>cases e
def gMayF{R:Type}(d:ND)(s:ES)(b:Bool)(K:Option R):Option R:=
 gX (gP dMy pDS eMy [.tp (dsk s.e s.g (.trl 8 [encPlan s.p]) (nV d s.ns) (.trl 4 [wkA s]) (opV s.op) (akAV s.l b) s.c .nils) 0,.int .i64 0]/\mayP (dMy [.tp (dsk s.e s.g (.trl 8 [encPlan s.p]) (nV d s.ns) (.trl 4 [wkA s]) (opV s.op) (akAV s.l b) s.c .nils) 0,.int .i64 0])=false) () fun _=>K
def lv41(q:Nat):List (Nat × Nat × List Nat):=[(F_coord_desk_again,1,[0,1,4,5,57,58,59,1000+q])]
def env41(q:Nat)(l:List Known):Env:={envL (lv41 q) mdK l with msk:=fun f=>bif Nat.beq f F_coord_Up then [2,4,5,6]else []}
theorem env41_ok{q:Nat}{l:List Known}(h:∀ k ∈ l,k.Ok PG):EnvOk PG (env41 q l):=⟨tt_ok rfl,orc_ok h⟩
theorem con41H{q:Nat}{l:List Known}(h:∀ k ∈ l,k.Ok PG){n f:Nat}{args:List AV}{hp:Heap}{r:AV}{hp':Heap}(e:callH (env41 q l) n f args hp=some (r,hp')):Contract PG f args hp r hp'/\hp.length<=hp'.length:=callH_ok (env41_ok h) (codeOf_ok rfl) mixed e
def kn41(d:ND)(t:Bool):List Known:=match d with
 | .blk=>[kEb t,kFrozen,kCloneMember]
 | .emp _=>[kMayF,kFrozen,kCloneMember]
theorem kn41_ok(d:ND)(t:Bool):∀ k ∈ kn41 d t,k.Ok PG:=by
 cases d with
 | blk=>exact ak (kEb_ok t) (ak kFrozen_ok (ak kCloneMember_ok ank))
 | emp n=>exact ak kMayF_ok (ak kFrozen_ok (ak kCloneMember_ok ank))
def frC(m:Member)(ep:Int):List AV:=[.int .i64 8,.int .i64 1,.int .i64 m.node,.int .i64 m.boot,.int .i64 0,.int .i64 0,.int .i64 ep,.int .i64 0,.int .i64 0,.int .i64 0,.int .i64 0,.int .i64 0,.bool false,.bool false,.str [],.str [],.cplx .f64 0 0,.cplx .f64 0 0,.int .i64 0,.str [],.str [],.str [],.bool false,.nils,.nils,.nils,.cplx .f64 0 0,.cplx .f64 0 0,.int .i64 0,.nils,.nils]
def feC(ep:Int):List AV:=[.int .i64 19,.int .i64 1,.int .i64 0,.int .i64 0,.int .i64 0,.int .i64 0,.int .i64 ep,.int .i64 0,.int .i64 0,.int .i64 0,.int .i64 0,.int .i64 0,.bool false,.bool false,.str [],.str [],.cplx .f64 0 0,.cplx .f64 0 0,.int .i64 0,.str [],.str [],.str [],.bool false,.nils,.nils,.nils,.cplx .f64 0 0,.cplx .f64 0 0,.int .i64 0,.nils,.nils]
def hpQ(d:ND)(s:ES)(b:Bool)(V:AV)(O:List BS):Heap:=hpK d false s (encPlan s.p) (wkA s) (akCellK d s.l b) V (akBlK s.l++O)
def pcB(t:Bool)(s:ES):BS:=bif t then .seq true 8 1 fun i=>[encPlan s.p].getD i (encPlan s.p)else .arr true 8 [encPlan s.p]
def SAg(d:ND)(s:ES)(b t:Bool)(V:AV)(O:List BS)(l:List Member)(i:Int):St:={fr:=[(0,.ptr 0 0 0),(1,.int .i64 0),(4,.ptr (qOf d s.l+O.length) 0 0),(5,.ptr (qOf d s.l+O.length+1) 0 0),(57,encMembers l),(58,.int .i64 l.length),(59,.int .i64 i),(1000+qOf d s.l,.undef)],hp:=hpK d false s (encPlan s.p) (wkA s) (akCellK d s.l b) V (akBlK s.l++(O++[pcB t s,.arr true 4 [wkA s]]))}
def LAg(d:ND)(t0:Bool)(N:Nat)(s:ES)(b t:Bool)(l:List Member)(j:Nat)(V:AV)(O:List BS)(i:Int):Option (AV × Heap):=LP (env41 (qOf d s.l) (kn41 d t0)) (N+9) (qOf d s.l) F_coord_desk_again (hnK (qOf d s.l)) 1 [] j (SAg d s b t V O l i)
def gFzA{R:Type}(s:ES)(m:Member)(K:WM->Option R):Option R:=gC dWM pWM eWM [.agg (wkA s),.agg (encMember m)] K
theorem ag_0(d:ND)(t0:Bool)(N j:Nat)(s:ES)(b:Bool)(l:List Member)(i:Int):LAg d t0 N s b true l (j+1) .nils [] i =
 bif decide (i<(l.length:Int))then rg i l.length <| gFzA s (l.getD i.toNat default) fun y=>bif(frozenP y.1 y.2).2 then LAg d t0 N s b true l j .nils [] (IntKind.i64.wrap (i+1))
  else LAg d t0 N s b true l j (.sl 31 (qOf d s.l) 0 1 1) [.seq true 31 1 fun k=>[frC (l.getD i.toNat default) s.p.epoch].getD k (frC (l.getD i.toNat default) s.p.epoch)] (IntKind.i64.wrap (i+1))
 else some (.tup [],hpQ d s b .nils []):=by
 obtain⟨e,g,p,ns,nb,op,keep,fz,fe,he,l0,c⟩:=s
 rcases d with _ | n
 ·cases t0 <;> cases fz <;> cases l0 <;> cases b <;> kernel_rfl
 ·cases n <;> cases fz <;> cases l0 <;> cases b <;> kernel_rfl
theorem ag_1(d:ND)(t0:Bool)(N j:Nat)(s:ES)(b t:Bool)(l:List Member)(f:Nat->List AV)(i:Int):LAg d t0 N s b t l (j+1) (.sl 31 (qOf d s.l) 0 1 1) [.seq true 31 1 f] i =
 bif decide (i<(l.length:Int))then rg i l.length <| gFzA s (l.getD i.toNat default) fun y=>bif(frozenP y.1 y.2).2 then LAg d t0 N s b t l j (.sl 31 (qOf d s.l) 0 1 1) [.seq true 31 1 f] (IntKind.i64.wrap (i+1))
  else LAg d t0 N s b t l j (.sl 31 (qOf d s.l) 0 2 0) [.seq true 31 2 fun k=>bif k.blt 1 then f k else bif k.blt 2 then [frC (l.getD i.toNat default) s.p.epoch].getD (k - 1) []else f 1] (IntKind.i64.wrap (i+1))
 else some (.tup [],hpQ d s b (.sl 31 (qOf d s.l) 0 1 1) [.seq true 31 1 f]):=by
 obtain⟨e,g,p,ns,nb,op,keep,fz,fe,he,l0,c⟩:=s
 rcases d with _ | n
 ·cases t0 <;> cases fz <;> cases l0 <;> cases b <;> cases t <;> kernel_rfl
 ·cases n <;> cases fz <;> cases l0 <;> cases b <;> cases t <;> kernel_rfl
theorem ag_n(d:ND)(t0:Bool)(N j:Nat)(s:ES)(b t:Bool)(l:List Member)(n:Nat)(f:Nat->List AV)(i:Int):LAg d t0 N s b t l (j+1) (.sl 31 (qOf d s.l) 0 n 0) [.seq true 31 n f] i =
 bif decide (i<(l.length:Int))then rg i l.length <| gFzA s (l.getD i.toNat default) fun y=>bif(frozenP y.1 y.2).2 then LAg d t0 N s b t l j (.sl 31 (qOf d s.l) 0 n 0) [.seq true 31 n f] (IntKind.i64.wrap (i+1))
  else room1 n 392 (LAg d t0 N s b t l j (.sl 31 (qOf d s.l) 0 (n+1) 0) [.seq true 31 (n+1) fun k=>bif k.blt n then f k else bif k.blt (n+1)then [frC (l.getD i.toNat default) s.p.epoch].getD (k - n) []else f n] (IntKind.i64.wrap (i+1)))
 else some (.tup [],hpQ d s b (.sl 31 (qOf d s.l) 0 n 0) [.seq true 31 n f]):=by
 obtain⟨e,g,p,ns,nb,op,keep,fz,fe,he,l0,c⟩:=s
 rcases d with _ | n
 ·cases t0 <;> cases fz <;> cases l0 <;> cases b <;> cases t <;> kernel_rfl
 ·cases n <;> cases fz <;> cases l0 <;> cases b <;> cases t <;> kernel_rfl
theorem ag_t(N:Nat)(s:ES)(b:Bool):callH (env41 (qOf .blk s.l) (kn41 .blk true)) (N+10) F_coord_desk_again A0 (hpQ .blk s b .nils []) =
 gEb true A0 (hpQ .blk s b .nils []) (hnK (qOf .blk s.l) (.tup []) (endH true (hpQ .blk s b .nils []))):=by
 obtain⟨e,g,p,ns,nb,op,keep,fz,fe,he,l0,c⟩:=s
 cases fz <;> cases l0 <;> cases b <;> kernel_rfl
def gMF{R:Type}(n:Bool)(s:ES)(b:Bool)(K:Option R):Option R:=match s.l with
 | []=>gMayF (.emp n) s b K
 | _::_=>bif(s.l.length.beq 0||s.l.length.ble s.l.length)&&true&&true then gMayF (.emp n) s b K else none
def gEnF{R:Type}(d:ND)(s:ES)(b:Bool)(K:Option R):Option R:=match d with
 | .blk=>gEb false A0 (hpQ .blk s b .nils []) K
 | .emp n=>gMF n s b K
theorem ag_f(d:ND)(N:Nat)(s:ES)(b:Bool):callH (env41 (qOf d s.l) (kn41 d false)) (N+10) F_coord_desk_again A0 (hpQ d s b .nils []) =
 gEnF d s b (bif decide (s.p.phase=1)then
   bif !s.fe then bif s.p.fresh then LAg d false N s b false s.p.chain (N+9) (.sl 31 (qOf d s.l) 0 1 1) [.seq true 31 1 fun k=>[feC s.p.epoch].getD k (feC s.p.epoch)] 0 else LAg d false N s b false s.keep (N+9) (.sl 31 (qOf d s.l) 0 1 1) [.seq true 31 1 fun k=>[feC s.p.epoch].getD k (feC s.p.epoch)] 0
   else bif s.p.fresh then LAg d false N s b true s.p.chain (N+9) .nils [] 0 else LAg d false N s b true s.keep (N+9) .nils [] 0
  else bif decide (s.p.phase=3)then
   bif !s.he then bif decide ((s.p.chain.length:Int)=0)then some (.tup [],hpQ d s b .nils [])else bif decide (0<(s.p.chain.length:Int))then
    gMs s.p.chain fun ch=>some (.tup [],hpQ d s b (.sl 31 (qOf d s.l) 0 1 1) [.arr true 31 [actM s.p ch]])else none
   else some (.tup [],hpQ d s b .nils [])
  else some (.tup [],hpQ d s b .nils [])):=by
 obtain⟨e,g,p,ns,nb,op,keep,fz,fe,he,l0,c⟩:=s
 rcases d with _ | n
 ·cases fz <;> cases l0 <;> cases b <;> kernel_rfl
 ·cases n <;> cases fz <;> cases l0 <;> cases b <;> kernel_rfl
theorem gNN_eq{R:Type}{d:ND}{ns:List Alive}{K:Option R}:gNN d ns K=K:=by
 cases d with
 | emp n=>rfl
 | blk=>
  unfold gNN
  simp only[orU,Bool.and_true,cond_true]
theorem gNA_eq{R:Type}{d:ND}{ns:List Alive}{l:List Ask}{K:Option R}:gNA d ns l K=K:=by
 unfold gNA
 cases d <;> cases l <;> simp only[orU,Bool.and_true,cond_true]
theorem nV_sub{d:ND}{ns:List Alive}(h:d=.blk\/ns=[]):SubV (nV d ns) (encAlives ns):=by
 cases d with
 | blk=>exact .refl _
 | emp n=>
  rcases h with h | h
  ·cases h
  ·subst h;exact nA_sub n
theorem nV_dec{d:ND}{ns:List Alive}(h:d=.blk\/ns=[]):decL decAlive (nV d ns)=ns:=by
 cases d with
 | blk=>exact decAlives ns
 | emp n=>
  rcases h with h | h
  ·cases h
  ·subst h;cases n <;> rfl
theorem gUpN_of{R:Type}{d:ND}{s:ES}{K:UX->Option R}(hd:d=.blk\/s.ns=[])(h:s.ns.length<=100000):gUpN d s K=K ⟨s.e,s.g,s.ns,s.c⟩:=by
 refine gC_eq (⟨s.e,s.g,s.ns,s.c⟩:UX) ?_ h (.cons (.agg (.cons (.refl _) (.cons (.refl _) (.cons (.refl _) (.cons (nV_sub hd) (.refl _)))))) (.refl _))
 show(⟨s.e,s.g,decL decAlive (nV d s.ns),⟨s.c.chain,s.c.susp,s.c.sess⟩⟩:UX)=_
 rw[nV_dec hd]
theorem akAV_sub(l:List Ask)(b:Bool):SubV (akAV l b) (encMsgs (l.map askM)):=by
 cases l with
 | nil=>exact aqV_sub b
 | cons a t=>exact akV_sub (.ne a t)
theorem akAV_dec(l:List Ask)(b:Bool):decL decMsg (akAV l b)=l.map askM:=by
 cases l with
 | nil=>exact aqV_dec b
 | cons a t=>exact akV_dec (.ne a t)
theorem dsk_sub{d:ND}{s:ES}{A:AV}{aq:List Msg}(hd:d=.blk\/s.ns=[])(h1:SubV A (encMsgs aq)):SubC (dsk s.e s.g (.trl 8 [encPlan s.p]) (nV d s.ns) (.trl 4 [wkA s]) (opV s.op) A s.c .nils) (encDS (dsE s aq)):=by
 have hp:SubV (.trl 8 [encPlan s.p]) (encPlans [s.p]):=SubV.trl_encL (e:=encPlan) (z:=default) [s.p]
 have hw:SubV (.trl 4 [wkA s]) (encWorks [wkE s]):=SubV.trans (one_trl (wkA_sub s)) (SubV.trl_encL (e:=encWork) (z:=default) [wkE s])
 exact .cons (.refl _) (.cons (.refl _) (.cons hp (.cons (nV_sub hd) (.cons hw (.cons (opV_sub _) (.cons h1 (.refl _)))))))
theorem dsk_dec{d:ND}{s:ES}{A:AV}{aq:List Msg}(hd:d=.blk\/s.ns=[])(h:decL decMsg A=aq):dDX (dsk s.e s.g (.trl 8 [encPlan s.p]) (nV d s.ns) (.trl 4 [wkA s]) (opV s.op) A s.c .nils)=(dsE s aq).dx:=by
 show(⟨⟨⟨s.e,s.g,[decPlan (encPlan s.p)]⟩,decL decAlive (nV d s.ns),[decWork (wkA s)],decL decMsg (opV s.op),decL decMsg A⟩,⟨s.c.chain,s.c.susp,s.c.sess⟩,.nils⟩:DX)=_
 rw[dec_encPlan,nV_dec hd,wkA_dec,opV_dec,h];rfl
theorem gGr_of{R:Type}{d:ND}{s:ES}{b:Bool}{up:List Member}{K:GX->Option R}(hd:d=.blk\/s.ns=[])  (h:pGX ⟨(dsE s (s.l.map askM)).dx,s.p,up⟩):gGr d s b up K=K ⟨(dsE s (s.l.map askM)).dx,s.p,up⟩:=by
 have h1:=dsk_sub (s:=s) hd (akAV_sub s.l b)
 have h2:=dsk_dec (s:=s) hd (akAV_dec s.l b)
 refine gC_eq _ ?_ h (.cons (SubV.tp h1) (.refl _))
 show(⟨dDX _,decPlan (encPlan s.p),decL decMember (encMembers up)⟩:GX)=_
 have h2':dDX (dsk s.e s.g (.trl 8 [encPlan s.p]) (nV d s.ns) (.trl 4 [wkA s]) (opV s.op) (akAV s.l b) s.c .nils)=(dsE s (s.l.map askM)).dx:=h2
 rw[dec_encPlan,decMembers]
 exact congrArg (fun x=>(⟨x,s.p,up⟩:GX)) h2'
def wkS(s:ES)(p:Plan)(keep:List Member):ES:={s with p:=p,keep:=keep,fe:=false,fz:=.nil,he:=false}
def beginS(s:ES)(fr:Bool):ES:=bif decide (1099511627776<=s.p.epoch)then s else wkS s (begP s.p fr) (bif fr then []else bothP s.p.valid (upP s.ns s.c.susp))
def lookP(s:ES):ES:=
 bif decide (s.p.phase=0)then bif decide (0<(upP s.ns s.c.susp).length)then beginS s true else s
 else bif decide (s.p.phase=3)then bif s.p.chain.any (fun m=>!inUp (upP s.ns s.c.susp) m)&&s.p.valid.any (fun m=>inUp (upP s.ns s.c.susp) m)||growsP s.p s.c (upP s.ns s.c.susp)then beginS s false else s
 else bif decide (s.p.phase=1) && !s.p.fresh then bif(decide (s.keep.length=0)||s.keep.any (fun m=>!inUp (upP s.ns s.c.susp) m))&&s.p.valid.any (fun m=>inUp (upP s.ns s.c.susp) m)then beginS s false else s
 else s
def ND.isB:ND->Bool
 | .blk=>true
 | .emp _=>false
structure TOk(d:ND)(s:ES):Prop where
 eok:EOk s
 nd:d=.blk\/s.ns=[]
 no:d ≠ .blk->mayE s=false
 nb:s.nb=d.isB
 op:pOp s.op
 val:s.p.valid.length<=3
 cp:∀ f ∈ s.fz.l,CpOk f
 pc:s.p.chain.length<=1000
def hpT9(d:ND)(t:Bool)(s:ES)(b:Bool):Heap:=hpK d t s (encPlan s.p) (wkA s) (akCellK d s.l b) .nils (akBlK s.l)
theorem lkS_ok{d:ND}{s s':ES}{b:Bool}(hs:s'=s):∃ H,lkS d s b=some (.tup [],H)/\SubH H (hpT9 d false s' b):=⟨_,rfl,by subst hs;exact .refl _⟩
theorem lkO_ok{d:ND}{s:ES}{b:Bool}{W:List AV}{p:Plan}{keep:List Member}(h:SubFs W (wkA (wkS s p keep))):∃ H,lkO d s b (encPlan p) W=some (.tup [],H)/\SubH H (hpT9 d false (wkS s p keep) b):=
by
 refine⟨_,rfl,?_⟩
 cases d with
 | blk=>exact .cons (.refl _) (.cons (.refl _) (.cons (.refl _) (.cons (SubB.arr1 h) (.refl _))))
 | emp n=>exact .cons (.refl _) (.cons (.refl _) (.cons (SubB.arr1 h) (.refl _)))
theorem wk0_subF(s:ES)(p:Plan):SubFs wk0 (wkA (wkS s p [])):=.cons (.refl _) (.cons .nils (.cons (.refl _) (.cons (.refl _) (.refl _))))
theorem lkT_ok{d:ND}{s:ES}{b:Bool}:∃ H,lkT d s b=some (.tup [],H)/\SubH H (hpT9 d false (beginS s true) b):=by
 unfold lkT beginS
 cases decide (1099511627776<=s.p.epoch)with
 | true=>exact lkS_ok rfl
 | false=>exact lkO_ok (wk0_subF s _)
theorem lkF_ok{d:ND}{s:ES}{b:Bool}(h:TOk d s):∃ H,lkF d s b=some (.tup [],H)/\SubH H (hpT9 d false (beginS s false) b):=by
 have hu:=h.eok.up
 have hv:=h.val
 have hn:=h.eok.ns
 unfold lkF beginS
 rw[gNN_eq,gUpN_of h.nd (by omega),gEq_eq ⟨by simp only;omega,by simp only;omega⟩]
 cases decide (1099511627776<=s.p.epoch)with
 | true=>exact lkS_ok rfl
 | false=>exact lkO_ok (.refl _)
theorem look_run{d:ND}{s:ES}{b:Bool}(h:TOk d s):∃ H,callH (envK2 kn40) 20 F_coord_desk_look A0 (hpT9 d true s b)=some (.tup [],H)/\SubH H (hpT9 d false (lookP s) b):=by
 have hu:=h.eok.up
 have hv:=h.val
 have hn:=h.eok.ns
 have hk:=h.eok.keep
 have hc:=h.pc
 have hG:∃ H,lkG d s b (upP s.ns s.c.susp)=some (.tup [],H)/\SubH H (hpT9 d false (bif growsP s.p s.c (upP s.ns s.c.susp)then beginS s false else s) b):=by
  unfold lkG
  rw[gNA_eq,gGr_of (up:=upP s.ns s.c.susp) h.nd ⟨hc,by show s.p.valid.length<=1000;omega,hu⟩]
  show ∃ H,(bif growsP s.p s.c (upP s.ns s.c.susp)then lkF d s b else lkS d s b)=_/\_
  cases growsP s.p s.c (upP s.ns s.c.susp)with
  | true=>exact lkF_ok h
  | false=>exact lkS_ok rfl
 have hF:=lkF_ok (b:=b) h
 have hT:=lkT_ok (d:=d) (s:=s) (b:=b)
 have hS:=lkS_ok (d:=d) (s:=s) (b:=b) rfl
 unfold hpT9
 have qE:∀ (l:List Member) (K:MM->Option (AV × Heap)),l.length<=1000->gEq l (upP s.ns s.c.susp) K=K (l,upP s.ns s.c.susp):=fun l K hl=>gEq_eq ⟨by simp only;omega,by simp only;omega⟩
 have qC:=fun K=>qE s.p.chain K hc
 have qV:=fun K=>qE s.p.valid K (by omega)
 have qK:=fun K=>qE s.keep K (by omega)
 rw[look_eq,gNN_eq,gUpN_of h.nd (by omega)]
 simp only[qC,qV,qK]
 have e0:decide (0<((upP s.ns s.c.susp).length:Int))=decide (0<(upP s.ns s.c.susp).length):=decide_eq_decide.2 (by omega)
 have e1:decide ((s.keep.length:Int)=0)=decide (s.keep.length=0):=decide_eq_decide.2 (by omega)
 rw[e0,e1]
 unfold lookP
 cases decide (s.p.phase=0)with
 | true=>
  cases decide (0<(upP s.ns s.c.susp).length)with
  | true=>exact hT
  | false=>exact hS
 | false=>
  cases decide (s.p.phase=3)with
  | true=>
   cases s.p.chain.any (fun m=>!inUp (upP s.ns s.c.susp) m)with
   | false=>exact hG
   | true=>
    cases s.p.valid.any (fun m=>inUp (upP s.ns s.c.susp) m)with
    | true=>exact hF
    | false=>exact hG
  | false=>
   cases decide (s.p.phase=1)with
   | false=>exact hS
   | true=>
    cases s.p.fresh with
    | true=>exact hS
    | false=>
     cases decide (s.keep.length=0)with
     | true=>
      cases s.p.valid.any (fun m=>inUp (upP s.ns s.c.susp) m)with
      | true=>exact hF
      | false=>exact hS
     | false=>
      cases s.keep.any (fun m=>!inUp (upP s.ns s.c.susp) m)with
      | false=>exact hS
      | true=>
       cases s.p.valid.any (fun m=>inUp (upP s.ns s.c.susp) m)with
       | true=>exact hF
       | false=>exact hS
theorem conK2H{l:List Known}(h:∀ k ∈ l,k.Ok PG){n f:Nat}{args:List AV}{hp:Heap}{r:AV}{hp':Heap}(e:callH (envK2 l) n f args hp=some (r,hp')):Contract PG f args hp r hp'/\hp.length<=hp'.length:=callH_ok (envK2_ok h) (codeOf_ok rfl) mixed e
theorem look_con{d:ND}{s:ES}{b:Bool}(h:TOk d s):Contract PG F_coord_desk_look A0 (hpT9 d true s b) (.tup []) (hpT9 d false (lookP s) b)/\(hpT9 d true s b).length<=(hpT9 d false (lookP s) b).length:=by
 obtain⟨H,h1,h2⟩:=look_run (b:=b) h
 have:=conK2H kn40_ok h1
 refine⟨Contract.outH this.1 h2,?_⟩
 rw[<- h2.1];exact this.2
structure Grow2{X R:Type}(sz bw b:Nat)(e:X->List AV)(n:Nat)(pick:Nat->Option X)(L:Nat->AV->List BS->Int->Option R)(E:AV->List BS->R)(P:Prop):Prop where
 e0:P -> ∀ j,L (j+1) .nils [] (n:Int)=some (E .nils [])
 e1:∀ j f,L (j+1) (.sl sz b 0 1 1) [.seq true sz 1 f] (n:Int)=some (E (.sl sz b 0 1 1) [.seq true sz 1 f])
 en:∀ j m f,L (j+1) (.sl sz b 0 m 0) [.seq true sz m f] (n:Int)=some (E (.sl sz b 0 m 0) [.seq true sz m f])
 s0:P -> ∀ j (i:Nat),i<n->L (j+1) .nils [] (i:Int)=match pick i with
  | some x=>L j (.sl sz b 0 1 1) [.seq true sz 1 fun k=>[e x].getD k (e x)] ((i+1:Nat):Int)
  | none=>L j .nils [] ((i+1:Nat):Int)
 s1:∀ j (i:Nat) f,i<n->L (j+1) (.sl sz b 0 1 1) [.seq true sz 1 f] (i:Int)=match pick i with
  | some x=>L j (.sl sz b 0 2 0) [.seq true sz 2 fun k=>bif k.blt 1 then f k else bif k.blt 2 then [e x].getD (k - 1) []else f 1] ((i+1:Nat):Int)
  | none=>L j (.sl sz b 0 1 1) [.seq true sz 1 f] ((i+1:Nat):Int)
 sn:∀ j (i:Nat) m f,i<n->L (j+1) (.sl sz b 0 m 0) [.seq true sz m f] (i:Int)=match pick i with
  | some x=>room1 m bw (L j (.sl sz b 0 (m+1) 0) [.seq true sz (m+1) fun k=>bif k.blt m then f k else bif k.blt (m+1)then [e x].getD (k - m) []else f m] ((i+1:Nat):Int))
  | none=>L j (.sl sz b 0 m 0) [.seq true sz m f] ((i+1:Nat):Int)
theorem Grow2.run{X R:Type}{sz bw b:Nat}{e:X->List AV}{z:X}{n:Nat}{pick:Nat->Option X}{L:Nat->AV->List BS->Int->Option R}{E:AV->List BS->R}{P:Prop}(h:Grow2 sz bw b e n pick L E P)(hw:bw<=1000)(hn:n<=100000) :
  ∀ (d i m:Nat) (acc:List X),i+d=n->d<m->acc.length<=i+1->(acc=[]->P)->L m (gSl sz b acc) (gBl sz e z acc) (i:Int)=some (E (gSl sz b (acc++pickL pick n i)) (gBl sz e z (acc++pickL pick n i))):=by
 intro d
 induction d with
 | zero=>
  intro i m acc hi hm ha hP
  obtain⟨m,rfl⟩:∃ k,m=k+1:=⟨m - 1,by omega⟩
  have:i=n:=by omega
  subst this
  rw[pickL_end,List.append_nil]
  match acc,hP with
  | [],hP=>exact h.e0 (hP rfl) m
  | [x],_=>exact h.e1 m _
  | x::y::r,_=>exact h.en m (x::y::r).length (canF e z (x::y::r))
 | succ d ih=>
  intro i m acc hi hm ha hP
  obtain⟨m,rfl⟩:∃ k,m=k+1:=⟨m - 1,by omega⟩
  have hin:i<n:=by omega
  match acc,ha,hP with
  | [],ha,hP=>
   show L (m+1) .nils [] (i:Int)=_
   rw[h.s0 (hP rfl) m i hin]
   cases hp:pick i with
   | none=>rw[pickL_none hin hp];exact ih (i+1) m [] (by omega) (by omega) (by simp) hP
   | some x=>
    rw[pickL_some hin hp]
    simp only[]
    rw[canF_oneS (e:=e) (z:=z) x]
    exact ih (i+1) m [x] (by omega) (by omega) (by simp) (fun e=>by cases e)
  | [y],ha,hP=>
   show L (m+1) (.sl sz b 0 1 1) [.seq true sz 1 (canF e z [y])] (i:Int)=_
   rw[h.s1 m i _ hin]
   cases hp:pick i with
   | none=>rw[pickL_none hin hp];exact ih (i+1) m [y] (by omega) (by omega) (by simp) (fun e=>by cases e)
   | some x=>
    rw[pickL_some hin hp]
    simp only[]
    rw[canF_app1 (e:=e) (z:=z) y x]
    exact ih (i+1) m [y,x] (by omega) (by omega) (by simp at ha ⊢) (fun e=>by cases e)
  | y::y'::r,ha,hP=>
   show L (m+1) (.sl sz b 0 (y::y'::r).length 0) [.seq true sz (y::y'::r).length (canF e z (y::y'::r))] (i:Int)=_
   rw[h.sn m i _ _ hin]
   cases hp:pick i with
   | none=>rw[pickL_none hin hp];exact ih (i+1) m (y::y'::r) (by omega) (by omega) (by omega) (fun e=>by cases e)
   | some x=>
    rw[pickL_some hin hp]
    simp only[]
    rw[room1_eq hw (by omega),canF_app (e:=e) (z:=z) (l:=y::y'::r) (by simp) x]
    have r0:=ih (i+1) m ((y::y'::r)++[x]) (by omega) (by omega) (by rw[List.length_append];simp at ha ⊢;omega) (fun e=>by cases e)
    rw[gSl_app (by simp),gBl_app (by simp),List.append_assoc]at r0
    exact r0
def frzO(s:ES)(m:Member):Option (List AV):=bif(frozenP (wkE s) m).2 then none else some (frC m s.p.epoch)
theorem gFzA_of{R:Type}{s:ES}{m:Member}{K:WM->Option R}(h:s.fz.l.length<=1000):gFzA s m K=K (wkE s,m):=by
 have hp:pWM (wkE s,m):=Nat.le_trans h (by omega)
 refine gC_eq (wkE s,m) ?_ hp (.cons (.agg (wkA_sub s)) (.refl _))
 show(decWork (wkA s),decMember (encMember m))=_
 rw[wkA_dec,dec_encMember]
theorem ag_grow(d:ND)(N:Nat)(s:ES)(b t:Bool)(l:List Member)(hf:s.fz.l.length<=1000)(hl:l.length<=100000) :
  Grow2 31 392 (qOf d s.l) idC l.length (fun i=>frzO s (l.getD i default)) (LAg d false N s b t l) (fun V O=>(.tup [],hpQ d s b V O)) (t=true) where
 e0 ht j:=by subst ht;rw[ag_0,decide_eq_false (by omega),cond_false]
 e1 j f:=by rw[ag_1,decide_eq_false (by omega),cond_false]
 en j m f:=by rw[ag_n,decide_eq_false (by omega),cond_false]
 s0 ht j i hi:=by
  subst ht
  rw[ag_0,decide_eq_true (by omega),cond_true,rg_eq hi,Int.toNat_natCast,wrapS (by omega),gFzA_of hf]
  unfold frzO
  dsimp only
  cases (frozenP (wkE s) (l.getD i default)).2 <;> rfl
 s1 j i f hi:=by
  rw[ag_1,decide_eq_true (by omega),cond_true,rg_eq hi,Int.toNat_natCast,wrapS (by omega),gFzA_of hf]
  unfold frzO
  dsimp only
  cases (frozenP (wkE s) (l.getD i default)).2 <;> rfl
 sn j i m f hi:=by
  rw[ag_n,decide_eq_true (by omega),cond_true,rg_eq hi,Int.toNat_natCast,wrapS (by omega),gFzA_of hf]
  unfold frzO
  dsimp only
  cases (frozenP (wkE s) (l.getD i default)).2 <;> rfl
def agC(s:ES):List (List AV):=
 bif decide (s.p.phase=1)then(bif !s.fe then [feC s.p.epoch]else [])++(bif s.p.fresh then s.p.chain else s.keep).filterMap (frzO s)
 else bif decide (s.p.phase=3) && !s.he then(bif decide (0<s.p.chain.length)then [actC s.p]else [])else []
def hpAg(d:ND)(s:ES)(b:Bool):Heap:=bif mayE s then outE (wrE s (endP s).1 (endP s).2) b else hpQ d s b (gSl 31 (qOf d s.l) (agC s)) (gBl 31 idC [] (agC s))
theorem ag_loop{d:ND}{N:Nat}{s:ES}{b:Bool}{l:List Member}(hf:s.fz.l.length<=1000)(hl:l.length<=1000)(hN:l.length<=N) :
  (bif !s.fe then LAg d false N s b false l (N+9) (.sl 31 (qOf d s.l) 0 1 1) [.seq true 31 1 fun k=>[feC s.p.epoch].getD k (feC s.p.epoch)] 0 else LAg d false N s b true l (N+9) .nils [] 0) =
  some (.tup [],hpQ d s b (gSl 31 (qOf d s.l) ((bif !s.fe then [feC s.p.epoch]else [])++l.filterMap (frzO s))) (gBl 31 idC [] ((bif !s.fe then [feC s.p.epoch]else [])++l.filterMap (frzO s)))):=by
 cases s.fe with
 | true=>
  have r:=(ag_grow d N s b true l hf (by omega)).run (z:=[]) (by omega) (by omega) l.length 0 (N+9) [] (by omega) (by omega) (by simp) (fun _=>rfl)
  rw[pickL_list (l:=l) (z:=default) (g:=frzO s)]at r
  exact r
 | false=>
  have r:=(ag_grow d N s b false l hf (by omega)).run (z:=[]) (by omega) (by omega) l.length 0 (N+9) [feC s.p.epoch] (by omega) (by omega) (by simp) (fun e=>by cases e)
  rw[pickL_list (l:=l) (z:=default) (g:=frzO s)]at r
  have e0:(fun k=>[feC s.p.epoch].getD k (feC s.p.epoch))=canF idC [] [feC s.p.epoch]:=canF_oneS (e:=idC) (z:=[]) (feC s.p.epoch)
  rw[Bool.not_false,cond_true,cond_true,e0]
  exact r
end Go.Co
end
