/- Part 6 of the texts that the proof needs: the abstract machine, plain laws, contracts of the program's functions. No statement is claimed here. -/
import Derived.Test.YtjhfgaadinklhaaGreatPart5
set_option linter.unusedVariables false
set_option linter.unusedSimpArgs false
noncomputable section
open Go Go.AM Go.Md Go.Wk Go.Co
namespace Go.Kp
set_option maxRecDepth 100000
set_option maxHeartbeats 400000
def cfK:CConf:=⟨2,2,4⟩
def dWk(q:List AV)(k:Nat):List AV:=match q.getD k .nils with
 | .trl _ [w]=>w
 | _=>[]
def dES(q:List AV):ES:=⟨getI q 0,getI q 1,decPlan (dWk q 2),getL decAlive q 3,false,dOp (q.getD 5 .nils),getL decMember (dWk q 4) 1,dLN decMsg ((dWk q 4).getD 2 .nils),getB (dWk q 4) 0,getB (dWk q 4) 3,getL decAsk q 6,cfK⟩
theorem dES_eq{s:ES}(hb:s.nb=false)(hc:s.c=cfK):dES (buT s)=s:=by
 obtain⟨e,g,p,ns,nb,op,keep,fz,fe,he,l,c⟩:=s
 have hb:nb=false:=hb
 have hc:c=cfK:=hc
 subst hb hc
 have e1:decL decAlive (encAlives ns)=ns:=decL_encL (e:=encAlive) (d:=decAlive) (z:=default) (sz:=3) dec_encAlive ns
 have e2:decL decMember (encMembers keep)=keep:=decL_encL (e:=encMember) (d:=decMember) (z:=default) (sz:=2) dec_encMember keep
 have e3:decL decAsk (encAsks l)=l:=decL_encL (e:=encAsk) (d:=decAsk) (z:=(0,0)) (sz:=31) (fun _=>rfl) l
 have e4:dLN decMsg (fzV fz)=fz:=dLN_eq dec_encMsg fz
 show ES.mk e g (decPlan (encPlan p)) (decL decAlive (encAlives ns)) false (dOp (opV op)) (decL decMember (encMembers keep)) (dLN decMsg (fzV fz)) fe he (decL decAsk (encAsks l)) cfK=_
 rw[dec_encPlan,e1,dOp_eq,e2,e4,e3]
def dVn(v:AV):Nat × List AV:=match v with
 | .tr _ n f=>(n,f 0)
 | _=>(0,[])
def dMD(c:List AV):MD:=⟨getI c 0,getI c 1,getI c 2,getI c 4,getI c 6,getI c 9,getI c 10,getB c 12,(dVn (c.getD 25 .nils)).1,getI (dVn (c.getD 25 .nils)).2 1,getI (dVn (c.getD 25 .nils)).2 3⟩
theorem dMD_eq(m:MD):dMD (msC m)=m:=rfl
def dN(H:Heap):Nat:=match hget H 3 with
 | .seq _ _ n _=>n
 | _=>0
structure KX where
 s:ES
 m:MD
 n:Nat
def dKH(a:List AV)(H:Heap):KX:=⟨dES ((cell0 H 0).drop 16),dMD (argC a 1),dN H⟩
def eKH(x:KX):List AV × Heap:=([.ptr 0 0 0,.agg (msC x.m)],hK cfK x.s x.n)
def pKs(s:ES)(n:Nat):Prop:=∃ N,SJ N s/\N<=880/\n<=16000
def pKH(x:KX):Prop:=pKs x.s x.n/\MOk x.m
abbrev HF:=ES->MD->ES
abbrev TF:=ES->ES
abbrev NF:=ES->ES->Nat->Nat
def kKH(h:HF)(x:NF):Known:=.specG F_keeper_Keeper_Handle dKH pKH eKH fun y=>(tK,hO cfK (h y.s y.m) (x y.s (h y.s y.m) y.n))
structure KY where
 s:ES
 n:Nat
def dKT(_:List AV)(H:Heap):KY:=⟨dES ((cell0 H 0).drop 16),dN H⟩
def eKT(x:KY):List AV × Heap:=([.ptr 0 0 0],hK cfK x.s x.n)
def pKT(x:KY):Prop:=pKs x.s x.n
def kKT(t:TF)(x:NF):Known:=.specG F_keeper_Keeper_Tick dKT pKT eKT fun y=>(tK,hO cfK (t y.s) (x y.s (t y.s) y.n))
theorem kKH_ok:(kKH hP nxN).Ok PG:=Known.specG_ok fun x ⟨⟨N,h1,h2,h3⟩,hm⟩=>by
 have:=kh_con h1 hm h2 h3
 rw[h1.c]at this
 exact this
theorem kKT_ok:(kKT tP nxN).Ok PG:=Known.specG_ok fun x ⟨N,h1,h2,h3⟩=>by
 have:=kt_con h1 h2 h3
 rw[h1.c]at this
 exact this
def dBuU(a:List AV):ES:=dES (argC a 0)
def eBuU(s:ES):List AV:=[.agg (buT s)]
def pBuU(s:ES):Prop:=∃ N,SJ N s/\N<=900
def resU(n:Nat):AV:=.agg [.undef,.undef,.sl 8 0 0 1 1,.sn 3 3 n,.undef,.undef,.undef]
def plV(e:Int)(q c:Nat):List AV:=[.int .i64 e,.undef,.undef,.undef,.undef,.undef,.sn 2 q c,.undef]
def hpU(s:ES):Heap:=[.arr true 8 [plV s.p.epoch 1 s.p.chain.length],bM s.p.chain,bM s.p.valid,bA s.ns,.arr true 4 [[.bool s.fe,.sn 2 5 s.keep.length,.sn 31 6 s.fz.l.length,.bool s.he]],bM s.keep,bG s.fz.l,bG s.op,bG (s.l.map askM)]
theorem gSM_eq{R:Type}{l:List Member}{k:List Member->Option R}(h:l.length<=1000):gSM l k=k l:=gC_eq l (decL_encL (e:=encMember) (d:=decMember) (z:=default) (sz:=2) dec_encMember l) h (.refl _)
theorem gSA_eq{R:Type}{l:List Alive}{k:List Alive->Option R}(h:l.length<=1000):gSA l k=k l:=gC_eq l (decL_encL (e:=encAlive) (d:=decAlive) (z:=default) (sz:=3) dec_encAlive l) h (.refl _)
theorem gSG_eq{R:Type}{l:List Msg}{k:List Msg->Option R}(h:pOp l):gSG (encMsgs l) k=k l:=gC_eq l (decL_encL (e:=encMsg) (d:=decMsg) (z:=default) (sz:=31) dec_encMsg l) h (.cons tr_tn .nil)
theorem gSG_op{R:Type}{l:List Msg}{k:List Msg->Option R}(h:pOp l):gSG (opV l) k=k l:=gC_eq l (dOp_eq l) h (.refl _)
theorem SubF.undef(c:AV):AM.SubF c .undef:=fun _ _ _ u _=>.undef u
theorem cp_ask(a:Co.Ask):CpOk (askM a):=by
 obtain⟨x,y⟩:=a
 exact⟨Nat.zero_le _,Nat.zero_le _,rfl,Nat.zero_le _,Nat.zero_le _⟩
theorem fz_sub(x:LN Msg):SubV (fzV x) (encMsgs x.l):=by
 have:=LN.sub (sz:=31) (e:=encMsg) (z:=default) (e':=encMsg) (z':=default) (g:=id) (fun m=>SubC.refl _) x
 rwa [List.map_id]at this
theorem asks_sub(l:List Co.Ask):SubV (encAsks l) (encMsgs (l.map askM)):=by
 show SubV (encL 31 encAsk (0,0) l) (encL 31 encMsg default (l.map askM))
 unfold encL
 rw[List.length_map]
 refine SubV.trs fun i hi=>?_
 have e1:(l.map askM).getD i default=askM (l.getD i (0,0)):=by
  simp only[List.getD,List.getElem?_map,List.getElem?_eq_getElem hi,Option.map_some,Option.getD_some]
 rw[e1]
 exact askM_sub _
theorem buU_sub(s:ES):SubC (buT s) (buU s (encMsgs s.fz.l) (encMsgs (s.l.map askM))):=by
 show SubC [.int .i64 s.e,.int .i64 s.g,.trl 8 [encPlan s.p],encAlives s.ns,.trl 4 [[.bool s.fe,encMembers s.keep,fzV s.fz,.bool s.he]],opV s.op,encAsks s.l]
  [.int .i64 s.e,.int .i64 s.g,.trl 8 [encPlan s.p],encAlives s.ns,.trl 4 [[.bool s.fe,encMembers s.keep,encMsgs s.fz.l,.bool s.he]],opV s.op,encMsgs (s.l.map askM)]
 have h1:=fz_sub s.fz
 have h2:=asks_sub s.l
 generalize fzV s.fz=F at *
 generalize encMsgs s.fz.l=F' at *
 generalize encAsks s.l=A at *
 generalize encMsgs (s.l.map askM)=A' at *
 generalize encPlan s.p=P
 generalize encAlives s.ns=N
 generalize encMembers s.keep=K
 generalize opV s.op=O
 exact .cons (.refl _) (.cons (.refl _) (.cons (.refl _) (.cons (.refl _) (.cons (one_trl (.cons (.refl _) (.cons (.refl _) (.cons h1 (.cons (.refl _) .nil))))) (.cons (.refl _) (.cons h2 .nil))))))
theorem res_sub(e g:Int)(n a b:Nat):AM.SubF (.agg [.int .i64 e,.int .i64 g,.sl 8 0 0 1 1,.sn 3 3 n,.sl 4 4 0 1 1,.sn 31 7 a,.sn 31 8 b]) (resU n):=by
 show AM.SubF _ (.agg [.undef,.undef,.sl 8 0 0 1 1,.sn 3 3 n,.undef,.undef,.undef])
 exact .agg (.cons (SubF.undef _) (.cons (SubF.undef _) (.cons (.refl _) (.cons (.refl _) (.cons (SubF.undef _) (.cons (SubF.undef _) (.cons (SubF.undef _) .nil)))))))
theorem pl_sub(p:Plan)(c v:Nat):BSub (.arr true 8 [plU p (.sn 2 1 c) (.sn 2 2 v)]) (.arr true 8 [plV p.epoch 1 c]):=by
 refine .arr _ _ _ _ rfl fun i cs cs' e e'=>?_
 cases i with
 | zero=>
  have e:plU p (.sn 2 1 c) (.sn 2 2 v)=cs:=Option.some.inj e
  have e':plV p.epoch 1 c=cs':=Option.some.inj e'
  rw[<- e,<- e']
  exact .cons (.refl _) (.cons (SubF.undef _) (.cons (SubF.undef _) (.cons (SubF.undef _) (.cons (SubF.undef _) (.cons (SubF.undef _) (.cons (.refl _) (.cons (SubF.undef _) .nil)))))))
 | succ i=>cases e
theorem HSub.head{x y:BS}{H:Heap}(h:BSub x y):HSub (x::H) (y::H):=.cons h (.refl _)
theorem conU{n f:Nat}{args:List AV}{r:AV}{H:Heap}(e:callC 0 eU n f args []=some (r,H)):Contract PG f args [] r H:=conB knU_ok e
theorem bu_con(s:ES)(h:pBuU s):Contract PG F_twin_Bureau (eBuU s) [] (resU s.ns.length) (hpU s):=by
 obtain⟨N,h,hN⟩:=h
 have h1:=h.ch.1;have h2:=h.va.1;have h3:=h.nl;have h4:=h.ke.1;have h5:=h.fl;have h6:=h.ll
 have e:=bu_eq s s.fz.l (s.l.map askM)
 have p5:pOp s.fz.l:=⟨by omega,fun m hm=>(h.fz m hm).2⟩
 have p6:pOp (s.l.map askM):=⟨by rw[List.length_map];omega,fun m hm=>by
  obtain⟨a,_,e⟩:=List.mem_map.1 hm
  subst e;exact cp_ask a⟩
 rw[gSM_eq (by omega),gSM_eq (by omega),gSA_eq (by omega),gSM_eq (by omega),gSG_eq p5,gSG_op h.pop,gSG_eq p6]at e
 have c:=(conU e).args (args:=eBuU s) (.cons (.agg (buU_sub s)) .nil)
 exact c.resub (res_sub _ _ _ _ _) (HSub.head (pl_sub _ _ _))
def kBuU:Known:=.specB F_twin_Bureau dBuU pBuU eBuU fun s=>(resU s.ns.length,hpU s)
theorem kBuU_ok:kBuU.Ok PG:=Known.specB_ok bu_con
def eKB:Env:=envN [] [(F_twin_Bureau,1)] [] [kBuU]
def hKB(s:ES)(n:Nat):Heap:=[.arr true 23 [kRow cfK s 5],.dead,.dead,.dead,.dead,lg 6 n,dk 7 8 n n .nils,blkU n,blkU n,.arr true 8 [plV s.p.epoch 10 s.p.chain.length],bM s.p.chain,bA s.ns]
def resK(n:Nat):AV:=.agg [.undef,.undef,.sl 8 9 0 1 1,.sn 3 11 n,.undef,.undef,.undef]
theorem kb_eq(s:ES)(n:Nat):callC 1 eKB 20 F_keeper_Keeper_Bureau [.ptr 0 0 0] (hK cfK s n)=gC dBuU pBuU eBuU [.agg (buT s)] fun z=>
 some (resK z.ns.length,[.arr true 23 [kRow cfK s 5],.dead,.dead,.dead,.dead,lg 6 n,dk 7 8 n n .nils,blkU n,blkU n,.arr true 8 [plV z.p.epoch 10 z.p.chain.length],bM z.p.chain,bA z.ns]):=by kernel_rfl
theorem conKB{c n f:Nat}{args:List AV}{hp:Heap}{r:AV}{H:Heap}(hc:c<=hp.length)(e:callC c eKB n f args hp=some (r,H)):CG f args hp r H:=conC (ak kBuU_ok ank) hc e
theorem kb_con(x:KY)(h:pBuU x.s):CG F_keeper_Keeper_Bureau (eKT x).1 (eKT x).2 (resK x.s.ns.length) (hKB x.s x.n):=by
 have e:=kb_eq x.s x.n
 have hs:dES (buT x.s)=x.s:=by
  obtain⟨N,h1,_⟩:=h
  exact dES_eq h1.nb h1.c
 have q:∀ K:ES->Option (AV × Heap),gC dBuU pBuU eBuU [.agg (buT x.s)] K=K x.s:=fun K=>gC_eq x.s hs h (.refl _)
 rw[q]at e
 exact conKB (by show 1<=5;omega) e
def kKB:Known:=.specG F_keeper_Keeper_Bureau dKT (fun x=>pBuU x.s) eKT fun x=>(resK x.s.ns.length,hKB x.s x.n)
theorem kKB_ok:kKB.Ok PG:=Known.specG_ok kb_con
structure Stp where
 k:Int
 a:Int
 b:Int
 n:Int
def encStp(s:Stp):List AV:=[.int .u8 s.k,.int .u8 s.a,.int .u8 s.b,.int .u8 s.n]
def decStp(c:List AV):Stp:=⟨getI c 0,getI c 1,getI c 2,getI c 3⟩
def w(x:Int):Int:=IntKind.i64.wrap x
def mB(s:Stp):MD:=⟨7,w (2+w (s.a.tmod 3)),1,w (1+w (s.b.tmod 3)),0,0,0,false,1,w (s.n.tmod 8),w (2+w ((IntKind.u8.wrap (s.b.tdiv 3)).tmod 2))⟩
def mO(s:Stp):MD:=⟨1,w (100+w (s.a.tmod 3)),1,0,0,w (s.n.tmod 8),0,false,0,0,0⟩
def mF(s:Stp):MD:=⟨20,0,1,0,w (s.n.tmod 8),0,0,false,0,0,0⟩
def mZ(s:Stp):MD:=⟨9,w (2+w (s.a.tmod 3)),1,w (1+w (s.b.tmod 3)),w (s.n.tmod 8),0,w (w (s.n.tmod 8) - 1),decide (s.b.tmod 2=0),0,0,0⟩
def mR(s:Stp):MD:=⟨21,100,1,0,0,w (s.n.tmod 8),0,false,0,0,0⟩
def m0:MD:=⟨0,0,0,0,0,0,0,false,0,0,0⟩
def msOf(s:Stp):MD × Bool:=bif decide (s.k.tmod 7=0)then(mB s,true)else bif decide (s.k.tmod 7=1)then(mO s,true)else bif decide (s.k.tmod 7=2)then(mF s,true)else bif decide (s.k.tmod 7=3)then(mZ s,true)else bif decide (s.k.tmod 7=4)then(mR s,true)else(m0,false)
def msD(m:MD)(V:AV):List AV:=(msC m).set 25 V
def vwL(m:MD):AV:=.trl 5 [[.int .i64 0,.int .i64 m.ve,.int .i64 0,.int .i64 m.vp,.nils]]
theorem ms_eq(s:Stp):callT env0 20 F_lockgateref22_Msg [.agg (encStp s)] =
 bif decide (s.k.tmod 7=0)then some (.tup [.agg (msD (mB s) (vwL (mB s))),.bool true])else bif decide (s.k.tmod 7=1)then some (.tup [.agg (msD (mO s) .nils),.bool true])else bif decide (s.k.tmod 7=2)then some (.tup [.agg (msD (mF s) .nils),.bool true])
 else bif decide (s.k.tmod 7=3)then some (.tup [.agg (msD (mZ s) .nils),.bool true])else bif decide (s.k.tmod 7=4)then some (.tup [.agg (msD (mR s) .nils),.bool true])else some (.tup [.agg (msD m0 .nils),.bool false]):=by kernel_rfl
theorem msD_nil{m:MD}(h:m.vn=0):SubC (msD m .nils) (msC m):=by
 have h5:SubV .nils (vwC m):=by
  unfold vwC
  rw[h]
  exact .nils
 exact subC_all (by repeat' (first | exact trivial | exact h5 | exact SubV.refl _ | refine⟨?_,?_⟩))
theorem msD_one{m:MD}(h:m.vn=1):SubC (msD m (vwL m)) (msC m):=by
 have h5:SubV (vwL m) (vwC m):=by
  unfold vwC vwL
  rw[h]
  exact SubV.tr (es:=[[.int .i64 0,.int .i64 m.ve,.int .i64 0,.int .i64 m.vp,.nils]]) fun i hi=>by
   have:i=0:=by have:i<1:=hi;omega
   subst this
   exact .cons (.refl _) (.cons (.refl _) (.cons (.refl _) (.cons (.refl _) (.cons nilsL .nil))))
 exact subC_all (by repeat' (first | exact trivial | exact h5 | exact SubV.refl _ | refine⟨?_,?_⟩))
def ansM(p:MD × Bool):AV:=.tup [.agg (msC p.1),.bool p.2]
theorem ms_con(s:Stp):Contract PG F_lockgateref22_Msg [.agg (encStp s)] [] (ansM (msOf s)) []:=by
 have e:=ms_eq s
 have key:∀ {m:MD} {V:AV} {b:Bool},SubC (msD m V) (msC m)->callT env0 20 F_lockgateref22_Msg [.agg (encStp s)]=some (.tup [.agg (msD m V),.bool b])->Contract PG F_lockgateref22_Msg [.agg (encStp s)] [] (ansM (m,b)) []:=
  fun h e=>(con0 e).res (.tup (.cons (.agg h) (.cons (.refl _) .nil)))
 unfold msOf
 cases h0:decide (s.k.tmod 7=0)with
 | true=>rw[h0]at e;exact key (msD_one rfl) e
 | false=>
  cases h1:decide (s.k.tmod 7=1)with
  | true=>rw[h0,h1]at e;exact key (msD_nil rfl) e
  | false=>
   cases h2:decide (s.k.tmod 7=2)with
   | true=>rw[h0,h1,h2]at e;exact key (msD_nil rfl) e
   | false=>
    cases h3:decide (s.k.tmod 7=3)with
    | true=>rw[h0,h1,h2,h3]at e;exact key (msD_nil rfl) e
    | false=>
     cases h4:decide (s.k.tmod 7=4)with
     | true=>rw[h0,h1,h2,h3,h4]at e;exact key (msD_nil rfl) e
     | false=>rw[h0,h1,h2,h3,h4]at e;exact key (msD_nil rfl) e
def dSt(a:List AV):Stp:=decStp (argC a 0)
def eSt(s:Stp):List AV:=[.agg (encStp s)]
def kMs(M:Stp->MD × Bool):Known:=.spec F_lockgateref22_Msg dSt (fun _=>True) eSt fun s=>ansM (M s)
theorem kMs_ok:(kMs msOf).Ok PG:=Known.spec_ok fun s _=>ms_con s
def mdO:List (Nat × Nat):=[(F_wal_Open,2),(F_wal_inFront,2),(F_disk_Disk_First,2),(F_disk_Disk_Read,2),(F_slices_Clone_byte,2)]
def eO:Env:=envN [] mdO [(F_keeper_Open,15,[1000000,1000003])] []
def cells0:List AV:=[.nils,.nils,.int .i64 0,.nils,.nils,.int .i64 0,.nils,.bool false,.int .i64 0,.bool false]
def dk0:BS:=.arr true 10 [cells0]
def bu0C:List AV:=[.int .i64 0,.int .i64 0,.trl 8 [[.int .i64 0,.int .i64 0,.int .i64 0,.bool false,.int .i64 0,.int .i64 0,.nils,.nils]],.nils,.trl 4 [[.bool false,.nils,.nils,.bool false]],.nils,.nils]
def s0:ES:=⟨0,0,⟨0,0,0,false,0,0,[],[]⟩,[],false,[],[],.nil,false,false,[],cfK⟩
theorem op_eq:callC 1 eO 60 F_keeper_Open [.ptr 0 0 0,.agg (encCf cfK)] [dk0]=some (.tup [.ptr 3 0 0,.int .i64 0],[dk 1 2 0 0 .nils,.seq true 1 0 fun _=>[],.seq true 1 0 fun _=>[],.arr true 23 [encCf cfK ++ .ptr 4 0 0::bu0C],lg 0 0]):=by kernel_rfl
theorem nw_eq:callC 0 eO 60 F_disk_New [] []=some (.ptr 0 0 0,[dk0]):=by kernel_rfl
theorem cf_eq:callT eO 60 F_lockgateref22_Conf []=some (.agg (encCf cfK)):=by kernel_rfl
def hOp:Heap:=[dk 1 2 0 0 .nils,blkU 0,blkU 0,.arr true 23 [kRow cfK s0 4],lg 0 0]
theorem fs_app:∀ (c:List AV) {a b:List AV},AM.SubFs a b->AM.SubFs (c++a) (c++b)
 | [],_,_,h=>h
 | x::c,_,_,h=>.cons (.refl x) (fs_app c h)
theorem bu0_sub:AM.SubFs bu0C (buT s0):=by
 have hm:SubC [.int .i64 0,.int .i64 0,.int .i64 0,.bool false,.int .i64 0,.int .i64 0,.nils,.nils] (encPlan s0.p):=subC_all (by repeat' (first | exact trivial | exact nilsL | exact SubV.refl _ | refine⟨?_,?_⟩))
 have hw:SubC [.bool false,.nils,.nils,.bool false] (wkA s0):=subC_all (by repeat' (first | exact trivial | exact nilsL | exact SubV.refl _ | refine⟨?_,?_⟩))
 exact .cons (.refl _) (.cons (.refl _) (.cons (.of (one_trl hm) rfl) (.cons (.of nilsL rfl) (.cons (.of (one_trl hw) rfl) (.cons (.of opV_nils rfl) (.cons (.of nilsL rfl) .nil))))))
theorem seq0_sub{f:Nat->List AV}:BSub (.seq true 1 0 f) (blkU 0):=.seq true 1 0 0 f uF (Nat.le_refl 0) fun i hi=>absurd hi (Nat.not_lt_zero i)
theorem row0_sub:BSub (.arr true 23 [encCf cfK ++ .ptr 4 0 0::bu0C]) (.arr true 23 [kRow cfK s0 4]):=by
 refine .arr _ _ _ _ rfl fun i cs cs' e e'=>?_
 cases i with
 | zero=>
  have e:encCf cfK ++ .ptr 4 0 0::bu0C=cs:=Option.some.inj e
  have e':kRow cfK s0 4=cs':=Option.some.inj e'
  rw[<- e,<- e']
  exact fs_app (encCf cfK) (.cons (.refl _) bu0_sub)
 | succ i=>cases e
theorem conO{c n f:Nat}{args:List AV}{hp:Heap}{r:AV}{H:Heap}(hc:c<=hp.length)(e:callC c eO n f args hp=some (r,H)):CG f args hp r H:=conC ank hc e
theorem op_con:CG F_keeper_Open [.ptr 0 0 0,.agg (encCf cfK)] [dk0] (.tup [.ptr 3 0 0,.int .i64 0]) hOp:=by
 have c:=conO (by show 1<=1;omega) op_eq
 exact⟨c.1.resub (AM.SubF.refl _) (.cons (.refl _) (.cons seq0_sub (.cons seq0_sub (.cons row0_sub (.refl _))))),by show 1<=5;omega⟩
theorem nw_con:CG F_disk_New [] [] (.ptr 0 0 0) [dk0]:=conO (Nat.le_refl 0) nw_eq
theorem cf_con:Contract PG F_lockgateref22_Conf [] [] (.agg (encCf cfK)) []:=conN (fun k hk=>by cases hk) cf_eq
end Go.Kp
end
noncomputable section
open Go Go.AM Go.Md Go.Wk Go.Co
namespace Go.Kp
set_option maxRecDepth 100000
set_option maxHeartbeats 400000
def encSts(l:List Stp):AV:=encL 4 encStp ⟨0,0,0,0⟩ l
def mdL:List (Nat × Nat):=[(F_keeper_Keeper_Handle,5),(F_keeper_Keeper_Tick,5),(F_keeper_Keeper_Bureau,5),(F_disk_New,1),(F_keeper_Open,5)]
abbrev MF:=Stp->MD × Bool
def knL(M:MF)(h:HF)(t:TF)(x:NF):List Known:=[kAwakeK,kCon F_keeper_Open (.tup [.ptr 3 0 0,.int .i64 0]) hOp,kCon F_disk_New (.ptr 0 0 0) [dk0],.one F_lockgateref22_Conf [] (.agg (encCf cfK)),kKH h x,kKT t x,kKB,kMs M]
def eL(M:MF)(h:HF)(t:TF)(x:NF):Env:=envN [] mdL [] (knL M h t x)
def gAwL{R:Type}(K:Option R):Option R:=gC (X:=Unit) (fun _=>()) (fun _=>True) (fun _=>[]) [] fun _=>K
def gCfL{R:Type}(K:Option R):Option R:=gC (X:=Unit) (fun _=>()) (fun _=>True) (fun _=>[]) [] fun _=>K
section
variable (M:MF) (h:HF) (t:TF) (x:NF)
def SL(l:List Stp)(s:ES)(n:Nat)(i:Int):St:={fr:=[(0,encSts l),(3,.ptr 0 0 0),(4,.int .i64 0),(5,.int .i64 i)],hp:=hK cfK s n}
def LL(N m:Nat)(S:St):Option AV:=LP (eL M h t x) N 0 F_lockgatelaw22_KeeperMemory snK 0 [] m S
theorem km_in(N:Nat)(l:List Stp):callT (eL M h t x) (N+1) F_lockgatelaw22_KeeperMemory [encSts l] =
 gAwL (bif decide ((60:Int)<(l.length:Int))then gAwL (some (.bool true))else gCon F_disk_New [] [] (.ptr 0 0 0) [dk0] <| gCfL <| gCon F_keeper_Open [.ptr 0 0 0,.agg (encCf cfK)] [dk0] (.tup [.ptr 3 0 0,.int .i64 0]) hOp <| LL M h t x N (N) (SL l s0 0 0)):=by kernel_rfl
def bkS(cn:Nat)(cf:Nat->Member)(nn:Nat)(nf:Nat->Alive)(e:Int):Heap:=[.arr true 7 [[.undef,.undef,.sl 8 6 0 1 1,.sn 3 8 nn,.undef,.undef,.undef]],.arr true 8 [plV e 7 cn],.seq true 2 cn fun j=>encMember (cf j),.seq true 3 nn fun j=>encAlive (nf j)]
def S2(l:List Stp)(s:ES)(n:Nat)(i ep:Int)(cn:Nat)(cf:Nat->Member)(nn:Nat)(nf:Nat->Alive)(j:Int):St:={fr:=[(0,encSts l),(3,.ptr 0 0 0),(4,.int .i64 0),(5,.int .i64 i),(8,.ptr 5 0 0),(9,.int .i64 j)],hp:=hK cfK s n++bkS cn cf nn nf ep}
def SC(l:List Stp)(s:ES)(n:Nat)(i ep:Int)(cn:Nat)(cf:Nat->Member)(nn:Nat)(nf:Nat->Alive)(k:Int):St:={fr:=[(0,encSts l),(3,.ptr 0 0 0),(4,.int .i64 0),(5,.int .i64 i),(8,.ptr 5 0 0),(9,.int .i64 0),(10,.ptr 9 0 0),(11,.int .i64 k)],hp:=hK cfK s n++(bkS cn cf nn nf (-7)++[.arr true 8 [plV ep 7 cn]])}
def SN(l:List Stp)(s:ES)(n:Nat)(i:Int)(cn:Nat)(cf:Nat->Member)(nn:Nat)(nf:Nat->Alive)(k:Int):St:={fr:=[(0,encSts l),(3,.ptr 0 0 0),(4,.int .i64 0),(5,.int .i64 i),(8,.ptr 5 0 0),(12,.int .i64 k)],hp:=hK cfK s n++bkS cn cf nn nf (-7)}
def L2(N m j:Nat)(S:St):Option AV:=LP (eL M h t x) N 0 F_lockgatelaw22_KeeperMemory snK 2 [m] j S
def LC(N m m2 j:Nat)(S:St):Option AV:=LP (eL M h t x) N 0 F_lockgatelaw22_KeeperMemory snK 4 [m,m2] j S
def LN(N m j:Nat)(S:St):Option AV:=LP (eL M h t x) N 0 F_lockgatelaw22_KeeperMemory snK 6 [m] j S
theorem ln_st(N m j:Nat)(l:List Stp)(s:ES)(n:Nat)(i:Int)(cn:Nat)(cf:Nat->Member)(nn:Nat)(nf:Nat->Alive)(k:Int):LN M h t x N m (j+1) (SN l s n i cn cf nn nf k) =
 bif decide (k<(nn:Int))then rg k nn <| bif k.toNat.blt nn then bif decide ((nf k.toNat).missed<0)then some (.bool false)else rg k nn <| bif k.toNat.blt nn then bif decide ((nf k.toNat).member.node<0)then some (.bool false)else
  rg k nn <| bif k.toNat.blt nn&&true then LN M h t x N m j {fr:=[(0,encSts l),(3,.ptr 0 0 0),(4,.int .i64 0),(5,.int .i64 i),(8,.ptr 5 0 0),(12,.int .i64 (IntKind.i64.wrap (k+1)))],hp:=hK cfK s n++[.arr true 7 [[.undef,.undef,.sl 8 6 0 1 1,.sn 3 8 nn,.undef,.undef,.undef]],.arr true 8 [plV (-7) 7 cn],.seq true 2 cn fun j=>encMember (cf j),.seq true 3 nn fun i'=>bif i'.beq k.toNat then encAlive {nf k.toNat with missed:=-7}else encAlive (nf i')]}else none else none else none
 else LL M h t x N m (SL l s n (IntKind.i64.wrap (i+1))):=by kernel_rfl
theorem l2_ex(N m j:Nat)(l:List Stp)(s:ES)(n:Nat)(i:Int)(cn:Nat)(cf:Nat->Member)(nn:Nat)(nf:Nat->Alive):L2 M h t x N m (j+1) (S2 l s n i (-7) cn cf nn nf 1)=LN M h t x N m N (SN l s n i cn cf nn nf 0):=by kernel_rfl
theorem l2_in(N m j:Nat)(l:List Stp)(s:ES)(n:Nat)(i ep:Int)(cn:Nat)(cf:Nat->Member)(nn:Nat)(nf:Nat->Alive):L2 M h t x N m (j+1) (S2 l s n i ep cn cf nn nf 0)=LC M h t x N m j N (SC l s n i ep cn cf nn nf 0):=by kernel_rfl
theorem lc_st(N m m2 j:Nat)(l:List Stp)(s:ES)(n:Nat)(i ep:Int)(cn:Nat)(cf:Nat->Member)(nn:Nat)(nf:Nat->Alive)(k:Int):LC M h t x N m m2 (j+1) (SC l s n i ep cn cf nn nf k) =
 bif decide (k<(cn:Int))then rg k cn <| bif k.toNat.blt cn&&true then LC M h t x N m m2 j {fr:=[(0,encSts l),(3,.ptr 0 0 0),(4,.int .i64 0),(5,.int .i64 i),(8,.ptr 5 0 0),(9,.int .i64 0),(10,.ptr 9 0 0),(11,.int .i64 (IntKind.i64.wrap (k+1)))],hp:=hK cfK s n++[.arr true 7 [[.undef,.undef,.sl 8 6 0 1 1,.sn 3 8 nn,.undef,.undef,.undef]],.arr true 8 [plV (-7) 7 cn],.seq true 2 cn fun i'=>bif i'.beq k.toNat then encMember {cf k.toNat with node:=-7}else encMember (cf i'),.seq true 3 nn fun j=>encAlive (nf j),.arr true 8 [plV ep 7 cn]]}else none
 else bif decide (ep<0)then some (.bool false)else L2 M h t x N m m2 (S2 l s n i (-7) cn cf nn nf 1):=by kernel_rfl
def afB(N m:Nat)(l:List Stp)(i:Int)(s:ES)(n:Nat):Option AV:=gCG dKT (fun x=>pBuU x.s) eKT [.ptr 0 0 0] (hK cfK s n) fun z=>L2 M h t x N m N (S2 l z.s z.n i z.s.p.epoch z.s.p.chain.length (fun k=>z.s.p.chain.getD k default) z.s.ns.length (fun k=>z.s.ns.getD k default) 0)
def afH(N m:Nat)(l:List Stp)(s:ES)(n:Nat)(i:Int)(d:MD):Option AV:=gCG dKH pKH eKH [.ptr 0 0 0,.agg (msC d)] (hK cfK s n) fun y=>afB M h t x N m l i (h y.s y.m) (x y.s (h y.s y.m) y.n)
def afT(N m:Nat)(l:List Stp)(s:ES)(n:Nat)(i:Int):Option AV:=gCG dKT pKT eKT [.ptr 0 0 0] (hK cfK s n) fun y=>afB M h t x N m l i (t y.s) (x y.s (t y.s) y.n)
theorem ll_st(N m:Nat)(l:List Stp)(s:ES)(n:Nat)(i:Int):LL M h t x N (m+1) (SL l s n i) =
 bif decide (i<(l.length:Int))then rg i l.length <| gC dSt (fun _=>True) eSt [.agg (encStp (l.getD i.toNat ⟨0,0,0,0⟩))] fun y=>bif(M y).2 then afH M h t x N m l s n i (M y).1 else afT M h t x N m l s n i else some (.bool true):=by kernel_rfl
end
end Go.Kp
end
noncomputable section
open Go Go.AM Go.Md Go.Wk Go.Co
namespace Go.Kp
set_option maxRecDepth 100000
set_option maxHeartbeats 400000
def cfN(cf:Nat->Member)(k:Nat):Nat->Member:=fun i=>bif i.beq k then {cf k with node:=-7}else cf i
def nfN(nf:Nat->Alive)(k:Nat):Nat->Alive:=fun i=>bif i.beq k then {nf k with missed:=-7}else nf i
theorem cfN_eq(cf:Nat->Member)(k:Nat):(fun i'=>bif i'.beq k then encMember {cf k with node:=-7}else encMember (cf i'))=fun i'=>encMember (cfN cf k i'):=by
 funext i
 unfold cfN
 cases i.beq k <;> rfl
theorem nfN_eq(nf:Nat->Alive)(k:Nat):(fun i'=>bif i'.beq k then encAlive {nf k with missed:=-7}else encAlive (nf i'))=fun i'=>encAlive (nfN nf k i'):=by
 funext i
 unfold nfN
 cases i.beq k <;> rfl
section
variable {M:MF} {h:HF} {t:TF} {x:NF} {N m:Nat} {l:List Stp} {s:ES} {n:Nat} {i:Int} {cn:Nat} {nn:Nat}
theorem ln_run{cf:Nat->Member}(hn:nn<=1000):∀ d k j nf,k+d=nn->d<j->(∀ q,k<=q->q<nn->0<=(nf q).missed/\0<=(nf q).member.node) ->
  LN M h t x N m j (SN l s n i cn cf nn nf (k:Nat))=LL M h t x N m (SL l s n (IntKind.i64.wrap (i+1))):=by
 intro d
 induction d with
 | zero=>
  intro k j nf hk hj _
  obtain⟨j,rfl⟩:∃ q,j=q+1:=⟨j - 1,by omega⟩
  rw[ln_st,decide_eq_false (by omega),cond_false]
 | succ d ih=>
  intro k j nf hk hj hq
  obtain⟨j,rfl⟩:∃ q,j=q+1:=⟨j - 1,by omega⟩
  have hkn:k<nn:=by omega
  obtain⟨h1,h2⟩:=hq k (Nat.le_refl k) hkn
  have e:=ih (k+1) j (nfN nf k) (by omega) (by omega) fun q g1 g2=>by
   have:=hq q (by omega) g2
   unfold nfN
   rw[AM.beq_false (show q ≠ k by omega)]
   exact this
  rw[ln_st,decide_eq_true (by omega),cond_true,rg_eq hkn,Int.toNat_natCast,blt_true hkn,cond_true,decide_eq_false (by omega),cond_false,rg_eq hkn,cond_true,decide_eq_false (by omega),cond_false,rg_eq hkn,Bool.and_true,cond_true,wrapS (by omega),nfN_eq]
  exact e
theorem lc_run{nf:Nat->Alive}{ep:Int}{m2:Nat}(hep:0<=ep)(hc:cn<=1000):∀ d k j cf,k+d=cn->d<j ->
  ∃ cf',LC M h t x N m m2 j (SC l s n i ep cn cf nn nf (k:Nat))=L2 M h t x N m m2 (S2 l s n i (-7) cn cf' nn nf 1):=by
 intro d
 induction d with
 | zero=>
  intro k j cf hk hj
  obtain⟨j,rfl⟩:∃ q,j=q+1:=⟨j - 1,by omega⟩
  exact⟨cf,by rw[lc_st,decide_eq_false (by omega),cond_false,decide_eq_false (by omega),cond_false]⟩
 | succ d ih=>
  intro k j cf hk hj
  obtain⟨j,rfl⟩:∃ q,j=q+1:=⟨j - 1,by omega⟩
  have hkn:k<cn:=by omega
  obtain⟨cf',e⟩:=ih (k+1) j (cfN cf k) (by omega) (by omega)
  refine⟨cf',?_⟩
  rw[lc_st,decide_eq_true (by omega),cond_true,rg_eq hkn,Int.toNat_natCast,blt_true hkn,Bool.and_true,cond_true,wrapS (by omega),cfN_eq]
  exact e
theorem dKT_eq{s:ES}{n:Nat}(hb:s.nb=false)(hc:s.c=cfK)(a:List AV):dKT a (hK cfK s n)=⟨s,n⟩:=by
 show KY.mk (dES (buT s)) n=_
 rw[dES_eq hb hc]
theorem afB_ok{K:Nat}(hs:SJ K s)(hk9:K<=900)(hN:1010<=N):afB M h t x N m l i s n=LL M h t x N m (SL l s n (IntKind.i64.wrap (i+1))):=by
 have q:∀ F:KY->Option AV,gCG dKT (fun x=>pBuU x.s) eKT [.ptr 0 0 0] (hK cfK s n) F=F ⟨s,n⟩:=fun F=>gCG_eq (KY.mk s n) (dKT_eq hs.nb hs.c _) (show pBuU s from⟨K,hs,hk9⟩) (.refl _) (.refl _)
 unfold afB
 rw[q]
 have h1:=hs.ch.1
 have h2:=hs.nl
 obtain⟨N,rfl⟩:∃ q,N=q+2:=⟨N - 2,by omega⟩
 dsimp only
 rw[l2_in]
 obtain⟨cf',e⟩:=lc_run (M:=M) (h:=h) (t:=t) (x:=x) (N:=N+2) (m:=m) (l:=l) (s:=s) (n:=n) (i:=i) (nn:=s.ns.length) (nf:=fun k=>s.ns.getD k default) (ep:=s.p.epoch) (m2:=N+1) (cn:=s.p.chain.length) hs.ep0 (by omega) s.p.chain.length 0 (N+2) (fun k=>s.p.chain.getD k default) (by omega) (by omega)
 rw[Int.natCast_zero]at e
 rw[e,l2_ex]
 have e2:=ln_run (M:=M) (h:=h) (t:=t) (x:=x) (N:=N+2) (m:=m) (l:=l) (s:=s) (n:=n) (i:=i) (cn:=s.p.chain.length) (nn:=s.ns.length) (cf:=cf') (by omega) s.ns.length 0 (N+2) (fun k=>s.ns.getD k default) (by omega) (by omega) fun q _ hq=>by
  have:=hs.nm _ (getD_mem hq (z:=default))
  exact⟨this.2.1,this.1.1⟩
 rw[Int.natCast_zero]at e2
 exact e2
end
def StB(s:Stp):Prop:=(0<=s.k/\s.k<=255)/\(0<=s.a/\s.a<=255)/\(0<=s.b/\s.b<=255)/\(0<=s.n/\s.n<=255)
theorem w_eq{x:Int}(h:0<=x/\x<=1000):w x=x:=wrap64 (by omega)
theorem tm{x k:Int}(h:0<=x):x.tmod k=x % k:=Int.tmod_eq_emod_of_nonneg h
theorem ms_ok{s:Stp}(h:StB s)(hm:(msOf s).2=true):MOk (msOf s).1:=by
 obtain⟨hk,ha,hb,hn⟩:=h
 have e3:w (s.a.tmod 3)=s.a % 3:=by rw[tm ha.1];exact w_eq (by omega)
 have e4:w (s.b.tmod 3)=s.b % 3:=by rw[tm hb.1];exact w_eq (by omega)
 have e5:w (s.n.tmod 8)=s.n % 8:=by rw[tm hn.1];exact w_eq (by omega)
 unfold msOf at hm ⊢
 cases h0:decide (s.k.tmod 7=0)with
 | true=>
  refine⟨.inl ⟨rfl,rfl,?_⟩⟩
  show SmM ⟨w (2+w (s.a.tmod 3)),w (1+w (s.b.tmod 3))⟩
  rw[e3,e4,w_eq (by omega),w_eq (by omega)]
  unfold SmM
  dsimp only
  omega
 | false=>
  cases h1:decide (s.k.tmod 7=1)with
  | true=>
   refine⟨.inr ⟨rfl,.inl ⟨rfl,?_⟩⟩⟩
   show 100<=w (100+w (s.a.tmod 3))/\w (100+w (s.a.tmod 3))<=102
   rw[e3,w_eq (by omega)];omega
  | false=>
   cases h2:decide (s.k.tmod 7=2)with
   | true=>exact⟨.inr ⟨rfl,.inr (.inl rfl)⟩⟩
   | false=>
    cases h3:decide (s.k.tmod 7=3)with
    | true=>exact⟨.inr ⟨rfl,.inr (.inr (.inl rfl))⟩⟩
    | false=>
     cases h4:decide (s.k.tmod 7=4)with
     | true=>
      refine⟨.inr ⟨rfl,.inr (.inr (.inr ⟨rfl,?_⟩))⟩⟩
      show 0<=w (s.n.tmod 8)/\w (s.n.tmod 8)<=10
      rw[e5];omega
     | false=>rw[h0,h1,h2,h3,h4]at hm;cases hm
theorem dKH_eq{s:ES}{n:Nat}{d:MD}(hb:s.nb=false)(hc:s.c=cfK):dKH [.ptr 0 0 0,.agg (msC d)] (hK cfK s n)=⟨s,d,n⟩:=by
 show KX.mk (dES (buT s)) (dMD (msC d)) n=_
 rw[dES_eq hb hc,dMD_eq]
theorem ll_run{N:Nat}{l:List Stp}(hN:1010<=N)(hl:l.length<=60)(hs:∀ s ∈ l,StB s):∀ d i m s n,i+d=l.length->d<m->SJ (3*i) s->n<=236*i->LL msOf hP tP nxN N m (SL l s n (i:Nat))=some (.bool true):=by
 intro d
 induction d with
 | zero=>
  intro i m s n hi hm _ _
  obtain⟨m,rfl⟩:∃ q,m=q+1:=⟨m - 1,by omega⟩
  rw[ll_st,decide_eq_false (by omega),cond_false]
 | succ d ih=>
  intro i m s n hi hm hj hn
  obtain⟨m,rfl⟩:∃ q,m=q+1:=⟨m - 1,by omega⟩
  have hil:i<l.length:=by omega
  have hb:=hs _ (getD_mem hil (z:=⟨0,0,0,0⟩))
  rw[ll_st,decide_eq_true (by omega),cond_true,rg_eq hil,Int.toNat_natCast]
  generalize l.getD i ⟨0,0,0,0⟩=y at hb
  have q0:∀ F:Stp->Option AV,gC dSt (fun _=>True) eSt [.agg (encStp y)] F=F y:=fun F=>gC_eq y rfl trivial (.refl _)
  rw[q0]
  have next:∀ s',SJ (3*(i+1)) s'->afB msOf hP tP nxN N m l i s' (nxN s s' n)=some (.bool true):=fun s' hs'=>by
   rw[afB_ok hs' (by omega) hN,wrapS (by omega)]
   exact ih (i+1) m s' _ (by omega) (by omega) hs' (nx_le hs' (by omega) i hn)
  cases hb2:(msOf y).2 with
  | true=>
   have hm:=ms_ok hb hb2
   have q1:∀ F:KX->Option AV,gCG dKH pKH eKH [.ptr 0 0 0,.agg (msC (msOf y).1)] (hK cfK s n) F=F ⟨s,(msOf y).1,n⟩:=fun F=>gCG_eq (KX.mk s (msOf y).1 n) (dKH_eq hj.nb hj.c) (show pKs s n/\MOk (msOf y).1 from⟨⟨3*i,hj,by omega,by omega⟩,hm⟩) (.refl _) (.refl _)
   rw[cond_true]
   unfold afH
   rw[q1]
   exact next _ (hP_ok hj hm (by omega)).2
  | false=>
   have q1:∀ F:KY->Option AV,gCG dKT pKT eKT [.ptr 0 0 0] (hK cfK s n) F=F ⟨s,n⟩:=fun F=>gCG_eq (KY.mk s n) (dKT_eq hj.nb hj.c _) (show pKs s n from⟨3*i,hj,by omega,by omega⟩) (.refl _) (.refl _)
   rw[cond_false]
   unfold afT
   rw[q1]
   exact next _ (tP_ok hj (by omega)).2
theorem sj0:SJ 0 s0 where
 c:=rfl
 nb:=rfl
 e0:=Int.le_refl 0
 e1:=Int.le_refl 0
 g0:=Int.le_refl 0
 g1:=Int.le_refl 0
 ep0:=Int.le_refl 0
 ep1:=Int.le_refl 0
 pg0:=Int.le_refl 0
 pg1:=Int.le_refl 0
 ph0:=Int.le_refl 0
 ph1:=by show(0:Int)<=10;omega
 ba0:=Int.le_refl 0
 ba1:=Int.le_refl 0
 re0:=Int.le_refl 0
 re1:=by show(0:Int)<=10;omega
 ch:=.nil
 va:=.nil
 ke:=.nil
 nl:=Nat.le_refl 0
 nm:=fun a ha=>by cases ha
 fl:=Nat.le_refl 0
 fz:=fun f hf=>by cases hf
 ne:=fun e=>by cases e
 ll:=Nat.le_refl 0
 kn:=fun _=>rfl
 ol:=by show 0<=3;omega
 om:=fun m hm=>by cases hm
 on:=List.nodup_nil
theorem km_true{l:List Stp}(hs:∀ s ∈ l,StB s):callT (eL msOf hP tP nxN) 2001 F_lockgatelaw22_KeeperMemory [encSts l]=some (.bool true):=by
 have qA:∀ K:Option AV,gAwL K=K:=fun K=>gC_eq () rfl trivial .nil
 have qC:∀ K:Option AV,gCfL K=K:=fun K=>gC_eq () rfl trivial .nil
 rw[km_in,qA]
 by_cases h:60<l.length
 ·rw[decide_eq_true (by omega),cond_true,qA]
 ·rw[decide_eq_false (by omega),cond_false,gCon_eq nw_con,qC,gCon_eq op_con]
  have r:=ll_run (N:=2000) (l:=l) (by omega) (by omega) hs l.length 0 2000 s0 0 (by omega) (by omega) sj0 (by omega)
  rw[Int.natCast_zero]at r
  exact r
def ShapeTs(S:TypeId->List AV->Prop):List TypeId->List AV->Prop
 | [],cs=>cs=[]
 | t::r,cs=>∃ a b,cs=a++b/\S t a/\ShapeTs S r b
theorem fs_ts{S:TypeId->List AV->Prop}:∀ {l:List Field} {cs:List AV},ShapeFs S l cs->ShapeTs S (l.map (·.type)) cs
 | [],_,h=>h
 | _::_,_,⟨a,b,h1,h2,h3⟩=>⟨a,b,h1,h2,fs_ts h3⟩
def sFs:Option TypeDesc->Option (List TypeId)
 | some (.struct fs)=>some (fs.toList.map (·.type))
 | _=>none
theorem shape_s{n:Nat}{t:TypeId}{ts:List TypeId}{cs:List AV}(hu:sFs (PG.underlying t)=some ts)(h:Shape PG (n+1) t cs):ShapeTs (Shape PG n) ts cs:=by
 unfold Shape at h
 unfold sFs at hu
 split at hu
 ·rename_i fs e
  rw[e]at h
  injection hu with hu
  rw[<- hu]
  exact fs_ts h
 ·cases hu
theorem pick_list{X:Type}{z:X}{e:X->List AV}{Q:X->Prop}{m:Nat}{f:Nat->List AV}(h:∀ i,i<m -> ∃ x,SubC (f i) (e x)/\Q x):∃ l:List X,l.length=m/\(∀ i,i<m->SubC (f i) (e (l.getD i z))) /\ ∀ x ∈ l,Q x:=by
 induction m with
 | zero=>exact⟨[],rfl,fun i hi=>by omega,fun x hx=>by cases hx⟩
 | succ m ih=>
  obtain⟨l,h1,h2,h3⟩:=ih fun i hi=>h i (by omega)
  obtain⟨x,hx,hq⟩:=h m (by omega)
  refine⟨l++[x],by simp[h1],fun i hi=>?_,fun y hy=>?_⟩
  ·by_cases hm:i<m
   ·have:(l++[x]).getD i z=l.getD i z:=by simp[List.getD,List.getElem?_append_left (by omega:i<l.length)]
    rw[this];exact h2 i hm
   ·have:i=m:=by omega
    subst this
    have:(l++[x]).getD i z=x:=by subst h1;simp[List.getD]
    rw[this];exact hx
  ·rcases List.mem_append.1 hy with hy | hy
   ·exact h3 y hy
   ·rw[List.mem_singleton]at hy;subst hy;exact hq
theorem shape_u{n:Nat}{cs:List AV}(h:Shape PG (n+1) 5 cs):∃ i,cs=[.int .u8 i]/\0<=i/\i<=255:=by
 have hu:PG.underlying 5=some (.int .u8):=by kernel_rfl
 obtain⟨a1,a2⟩:=Shape.num hu h
 have hb:IntKind.u8.min=0/\IntKind.u8.max=255:=by decide
 rw[hb.1,hb.2]at a2
 exact⟨_,a1,a2⟩
theorem shape_st{n:Nat}{cs:List AV}(h:Shape PG (n+2) 59 cs):∃ s:Stp,SubC cs (encStp s)/\StB s:=by
 obtain⟨c1,d1,rfl,h1,c2,d2,rfl,h2,c3,d3,rfl,h3,c4,d4,rfl,h4,rfl⟩:=shape_s (ts:=[5,5,5,5]) (by kernel_rfl) h
 obtain⟨i1,rfl,g1⟩:=shape_u h1
 obtain⟨i2,rfl,g2⟩:=shape_u h2
 obtain⟨i3,rfl,g3⟩:=shape_u h3
 obtain⟨i4,rfl,g4⟩:=shape_u h4
 exact⟨⟨i1,i2,i3,i4⟩,.refl _,g1,g2,g3,g4⟩
theorem conL{n f:Nat}{args:List AV}{r:AV}(e:callT (eL msOf hP tP nxN) n f args=some r):Contract PG f args [] r []:=
 conN (ak kAwakeK_ok (ak (kCon_ok _ _ _) (ak (kCon_ok _ _ _) (ak (Known.one_ok cf_con) (ak kKH_ok (ak kKT_ok (ak kKB_ok (ak kMs_ok ank)))))))) e
theorem memory_ok:LawC PG 9 F_lockgatelaw22_KeeperMemory [34]:=by
 intro avs h
 obtain⟨av,r,hs,rfl,rfl⟩:=h
 have hu:PG.underlying 34=some (.slice 59):=by kernel_rfl
 have hc:PG.cellsOf 59=4:=by kernel_rfl
 obtain⟨c,n,_,rfl,b1,b2,b3⟩:=Shape.list hu hs
 obtain⟨l,g1,g2,g3⟩:=pick_list (z:=(⟨0,0,0,0⟩:Stp)) (e:=encStp) (Q:=StB) fun i hi=>shape_st (n:=6) (b3 i hi)
 have e1:argOf PG 34 [c]=c:=by unfold argOf;rw[hu];rfl
 rw[e1]
 refine(conL (km_true g3)).args (.cons (b1.trans ?_) .nil)
 rw[hc]
 subst g1
 exact .trs g2
end Go.Kp
end
