/- Part 5 of the texts that the proof needs: the abstract machine, plain laws, contracts of the program's functions. No statement is claimed here. -/
import Derived.Test.YtbalmcpknmjgkaaGreatPart4
set_option linter.unusedVariables false
set_option linter.unusedSimpArgs false
noncomputable section
open Go Go.AM Go.Md
namespace Go.Hd
open Go.Wk
set_option maxRecDepth 100000
set_option maxHeartbeats 400000
theorem afl:∀ k ∈ aie,k.Ok PG:=ak Tk (ak Xg (ak uH (ak mU (ak T8 (ak aaG (ak rT (ak aaI (ak tS (ak ZV AL)))))))))
def CE(w:Wrk):Ver:=Db w.d.rep
def FC(w:Wrk):Ver:=Py ⟨w.d.rep.tail,CE w,w.d.pump.done⟩
def FD(w:Wrk):Wrk:=Fc (Ez w (FC w)) (Jp (Ez w (FC w)).d.rep (FC w))
def CW(w:Wrk):Wrk:=IS (FD w) (Sg (FD w).d.pump (FD w).d.rep.tail.log)
def BL(w:Wrk):Wrk:=KS (C9 (CW w)) (CE w)
def ET(w:Wrk)(cv:Ver):StA:=⟨w.d.pump,w.d.rep,cv,w.c.batch⟩
def nM(w:Wrk)(cv:Ver):Wrk:=bif(Cn (ET w cv)).2 then Vy (IS w (Cn (ET w cv)).1) (A8 ((Cn (ET w cv)).1,w.d.rep))else IS w (Cn (ET w cv)).1
def nN(w:Wrk)(m:Msg):Bool:=decide (m.kind=16)&&(!decide (m.code=0)&&Gi w m)
def GZ(w:Wrk)(m:Msg):Wrk:=bif nN (BL w) m then BL w else nM (BL w) (CE w)
structure Jz(w:Wrk)(m:Msg):Prop where
 rise:tA ⟨w.d.rep.tail,CE w,w.d.pump.done⟩
 cn:aF w (FC w)
 lift:fL ((Ez w (FC w)).d.rep,FC w)
 pm:tE ((FD w).d.pump,(FD w).d.rep.tail)
 es:Ke (CW w).d.rep.tail.log
 an:Tn (C9 (CW w)) (CE w)
 st:iB (ET (BL w) (CE w))
 out:(BL w).out.length<=1000000
 pout:(Cn (ET (BL w) (CE w))).1.out.length<=100000
theorem UG(q:Pump × Rep):(A8 q).length<=1:=by
 unfold A8
 cases q.1.out.isEmpty <;> simp
theorem afm(w:Wrk)(cv:Ver)(hst:iB (ET w cv))(ho:w.out.length<=1000000)(hp:(Cn (ET w cv)).1.out.length<=100000):vR w cv=some (.tup [],BG (nM w cv)):=by
 unfold vR nM
 have q1:∀ {K:StA->Option (AV × Heap)},gC dSt iB tP [.agg (Bg w.d.pump),.agg (Ag w.d.rep),eV cv,.int .i64 w.c.batch] K=K (ET w cv):=fun {K}=>Aw (ET w cv) (ahS (ET w cv)) hst (.refl _)
 rw[q1]
 cases hs:(Cn (ET w cv)).2 with
 | false=>rfl
 | true=>
  rw[cond_true,cond_true]
  have q2:∀ {K:Pump × Rep->Option (AV × Heap)},gC (fun a=>(De (AA a 0),Cy (AA a 1))) (fun q=>q.1.out.length<=100000) ZU [.agg (Bg (Cn (ET w cv)).1),.agg (Ag w.d.rep)] K=K ((Cn (ET w cv)).1,w.d.rep):=fun {K}=>
   Aw (_,_) (Prod.ext (HK _) (B8 _)) hp (.refl _)
  rw[q2]
  generalize hf:A8 ((Cn (ET w cv)).1,w.d.rep)=F
  have hl:F.length<=1:=by rw[<- hf];exact UG _
  have happ:Be w.out.length (BX w.out) (.fn F.length (BX F))=BX (w.out++F):=Ps _ _ _ _
  rw[Aq (Nat.le_refl _),cond_true,Aq (show(w.out.length+F.length)*392<=140737488355328 by omega),Aq (show w.out.length+F.length<=140737488355328 by omega),Bool.and_true,cond_true,happ,
   show w.out.length+F.length=(w.out++F).length by simp]
  rfl
theorem behind_con(w:Wrk)(m:Msg)(h:Jz w m):Aa PG Dh [.ptr 0 0 0,.agg (Ac m)] (Bl w) (.tup []) (BG (GZ w m))/\(Bl w).length<=(BG (GZ w m)).length:=by
 refine conC afl (c:=1) (n:=9) (by show 1<=4;omega) ((akJ w m).trans ?_)
 have qm:∀ {K:Rep->Option (AV × Heap)},gC CO EK CP [.agg (Ag w.d.rep)] K=K w.d.rep:=fun {K}=>Aw w.d.rep (B8 w.d.rep) trivial (.refl _)
 rw[qm]
 have q1:∀ {K:RiA->Option (AV × Heap)},gC dRi tA eRi [.agg (AJ w.d.rep.tail),eV (Db w.d.rep),Al w.d.pump.done] K=K (⟨w.d.rep.tail,CE w,w.d.pump.done⟩:RiA):=fun {K}=>
  Aw (⟨w.d.rep.tail,CE w,w.d.pump.done⟩:RiA) (by show(⟨El (AJ w.d.rep.tail),CE w,AN Bd (Al w.d.pump.done)⟩:RiA)=_;rw[D9,E1]) h.rise (.refl _)
 rw[q1]
 have q2:∀ {K:WV->Option (AV × Heap)},BF aC (fun p=>aF p.1 p.2) Xh [.ptr 0 0 0,eV (FC w)] (Bl w) K=K (w,FC w):=fun {K}=>BT (w,FC w) (uD (w,FC w)) h.cn (.refl _) (.refl _)
 have e1:Py ⟨w.d.rep.tail,CE w,w.d.pump.done⟩=FC w:=rfl
 rw[e1,q2]
 have q3:∀ {K:Rep × Ver->Option (AV × Heap)},gC dRV fL rQ [.agg (Ag (Ez w (FC w)).d.rep),eV (FC w)] K=K ((Ez w (FC w)).d.rep,FC w):=fun {K}=>qRV h.lift.1 h.lift.2
 rw[q3]
 have q4:∀ {K:PT->Option (AV × Heap)},gC (fun a=>(De (AA a 0),El (AA a 1))) tE ePT [.agg (Bg (Ez w (FC w)).d.pump),.agg (AJ (Jp (Ez w (FC w)).d.rep (FC w)).tail)] K=K ((FD w).d.pump,(FD w).d.rep.tail):=fun {K}=>
  Aw ((FD w).d.pump,(FD w).d.rep.tail) (Prod.ext (HK _) (D9 _)) h.pm (.refl _)
 rw[q4]
 have q5:∀ {K:Wrk->Option (AV × Heap)},BF (fun _ h=>Hf h) (fun w=>Ke w.d.rep.tail.log) (fun w=>([.ptr 0 0 0],Bl w)) [.ptr 0 0 0] (Bl (CW w)) K=K (CW w):=fun {K}=>BT (CW w) (HM _) h.es (.refl _) (.refl _)
 have e2:IS (Fc (Ez w (FC w)) (Jp (Ez w (FC w)).d.rep (FC w))) (Sg (FD w).d.pump (FD w).d.rep.tail.log)=CW w:=rfl
 dsimp only
 rw[e2,q5]
 have q6:∀ {K:WV->Option (AV × Heap)},BF aC (fun p=>Tn p.1 p.2) Xh [.ptr 0 0 0,eV (Db w.d.rep)] (Bl (C9 (CW w))) K=K (C9 (CW w),CE w):=fun {K}=>BT (C9 (CW w),CE w) (uD (C9 (CW w),CE w)) h.an (.refl _) (.refl _)
 rw[q6]
 have e3:KS (C9 (CW w)) (CE w)=BL w:=rfl
 have e4:Db w.d.rep=CE w:=rfl
 dsimp only
 rw[e3,e4]
 have hg:=afm (BL w) (CE w) h.st h.out h.pout
 unfold bh1 GZ nN
 by_cases h1:m.kind=16
 ·rw[decide_eq_true h1,cond_true,Bool.true_and]
  by_cases h2:m.code=0
  ·rw[decide_eq_true h2,Bool.not_true,cond_false,Bool.false_and,cond_false];exact hg
  ·have q7:∀ {K:WM->Option (AV × Heap)},BF Gj (fun _=>True) FN [.ptr 0 0 0,.agg (Ac m)] (Bl (BL w)) K=K (BL w,m):=fun {K}=>BT (BL w,m) (OD (BL w,m)) trivial (.refl _) (.refl _)
   rw[decide_eq_false h2,Bool.not_false,cond_true,q7,Bool.true_and]
   cases hf:Gi (BL w) m with
   | true=>rfl
   | false=>rw[cond_false,cond_false];exact hg
 ·rw[decide_eq_false h1,cond_false,Bool.false_and,cond_false];exact hg
def kBehind:Known:=.specG Dh Gj (fun p=>Jz p.1 p.2) FN (fun p=>(.tup [],BG (GZ p.1 p.2)))
theorem kBehind_ok:kBehind.Ok PG:=Known.specG_ok fun p h=>behind_con p.1 p.2 h
theorem aif{r:Rep}{m:Msg}(h:Cw r)(hk:m.kind=8):Aa PG DQ [.agg (Ag r),.agg (Ac m)] [] (Zi (GC r m)) []:=by
 have k:=h8 r m
 rw[KP hk,R7 (P:=Cw) h,gate,ajq]at k
 unfold GC kZ
 rw[hk]
 show Aa PG _ _ [] (Zi (bif QJ r m then Vj r m else(r,[]))) []
 have e1:(decide (m.dst=r.self.node)&&(decide (m.boot=r.self.boot)&&decide (m.shard=r.shard)))=QJ r m:=rfl
 have e2:(!decide (m.epoch<=r.view.epoch) && !decide (m.epoch<r.frozen))=Ii r m:=by
  unfold Ii
  by_cases h1:m.epoch<=r.view.epoch <;> by_cases h2:m.epoch<r.frozen <;> simp[h1,h2] <;> omega
 rw[e1,e2]at k
 cases ht:QJ r m with
 | false=>rw[ht]at k;exact(Nv k).res Mx
 | true=>
  rw[ht]at k
  unfold Vj
  cases ha:Ii r m with
  | false=>rw[ha]at k;exact(Nv k).res Mx
  | true=>
   rw[ha]at k
   refine(Nv k).res (.tup (.cons (.refl _) (.cons ?_ .nil)))
   exact AR.trans (fB (X:=Unit) (f:=fun _=>_) (g:=fun _=>Ac (YJ r m)) (fun _=>Ei (by repeat' (first | exact trivial | exact Df | exact AR.refl _ | refine⟨?_,?_⟩))) [()]) (AR.trl_of [YJ r m] rfl)
theorem afn{r:Rep}{m:Msg}(h:Cw r)(hk:m.kind=10)(h0:0<=m.epoch)(h1:m.epoch<=1099511627776)(a:Member)(hc:m.chain=[a])(hR:Vk r m=true->Gc (KN r m)) :
  Aa PG DQ [.agg (Ag r),.agg (Ac m)] [] (Zi (GC r m)) []:=by
 have k:=ajs r m a
 rw[<- hc,aew hk,hc,R7 (P:=Cw) h,ag3 h0 h1]at k
 unfold GC kZ
 rw[hk]
 show Aa PG _ _ [] (Zi (bif QJ r m then yY r m else(r,[]))) []
 have hwn:Vk r m=(Ii r m&&(P5 [a] r.self&&((m.fresh&&decide (r.frozen<=m.epoch))||(!decide (r.view.phase=0)&&decide (m.epoch=r.frozen))))):=by
  unfold Vk Ii
  rw[hc,WJ (by simp)]
  by_cases hq:r.frozen<=m.epoch
  ·rw[decide_eq_true hq,Bool.and_true m.fresh]
  ·rw[decide_eq_false hq];simp
 cases ht:QJ r m with
 | false=>rw[ht]at k;exact(Nv k).res Mx
 | true=>
  rw[ht]at k
  simp only[cond_true]at k ⊢
  unfold yY
  cases hg:Vk r m with
  | false=>
   rw[hwn]at hg
   cases h2:decide (m.epoch<=r.view.epoch)with
   | true=>rw[h2]at k;exact(Nv k).res Mx
   | false=>
    rw[h2,cond_false]at k
    cases h3:P5 [a] r.self with
    | false=>rw[h3]at k;exact(Nv k).res Mx
    | true=>
     rw[h3,Bool.not_true,cond_false,Zk]at k
     cases h4:(m.fresh&&decide (r.frozen<=m.epoch))||(!decide (r.view.phase=0)&&decide (m.epoch=r.frozen))with
     | false=>rw[h4]at k;exact(Nv k).res Mx
     | true=>
      exfalso
      rw[h3,h4]at hg
      have h5:Ii r m=false:=by simpa using hg
      have h2':¬ m.epoch<=r.view.epoch:=of_decide_eq_false h2
      have:¬ (r.frozen<=m.epoch):=by
       intro hq
       rw[WB.2 ⟨by omega,hq⟩]at h5
       cases h5
      rw[decide_eq_false this,Bool.and_false,Bool.false_or]at h4
      have:=(Ad h4).2
      have:=of_decide_eq_true this
      omega
  | true=>
   have hR':=hR hg
   rw[hwn]at hg
   obtain⟨g1,g2⟩:=Ad hg
   obtain⟨g2,g3⟩:=Ad g2
   obtain⟨a1,a2⟩:=WB.1 g1
   rw[decide_eq_false (by omega:¬ m.epoch<=r.view.epoch),cond_false,g2,Bool.not_true,cond_false,Zk,g3,cond_true]at k
   have hl:m.chain.length=1:=by rw[hc];rfl
   obtain⟨v,hv,hs⟩:=aex (r:=r) (m:=m) (l:=[a]) (sy:=.trl 1 [[.bool true]]) (bs:=[true]) (by unfold CH LB;simp) hc h0 rfl (AR.trl_of [true] rfl) (by rw[hl];rfl) hR'
   rw[hl]at hv
   have k2:Am XQ 9 DQ [.agg (Ag r),.agg (Ac m)]=lW r m [a] (bif decide (1=1)then 3 else 2) (.trl 1 [[.bool true]]):=k
   rw[hv]at k2
   exact(Nv k2).res hs
def aT(p:Rep × Msg):Prop:=Cw p.1/\(p.2.kind=8\/(p.2.kind=10/\0<=p.2.epoch/\p.2.epoch<=1099511627776 /\ ∃ a,p.2.chain=[a]/\(Vk p.1 p.2=true->Gc (KN p.1 p.2))))
theorem vS(p:Rep × Msg)(h:aT p):Aa PG DQ (lY p) [] (ag4 p) []:=by
 obtain⟨h1,h2 | ⟨h2,h3,h4,a,h5,h6⟩⟩:=h
 ·exact aif h1 h2
 ·exact afn h1 h2 h3 h4 a h5 h6
def vT:Known:=.spec DQ aan aT lY ag4
theorem vU:vT.Ok PG:=Known.spec_ok vS
end Go.Hd
end
noncomputable section
namespace Go.AM
theorem Aa.phan{P:Program}{f:Nat}{args:List AV}{hp rh:Heap}{r:AV}(h:Aa P f args hp r rh)(m:Bool)(sz:Nat)(F:Nat->List AV):Aa P f args hp r (rh++[.seq m sz 0 F]):=by
 intro w I φ ra hh hx
 refine(h w I φ ra hh hx).mono fun u w' ⟨φ',I',a1,a2,a3⟩=>?_
 have hp':=a2.phan (nx:=rh.length) (EX (Nat.le_refl _)) m sz F
 have e:AZ (Ab rh) rh.length (.seq m sz 0 F)=Ab (rh++[.seq m sz 0 F]):=by
  funext b
  rcases Nat.lt_trichotomy b rh.length with h1 | h1 | h1
  ·rw[AQ _ _ (by omega)]
   simp only[Ab,List.getD]
   rw[List.getElem?_append_left h1]
  ·subst h1
   rw[AS]
   simp[Ab,List.getD]
  ·rw[AQ _ _ (by omega),EX (by omega),EX (by simp;omega)]
 rw[e]at hp'
 exact⟨φ',I',a1,hp'.1,a3.trans (hp'.2 _)⟩
theorem Aa.renumO{P:Program}{f:Nat}{args:List AV}{hp rh:Heap}{r:AV}(h:Aa P f args hp r rh){ids:List Nat}(hd:Cp ids)(hk:∀ b,b<hp.length->ids[b]? = some b) :
  Aa P f args hp (ren (fun b=>indexOf b ids 0) r) (Ey ids (Ab rh)):=by
 intro w I φ ra hh hx
 refine(h w I φ ra hh hx).mono fun u w' ⟨φ',I',a1,a2,a3⟩=>⟨F6 ids φ',I',a1.ren fun b b' e=>Lq b b' e,a2.renum hd,⟨fun b p hb e=>?_,a3.Ile,a3.Inew,fun B hB=>a3.mt B (Nj hB),a3.ext⟩⟩
 show(ids[b]?).bind φ'=some p
 rw[hk b hb]
 exact a3.le b p hb e
end Go.AM
end
noncomputable section
open Go Go.AM Go.Md
namespace Go.Hd
open Go.Wk
set_option maxRecDepth 100000
set_option maxHeartbeats 400000
def eOt(l:List Known):Env:=BU [] [(Dv,5),(DQ,0),(Eh,0)] [] l
def abp:List Known:=[vT,Mn]
def abq(w:Wrk)(z:AV):List AV:=[.int .i64 w.d.rep.shard,.int .i64 w.d.rep.self.node,.int .i64 w.d.rep.self.boot,.int .i64 w.d.rep.view.shard,.int .i64 w.d.rep.view.epoch,.int .i64 w.d.rep.view.gen,.int .i64 w.d.rep.view.phase,Ay w.d.rep.view.chain,.int .i64 w.d.rep.frozen,.cplx .f64 w.d.rep.tail.floor.re w.d.rep.tail.floor.im,.cplx .f64 w.d.rep.tail.last.re w.d.rep.tail.last.im,Ae w.d.rep.tail.log,Ax w.d.rep.seen,.cplx .f64 w.d.rep.got.re w.d.rep.got.im,Ch w.d.rep.synced,.int .i64 w.d.pump.num,.nils,.nils,.nils,.bool false,.nils,.nils,.int .i64 w.d.next]++(CG w.c++(z::(Af w.just++[.bool w.isRead])))
def hpZ(w:Wrk)(nO:Nat)(FO:Nat->List AV):Heap:=
 [.arr true 44 [abq w (.sn 31 4 nO)],.dead,.dead,.dead,.seq true 31 nO FO]
def ot1(w:Wrk)(o:Rep × List Msg):Option (AV × Heap):=
 bif w.out.length.ble w.out.length then bif((w.out.length+o.2.length)*392).ble 140737488355328&&(w.out.length+o.2.length).ble 140737488355328 then
  bif !decide (o.1.view.epoch=w.d.rep.view.epoch)then some (.tup [],hpZ (Fc w o.1) (w.out.length+o.2.length) (Be w.out.length (BX w.out) (.fn o.2.length (BX o.2))))else
  gC CO EK CP [.agg (Ag o.1)] fun y=>bif !Co y then some (.tup [],hpZ (Fc w o.1) (w.out.length+o.2.length) (Be w.out.length (BX w.out) (.fn o.2.length (BX o.2))))else
  some (.tup [],Kn (Fc w o.1) w.d.waits.length (D5 w.d.waits) w.d.asks.length (B5 w.d.asks) (w.out.length+o.2.length) (Be w.out.length (BX w.out) (.fn o.2.length (BX o.2))))else none else none
theorem akK(w:Wrk)(m:Msg):BA 1 (eOt abp) 9 Dv [.ptr 0 0 0,.agg (Ac m)] (Bl w) =
 gC aan aT lY [.agg (Ag w.d.rep),.agg (Ac m)] fun h=>ot1 w (GC h.1 h.2):=by kernel_rfl
theorem iO:∀ k ∈ abp,k.Ok PG:=ak vU (ak Ir AL)
theorem D4.nilSn(sz b:Nat):D4 .nils (.sn sz b 0):=fun w I φ u h=>by cases h;exact .sn0 _ _ _
def akL(d:Md.Desk):Md.Desk:=⟨d.rep,⟨d.pump.num,[],[]⟩,[],false,[],[],d.next⟩
def XZ(w:Wrk):Wrk:={w with d:=akL w.d}
theorem DB.append{a b c d:List AV}(h:DB a b)(h':DB c d):DB (a++c) (b++d):=by
 induction a generalizing b with
 | nil=>cases b with
  | nil=>exact h'
  | cons x b=>exact absurd h.1 (by simp)
 | cons x a ih=>cases b with
  | nil=>exact absurd h.1 (by simp)
  | cons y b=>
   refine .cons (h.2 0 x y rfl rfl) (ih ⟨by have:=h.1;simpa using this,fun k c c' e e'=>h.2 (k+1) c c' (by simpa using e) (by simpa using e')⟩)
def aih(w:Wrk)(nO:Nat)(FO:Nat->List AV):Heap:=[.arr true 44 [abq w (.sn 31 6 nO)],.dead,.dead,.dead,.seq true 4 0 (D5 []),.seq true 3 0 (B5 []),.seq true 31 nO FO]
theorem afo(w:Wrk)(nO:Nat)(FO:Nat->List AV):Ey [0,1,2,3,5,6,4] (Ab ((hpZ w nO FO++[.seq true 4 0 (D5 [])])++[.seq true 3 0 (B5 [])]))=aih w nO FO:=by kernel_rfl
theorem afp(w:Wrk)(O:List Msg):HSub (aih w O.length (BX O)) (BG {XZ w with out:=O}):=by
 have z0:∀ {sz:Nat} {X:Type} {e:X->List AV} {z:X},D4 .nils (C5 sz e z []):=fun {sz X e z}=>D4.of Df rfl
 refine .cons (.arr true 44 [abq w (.sn 31 6 O.length)] [iD 4 {XZ w with out:=O}] rfl fun i cs cs' h h'=>?_) (.cons (.refl _) (.cons (.refl _) (.cons (.refl _) (.cons (.seq true 4 _ 0 _ _ (Nat.zero_le _) fun i hi=>absurd hi (Nat.not_lt_zero i)) (.cons (.seq true 3 _ 0 _ _ (Nat.zero_le _) fun i hi=>absurd hi (Nat.not_lt_zero i)) (.cons (.refl _) .nil))))))
 match i with
 | i+1=>simp at h
 | 0=>
  simp at h h'
  subst h h'
  refine DB.append (b:=[.int .i64 w.d.rep.shard,.int .i64 w.d.rep.self.node,.int .i64 w.d.rep.self.boot,.int .i64 w.d.rep.view.shard,.int .i64 w.d.rep.view.epoch,.int .i64 w.d.rep.view.gen,.int .i64 w.d.rep.view.phase,Ay w.d.rep.view.chain,.int .i64 w.d.rep.frozen,.cplx .f64 w.d.rep.tail.floor.re w.d.rep.tail.floor.im,.cplx .f64 w.d.rep.tail.last.re w.d.rep.tail.last.im,Ae w.d.rep.tail.log,Ax w.d.rep.seen,.cplx .f64 w.d.rep.got.re w.d.rep.got.im,Ch w.d.rep.synced,.int .i64 w.d.pump.num,Ae [],Al [],Al [],.bool false,.sn 4 4 0,.sn 3 5 0,.int .i64 w.d.next]) ?_ (.refl _)
  repeat' (first | exact DB.nil | refine DB.cons (D4.refl _) ?_ | refine DB.cons z0 ?_ | refine DB.cons (D4.nilSn _ _) ?_)
def Kt(w:Wrk)(m:Msg):Wrk:=
 bif !decide ((GC w.d.rep m).1.view.epoch=w.d.rep.view.epoch) || !Co (GC w.d.rep m).1 then Vy (XZ (Fc w (GC w.d.rep m).1)) (GC w.d.rep m).2 else Vy (Fc w (GC w.d.rep m).1) (GC w.d.rep m).2
structure VH(w:Wrk)(m:Msg):Prop where
 hd:aT (w.d.rep,m)
 out:w.out.length<=1000000
 outs:(GC w.d.rep m).2.length<=100000
theorem vV(w:Wrk)(m:Msg)(h:VH w m):Aa PG Dv [.ptr 0 0 0,.agg (Ac m)] (Bl w) (.tup []) (BG (Kt w m))/\(Bl w).length<=(BG (Kt w m)).length:=by
 have e:=akK w m
 have q1:∀ {K:Rep × Msg->Option (AV × Heap)},gC aan aT lY [.agg (Ag w.d.rep),.agg (Ac m)] K=K (w.d.rep,m):=fun {K}=>Aw (w.d.rep,m) (Prod.ext (B8 _) (C8 _)) h.hd (.refl _)
 rw[q1]at e
 dsimp only at e
 have h1:=h.out
 have h2:=h.outs
 unfold Kt
 generalize GC w.d.rep m=o at e h2 ⊢
 have happ:Be w.out.length (BX w.out) (.fn o.2.length (BX o.2))=BX (w.out++o.2):=Ps _ _ _ _
 have q2:∀ {K:Rep->Option (AV × Heap)},gC CO EK CP [.agg (Ag o.1)] K=K o.1:=fun {K}=>Aw o.1 (B8 o.1) trivial (.refl _)
 unfold ot1 at e
 rw[Aq (Nat.le_refl _),cond_true,Aq (show(w.out.length+o.2.length)*392<=140737488355328 by omega),Aq (show w.out.length+o.2.length<=140737488355328 by omega),Bool.and_true,cond_true,happ,
  show w.out.length+o.2.length=(w.out++o.2).length by simp,q2]at e
 refine⟨?_,by show 4<=7;omega⟩
 have hz:∀ {X:Option (AV × Heap)},X=some (.tup [],hpZ (Fc w o.1) (w.out++o.2).length (BX (w.out++o.2)))->BA 1 (eOt abp) 9 Dv [.ptr 0 0 0,.agg (Ac m)] (Bl w)=X->Aa PG Dv [.ptr 0 0 0,.agg (Ac m)] (Bl w) (.tup []) (BG (Vy (XZ (Fc w o.1)) o.2)):=by
  intro X hX k
  rw[hX]at k
  have c:=(((conC iO (c:=1) (n:=9) (by show 1<=4;omega) k).1.phan true 4 (D5 [])).phan true 3 (B5 [])).renumO (ids:=[0,1,2,3,5,6,4]) (by
   intro i j b e e'
   have hi:i<7:=by rcases Nat.lt_or_ge i 7 with h | h;exact h;rw[List.getElem?_eq_none (by simpa using h)]at e;cases e
   have hj:j<7:=by rcases Nat.lt_or_ge j 7 with h | h;exact h;rw[List.getElem?_eq_none (by simpa using h)]at e';cases e'
   match i,j,hi,hj with
   | 0,0,_,_=>rfl
   | i,j,hi,hj=>
    have:∀ a:Fin 7,∀ b:Fin 7,([0,1,2,3,5,6,4]:List Nat)[a.1]? = ([0,1,2,3,5,6,4]:List Nat)[b.1]? -> a.1=b.1:=by decide
    exact this ⟨i,hi⟩ ⟨j,hj⟩ (e.trans e'.symm)) (by
   intro b hb
   have hb:b<4:=hb
   have:∀ a:Fin 4,([0,1,2,3,5,6,4]:List Nat)[a.1]? = some a.1:=by decide
   exact this ⟨b,hb⟩)
  rw[afo]at c
  exact c.resub (.refl _) (afp (Fc w o.1) (w.out++o.2))
 cases h3:decide (o.1.view.epoch=w.d.rep.view.epoch)with
 | false=>rw[h3]at e;exact hz rfl e
 | true=>
  rw[h3]at e
  cases h4:Co o.1 with
  | false=>rw[h4]at e;exact hz rfl e
  | true=>rw[h4]at e;exact(conC iO (c:=1) (n:=9) (by show 1<=4;omega) e).1
def vW:Known:=.specG Dv Gj (fun p=>VH p.1 p.2) FN (fun p=>(.tup [],BG (Kt p.1 p.2)))
theorem vX:vW.Ok PG:=Known.specG_ok fun p h=>vV p.1 p.2 h
def vY(l:List Known):Env:=BU [] [(Bi,0),(BV,5),(Eh,0),(Ci,5),(DM,5),(Bh,0),(Dv,5),(Dh,5)] [(Bi,2,[31006038])] l
def VI(c:CallF):List Known:=[ZZ,Mn,UD c,XV,ZO,vW,kBehind]
def BY(d:Md.Desk)(k:Conf):Wrk:=⟨d,k,[],default,false⟩
def N6(d:Md.Desk)(k:Conf):Heap:=[.arr true 44 [HQ (BY d k) (.sn 4 1 d.waits.length) (.sn 3 2 d.asks.length) (.sn 31 3 0)],.seq true 4 d.waits.length (D5 d.waits),.seq true 3 d.asks.length (B5 d.asks),.seq true 31 0 fun _=>[]]
def VJ(w:Wrk):Option AV:=bif(w.d.waits.length.ble w.d.waits.length&&(w.d.asks.length.ble w.d.asks.length&&true))&&(w.out.length.ble w.out.length&&true)then some (.tup [.agg (AP w.d),AG w.out])else none
def abr(d:Md.Desk):Option AV:=bif(d.waits.length.ble d.waits.length&&(d.asks.length.ble d.asks.length&&true))&&(Nat.ble 0 0&&true)then some (.tup [.agg (AP d),.tr 31 0 fun _=>[]])else none
def Mr(w:Wrk)(m:Msg):Option AV:=gC CO EK CP [.agg (Ag w.d.rep)] fun r=>bif Co r then BF Gj (fun p=>Jz p.1 p.2) FN [.ptr 0 0 0,.agg (Ac m)] (Bl w) fun q=>VJ (GZ q.1 q.2)else VJ w
def tail0(d:Md.Desk)(k:Conf)(m:Msg):Option AV:=gC CO EK CP [.agg (Ag d.rep)] fun r=>bif Co r then BF Gj (fun p=>Jz p.1 p.2) FN [.ptr 0 0 0,.agg (Ac m)] (N6 d k) fun q=>VJ (GZ q.1 q.2)else abr d
def aU(d:Md.Desk)(K:Md.Desk->Option AV):Option AV:=gC (fun a=>IP (AA a 0)) MY (fun d=>[.agg (AP d)]) [.agg (AP d)] K
theorem hh8(c:CallF)(d:Md.Desk)(k:Conf)(m:Msg):Am (vY (VI c)) 9 Bi [.agg (AP d),.agg (CG k),.agg (Ac (Dl m 8))] =
 aU d fun y=>BF Gj (fun p=>VH p.1 p.2) FN [.ptr 0 0 0,.agg (Ac (Dl m 8))] (N6 y k) fun q=>Mr (Kt q.1 q.2) (Dl m 8):=by kernel_rfl
theorem al1(c:CallF)(d:Md.Desk)(k:Conf)(m:Msg):Am (vY (VI c)) 9 Bi [.agg (AP d),.agg (CG k),.agg (Ac (Dl m 10))] =
 aU d fun y=>BF Gj (fun p=>VH p.1 p.2) FN [.ptr 0 0 0,.agg (Ac (Dl m 10))] (N6 y k) fun q=>Mr (Kt q.1 q.2) (Dl m 10):=by kernel_rfl
theorem hh5(c:CallF)(d:Md.Desk)(k:Conf)(m:Msg):Am (vY (VI c)) 9 Bi [.agg (AP d),.agg (CG k),.agg (Ac (Dl m 5))] =
 aU d fun y=>bif decide (m.dst=d.rep.self.node)then bif decide (m.shard=d.rep.shard)then gC CO EK CP [.agg (Ag d.rep)] fun r=>bif Co r then
   BF Gj (fun p=>c.p p.1 p.2) FN [.ptr 0 0 0,.agg (Ac (Dl m 5))] (N6 y k) fun q=>Mr (c.f q.1 q.2) (Dl m 5)
  else tail0 y k (Dl m 5)else tail0 y k (Dl m 5)else tail0 y k (Dl m 5):=by kernel_rfl
theorem al2(c:CallF)(d:Md.Desk)(k:Conf)(m:Msg):Am (vY (VI c)) 9 Bi [.agg (AP d),.agg (CG k),.agg (Ac (Dl m 16))] =
 aU d fun y=>BF Gj (fun _=>True) FN [.ptr 0 0 0,.agg (Ac (Dl m 16))] (N6 y k) fun q=>bif Gi q.1 q.2 then
   gC (fun a=>(De (AA a 0),BI (AA a 1))) (fun p=>Nz p.1) ePM [.agg (Bg q.1.d.pump),.agg (Ac (Dl m 16))] fun p=>Mr (IS q.1 (Cx p.1 p.2).1) (Dl m 16)
  else Mr q.1 (Dl m 16):=by kernel_rfl
theorem afq{c:CallF}(h:c.Ok):∀ k ∈ VI c,k.Ok PG:=ak Xf (ak Ir (ak (aO h) (ak Tk (ak dF (ak vX (ak kBehind_ok AL))))))
abbrev DCM:=Md.Desk × Conf × Msg
def Rm(a:List AV):DCM:=(IP (AA a 0),JK (AA a 1),BI (AA a 2))
def Ku(p:DCM):List AV:=[.agg (AP p.1),.agg (CG p.2.1),.agg (Ac p.2.2)]
theorem afr(p:DCM):Rm (Ku p)=p:=Prod.ext (Jk p.1) (Prod.ext (SJ p.2.1) (C8 p.2.2))
def P9(w:Wrk):AV:=.tup [.agg (AP w.d),AG w.out]
def Fe(c:CallF)(w:Wrk)(m:Msg):Wrk:=
 bif decide (m.kind=5)then bif decide (m.dst=w.d.rep.self.node)&&(decide (m.shard=w.d.rep.shard)&&Co w.d.rep)then c.f w m else w
 else bif decide (m.kind=16)then bif Gi w m then IS w (Cx w.d.pump m).1 else w
 else Kt w m
def Kv(w:Wrk)(m:Msg):Wrk:=bif Co w.d.rep then GZ w m else w
def Kw(c:CallF)(p:DCM):Wrk:=Kv (Fe c (BY p.1 p.2.1) p.2.2) p.2.2
structure Rn(c:CallF)(w:Wrk)(m:Msg):Prop where
 kd:m.kind=5\/m.kind=8\/m.kind=10\/m.kind=16
 call:m.kind=5->m.dst=w.d.rep.self.node->m.shard=w.d.rep.shard->Co w.d.rep=true->c.p w m
 pm:m.kind=16->Nz w.d.pump
 oth:m.kind=8\/m.kind=10->VH w m
structure UH(c:CallF)(p:DCM):Prop where
 dk:MY p.1
 main:Rn c (BY p.1 p.2.1) p.2.2
 bh:Co (Fe c (BY p.1 p.2.1) p.2.2).d.rep=true->Jz (Fe c (BY p.1 p.2.1) p.2.2) p.2.2
theorem abt(d:Md.Desk)(k:Conf):HSub (N6 d k) (Bl (BY d k)):=.cons (.refl _) (.cons (.refl _) (.cons (.refl _) (.cons (.seq true 31 0 0 _ _ (Nat.le_refl _) fun i hi=>absurd hi (Nat.not_lt_zero i)) .nil)))
theorem iP{d:Md.Desk}{k:Conf}{m:Msg}{P:WM->Prop}(h:P (BY d k,m)){R:Type}{K:WM->Option R}:BF Gj P FN [.ptr 0 0 0,.agg (Ac m)] (N6 d k) K=K (BY d k,m):=BT (BY d k,m) (Prod.ext (by
  show Hf (N6 d k)=BY d k
  have:Hf (N6 d k)=Hf (Bl (BY d k)):=rfl
  rw[this,HM]) (C8 m)) h (.refl _) (abt d k)
theorem VK(w:Wrk):VJ w=some (P9 w):=by
 unfold VJ
 rw[Aq (Nat.le_refl _),Aq (Nat.le_refl _),Aq (Nat.le_refl _)];rfl
theorem JA(w:Wrk)(m:Msg)(h:Co w.d.rep=true->Jz w m):Mr w m=some (P9 (Kv w m)):=by
 unfold Mr Kv
 have q1:∀ {K:Rep->Option AV},gC CO EK CP [.agg (Ag w.d.rep)] K=K w.d.rep:=fun {K}=>Aw w.d.rep (B8 w.d.rep) trivial (.refl _)
 rw[q1]
 cases hh:Co w.d.rep with
 | false=>rw[cond_false,cond_false];exact VK w
 | true=>
  have q2:∀ {K:WM->Option AV},BF Gj (fun p=>Jz p.1 p.2) FN [.ptr 0 0 0,.agg (Ac m)] (Bl w) K=K (w,m):=fun {K}=>BT (w,m) (OD (w,m)) (h hh) (.refl _) (.refl _)
  rw[cond_true,cond_true,q2];exact VK _
theorem abu(d:Md.Desk)(k:Conf):∃ v,abr d=some v/\AR v (P9 (BY d k)):=by
 unfold abr
 rw[Aq (Nat.le_refl _),Aq (Nat.le_refl _)]
 exact⟨_,rfl,.tup (.cons (.refl _) (.cons (.trs fun i hi=>absurd hi (Nat.not_lt_zero i)) .nil))⟩
theorem Tv(d:Md.Desk)(k:Conf)(m:Msg)(h:Co d.rep=true->Jz (BY d k) m):∃ v,tail0 d k m=some v/\AR v (P9 (Kv (BY d k) m)):=by
 unfold tail0 Kv
 have q1:∀ {K:Rep->Option AV},gC CO EK CP [.agg (Ag d.rep)] K=K d.rep:=fun {K}=>Aw d.rep (B8 d.rep) trivial (.refl _)
 rw[q1]
 have e:(BY d k).d.rep=d.rep:=rfl
 rw[e]
 cases hh:Co d.rep with
 | false=>rw[cond_false,cond_false];exact abu d k
 | true=>rw[cond_true,cond_true,iP (h hh)];exact⟨_,VK _,.refl _⟩
theorem abv(c:CallF)(p:DCM)(h:UH c p):∃ v,Am (vY (VI c)) 9 Bi (Ku p)=some v/\AR v (P9 (Kw c p)):=by
 obtain⟨d,k,m⟩:=p
 obtain⟨hd,hm,hb⟩:=h
 have qd:∀ {K:Md.Desk->Option AV},aU d K=K d:=fun {K}=>Aw d (Jk d) hd (.refl _)
 have qh:∀ {K:Rep->Option AV},gC CO EK CP [.agg (Ag d.rep)] K=K d.rep:=fun {K}=>Aw d.rep (B8 d.rep) trivial (.refl _)
 unfold Kw
 dsimp only at hm hb ⊢
 rcases hm.kd with hk | hk | hk | hk
 ·have e:=hh5 c d k m
  rw[KP hk,qd,qh]at e
  have hmain:Fe c (BY d k) m=bif decide (m.dst=d.rep.self.node)&&(decide (m.shard=d.rep.shard)&&Co d.rep)then c.f (BY d k) m else BY d k:=by
   unfold Fe;rw[decide_eq_true hk];rfl
  rw[hmain]at hb ⊢
  by_cases h1:m.dst=d.rep.self.node
  ·rw[decide_eq_true h1,cond_true]at e
   rw[decide_eq_true h1,Bool.true_and]at hb ⊢
   by_cases h2:m.shard=d.rep.shard
   ·rw[decide_eq_true h2,cond_true]at e
    rw[decide_eq_true h2,Bool.true_and]at hb ⊢
    cases h3:Co d.rep with
    | false=>rw[h3,cond_false]at e;rw[h3,cond_false]at hb;rw[cond_false];obtain⟨v,e1,e2⟩:=Tv d k m hb;exact⟨v,e.trans e1,e2⟩
    | true=>
     rw[h3,cond_true,iP (hm.call hk h1 h2 h3)]at e
     rw[h3,cond_true]at hb
     rw[cond_true]
     exact⟨_,e.trans (JA _ m hb),.refl _⟩
   ·rw[decide_eq_false h2,cond_false]at e
    rw[decide_eq_false h2,Bool.false_and,cond_false]at hb ⊢
    obtain⟨v,e1,e2⟩:=Tv d k m hb;exact⟨v,e.trans e1,e2⟩
  ·rw[decide_eq_false h1,cond_false]at e
   rw[decide_eq_false h1,Bool.false_and,cond_false]at hb ⊢
   obtain⟨v,e1,e2⟩:=Tv d k m hb;exact⟨v,e.trans e1,e2⟩
 ·have e:=hh8 c d k m
  rw[KP hk,qd,iP (hm.oth (.inl hk))]at e
  have hmain:Fe c (BY d k) m=Kt (BY d k) m:=by
   unfold Fe;rw[decide_eq_false (show ¬ m.kind=5 by omega),decide_eq_false (show ¬ m.kind=16 by omega)];rfl
  rw[hmain]at hb ⊢
  exact⟨_,e.trans (JA _ m hb),.refl _⟩
 ·have e:=al1 c d k m
  rw[KP hk,qd,iP (hm.oth (.inr hk))]at e
  have hmain:Fe c (BY d k) m=Kt (BY d k) m:=by
   unfold Fe;rw[decide_eq_false (show ¬ m.kind=5 by omega),decide_eq_false (show ¬ m.kind=16 by omega)];rfl
  rw[hmain]at hb ⊢
  exact⟨_,e.trans (JA _ m hb),.refl _⟩
 ·have e:=al2 c d k m
  rw[KP hk,qd,iP trivial]at e
  have hmain:Fe c (BY d k) m=bif Gi (BY d k) m then IS (BY d k) (Cx d.pump m).1 else BY d k:=by
   unfold Fe;rw[decide_eq_false (show ¬ m.kind=5 by omega),decide_eq_true hk];rfl
  rw[hmain]at hb ⊢
  cases hf:Gi (BY d k) m with
  | false=>rw[hf,cond_false]at e hb;rw[cond_false];exact⟨_,e.trans (JA _ m hb),.refl _⟩
  | true=>
   rw[hf,cond_true]at e hb
   rw[cond_true]
   have qp:∀ {K:PM->Option AV},gC (fun a=>(De (AA a 0),BI (AA a 1))) (fun p=>Nz p.1) ePM [.agg (Bg (BY d k).d.pump),.agg (Ac m)] K=K (d.pump,m):=fun {K}=>Aw (d.pump,m) (Prod.ext (HK _) (C8 _)) (hm.pm hk) (.refl _)
   dsimp only at e
   rw[qp]at e
   exact⟨_,e.trans (JA _ m hb),.refl _⟩
theorem abw(c:CallF)(hc:c.Ok)(p:DCM)(h:UH c p):Aa PG Bi (Ku p) [] (P9 (Kw c p)) []:=by
 obtain⟨v,e,hs⟩:=abv c p h
 exact(BQ (afq hc) e).res hs
def N7(w:Wrk)(I:Nat)(a:Md.Ask):Heap:=[.arr true 44 [HQ w (.sn 4 5 w.d.waits.length) (.sn 3 6 w.d.asks.length) (.sn 31 8 w.out.length)],.dead,.dead,.dead,.dead,.seq true 4 w.d.waits.length (D5 w.d.waits),.sqr true 3 w.d.asks.length (B5 w.d.asks) I (KU a 7 a.calls.length) [7] false,.seq true 31 a.calls.length (BX a.calls),.seq true 31 w.out.length (BX w.out)]
def nP(w:Wrk)(I:Nat)(a:Md.Ask)(k:Txt):Option (AV × Heap):=gC MR GR KQ [Al w.d.clean,.str k] fun y=>some (.tup [.agg (Af (ED y).1),.bool (ED y).2.2],N7 (Hh w (ED y).2.1) I a)
theorem aii(w:Wrk)(I:Nat)(a:Md.Ask)(k:Txt):BA 1 (eFi [UA,aaw]) 9 CZ [.ptr 0 0 0,.str k] (Gm w I a false) =
 gC uL (fun p=>p.1.log.length<=100000) uM [.agg (AJ w.d.rep.tail),.str k] fun y=>bif(Dt y.1 y.2).2 then some (.tup [.agg (Af (Dt y.1 y.2).1),.bool true],N7 w I a)else
  bif w.isRead then bif Ah w.just.key k then some (.tup [.agg (Af w.just),.bool true],N7 w I a)else nP w I a k else nP w I a k:=by kernel_rfl
theorem vZ(w:Wrk)(I:Nat)(a:Md.Ask)(k:Txt)(h:M1 w):Aa PG CZ [.ptr 0 0 0,.str k] (Gm w I a false) (.tup [.agg (Af (A4 w k).1),.bool (A4 w k).2.1]) (N7 (A4 w k).2.2 I a)/\(Gm w I a false).length<=(N7 (A4 w k).2.2 I a).length:=by
 refine conC (ak Re (ak gR AL)) (c:=1) (n:=9) (by show 1<=5;omega) ((aii w I a k).trans ?_)
 have hg:nP w I a k=some (.tup [.agg (Af (ED (w.d.clean,k)).1),.bool (ED (w.d.clean,k)).2.2],N7 (Hh w (ED (w.d.clean,k)).2.1) I a):=Aw (w.d.clean,k) (Sc (w.d.clean,k)) h.2 (.refl _)
 rw[aH h.1,hg]
 unfold A4
 cases h1:(Dt w.d.rep.tail k).2 with
 | true=>rw[cond_true,cond_true]
 | false=>
  rw[cond_false,cond_false]
  cases h2:w.isRead with
  | false=>rfl
  | true=>
   cases h3:Ah w.just.key k with
   | true=>rfl
   | false=>rfl
def aV(f:Nat)(p:Prop)(A:List AV)(H:Heap)(r:AV)(H':Heap):Known:=.specG f (fun _ _=>()) (fun _=>p) (fun _=>(A,H)) (fun _=>(r,H'))
theorem Sq{f:Nat}{p:Prop}{A:List AV}{H:Heap}{r:AV}{H':Heap}(h:p->Aa PG f A H r H'/\H.length<=H'.length):(aV f p A H r H').Ok PG:=Known.specG_ok fun _ hp=>h hp
def wA(w:Wrk)(I:Nat)(a:Md.Ask)(k:Txt):Known:=aV CZ (M1 w) [.ptr 0 0 0,.str k] (Gm w I a false) (.tup [.agg (Af (A4 w k).1),.bool (A4 w k).2.1]) (N7 (A4 w k).2.2 I a)
def adx(w:Wrk)(I:Nat)(a:Md.Ask)(q:Msg):Known:=aV BR (UC w I q/\w.d.asks.getD I default=a) [.ptr 0 0 0,.agg (Ac q)] (Gm w I a false) (.tup []) (Kp (M0 w I q))
theorem wC(w:Wrk)(I:Nat)(a:Md.Ask)(k:Txt):(wA w I a k).Ok PG:=Sq (vZ w I a k)
theorem abx(w:Wrk)(I:Nat)(a:Md.Ask)(q:Msg):(adx w I a q).Ok PG:=Sq fun h=>by rw[<- h.2];exact uR w I q h.1
def wD(f:Nat):Known:=⟨f,fun _ _=>some {X:=Unit,g:=false,a:=(),r:=fun _=>(.undef,[])}⟩
theorem UI(f:Nat):(wD f).Ok PG:=fun args hp A e hg=>by cases e;cases hg
def al3(l:List Known):Env:=BU [] [(CZ,5),(BR,5),(B6,5),(Io,0),(Hr,0),(IK,0)] [] l
def ady(w:Wrk)(I:Nat)(a:Md.Ask)(m:Msg):List Known:=[ZD,Vu,wA w I a m.op.key,adx (A4 w m.op.key).2.2 I a m,wD IK]
def gFB(w:Wrk)(I:Nat)(a:Md.Ask)(m:Msg):Option (AV × Heap):=BF (fun _ _=>()) (fun _=>M1 w) (fun _=>([.ptr 0 0 0,.str m.op.key],Gm w I a false)) [.ptr 0 0 0,.str m.op.key] (Gm w I a false) fun _=>
 bif !(A4 w m.op.key).2.1 then BF (fun _ _=>()) (fun _=>UC (A4 w m.op.key).2.2 I m/\(A4 w m.op.key).2.2.d.asks.getD I default=a) (fun _=>([.ptr 0 0 0,.agg (Ac m)],Gm (A4 w m.op.key).2.2 I a false)) [.ptr 0 0 0,.agg (Ac m)] (Gm (A4 w m.op.key).2.2 I a false) fun _=>some (.tup [],Kp (M0 (A4 w m.op.key).2.2 I m))else none
theorem aij(w:Wrk)(I:Nat)(a:Md.Ask)(m:Msg):BA 1 (al3 (ady w I a m)) 9 B6 [.ptr 0 0 0,.agg (Ac m)] (Gm w I a false) =
 gC (fun a=>Ar a 0) (fun _=>True) (fun k=>[.int .i64 k]) [.int .i64 m.op.kind] fun y=>bif MS y then
  bif !w.d.busy then gFB w I a m else gC (fun a=>Ar a 0) (fun _=>True) (fun k=>[.int .i64 k]) [.int .i64 m.op.kind] fun y=>bif !GU y then gFB w I a m else none
 else none:=by kernel_rfl
structure X1(w:Wrk)(I:Nat)(m:Msg):Prop where
 first:CV w m=true
 fi:M1 w
 no:(A4 w m.op.key).2.1=false
 takes:UC (A4 w m.op.key).2.2 I m
theorem Ms(w:Wrk)(k:Txt):(A4 w k).2.2.d.asks=w.d.asks:=by
 unfold A4
 cases (Dt w.d.rep.tail k).2 with
 | true=>rfl
 | false=>
  rw[cond_false]
  cases w.isRead&&Ah w.just.key k with
  | true=>rfl
  | false=>rfl
def IB(w:Wrk)(I:Nat)(m:Msg):Wrk:=M0 (A4 w m.op.key).2.2 I m
theorem nQ(w:Wrk)(I:Nat)(m:Msg)(h:X1 w I m):Aa PG B6 [.ptr 0 0 0,.agg (Ac m)] (Gm w I (w.d.asks.getD I default) false) (.tup []) (Kp (IB w I m))/\(Gm w I (w.d.asks.getD I default) false).length<=(Kp (IB w I m)).length:=by
 obtain⟨h1,h2,h3,h4⟩:=h
 refine conC (l:=ady w I (w.d.asks.getD I default) m) (ak WW (ak Un (ak (wC _ _ _ _) (ak (abx _ _ _ _) (ak (UI _) AL))))) (c:=1) (n:=9) (by show 1<=5;omega) ((aij w I _ m).trans ?_)
 have qk:∀ {K:Int->Option (AV × Heap)},gC (fun a=>Ar a 0) (fun _=>True) (fun k=>[.int .i64 k]) [.int .i64 m.op.kind] K=K m.op.kind:=fun {K}=>Aw m.op.kind rfl trivial (.refl _)
 have hF:gFB w I (w.d.asks.getD I default) m=some (.tup [],Kp (IB w I m)):=by
  unfold gFB
  refine(BT () rfl h2 (.refl _) (.refl _)).trans ?_
  rw[h3,Bool.not_false,cond_true]
  exact BT () rfl ⟨h4,by rw[Ms]⟩ (.refl _) (.refl _)
 unfold CV at h1
 obtain⟨g1,g2⟩:=Ad h1
 rw[qk,qk,g1,cond_true]
 cases hb:w.d.busy with
 | false=>rw[Bool.not_false,cond_true];exact hF
 | true=>
  rw[hb]at g2
  have g3:(!GU m.op.kind)=true:=by simpa using g2
  rw[Bool.not_true,cond_false,g3,cond_true];exact hF
def iQ(w:Wrk)(I:Nat)(a:Md.Ask)(m:Msg):Known:=aV B6 (X1 w I m/\w.d.asks.getD I default=a) [.ptr 0 0 0,.agg (Ac m)] (Gm w I a false) (.tup []) (Kp (IB w I m))
theorem nR(w:Wrk)(I:Nat)(a:Md.Ask)(m:Msg):(iQ w I a m).Ok PG:=Sq fun h=>by rw[<- h.2];exact nQ w I m h.1
def al4(l:List Known):Env:=BU [] [(Ci,5),(Cz,5),(Di,5),(B6,5),(Il,0),(Ea,0),(Fm,0),(Lr,0),(EC,0)] [] l
def adz(w:Wrk)(I:Nat)(a:Md.Ask)(m:Msg):List Known:=[iQ w I a m,ZE,Up,mD,Vo,wD Cz,wD Di,wD EC]
def UJ(w:Wrk)(I:Nat)(a:Md.Ask)(m:Msg):Option (AV × Heap):=gC Np Au Nq [eV w.d.rep.tail.last] fun y=>
 bif decide (w.c.maxSeq<=(nu y:Int))then none else BF (fun _ _=>()) (fun _=>X1 w I m/\w.d.asks.getD I default=a) (fun _=>([.ptr 0 0 0,.agg (Ac m)],Gm w I a false)) [.ptr 0 0 0,.agg (Ac m)] (Gm w I a false) fun _=>some (.tup [],Kp (IB w I m))
def aW(w:Wrk)(I:Nat)(a:Md.Ask)(m:Msg)(known:Bool):Option (AV × Heap):=
 bif decide (w.c.maxLog<=(w.d.rep.tail.log.length:Int))then some (.tup [],N7 w I a)else
 bif !known then bif decide (w.c.sessions<=(w.d.rep.seen.length:Int))then some (.tup [],N7 w I a)else UJ w I a m else UJ w I a m
theorem aik(w:Wrk)(I:Nat)(a:Md.Ask)(m:Msg):BA 1 (al4 (adz w I a m)) 9 Ci [.ptr 0 0 0,.agg (Ac m)] (Gm w I a false) =
 bif decide (m.gen<w.d.rep.view.gen)then none else
 gC (fun a=>(R0 (AA a 0),JK (AA a 1))) (fun _=>True) gU [.agg (JZ m.op),.agg (CG w.c)] fun y=>
 bif !decide (Dp y.1 y.2=0)then none else
 gC Uo (fun p=>FM p.1) Ny [Ax w.d.rep.seen,.int .i64 m.sess] fun z=>
 gC (fun a=>(AN BZ (a.getD 0 .nils),Ar a 1,Ar a 2)) (fun p=>FM p.1) Vv [Ax w.d.rep.seen,.int .i64 m.sess,.int .i64 m.num] fun v=>
 bif decide (Kf v.1 v.2.1 v.2.2=1)then none else
 bif decide (Kf v.1 v.2.1 v.2.2=2)then some (.tup [],N7 w I a)else aW w I a m (Bt z.1 z.2).2:=by kernel_rfl
structure X2(w:Wrk)(I:Nat)(m:Msg):Prop where
 goes:Kr w m=true
 seen:FM w.d.rep.seen
 last:Au w.d.rep.tail.last
 fr:X1 w I m
theorem wE(w:Wrk)(I:Nat)(m:Msg)(h:X2 w I m):Aa PG Ci [.ptr 0 0 0,.agg (Ac m)] (Gm w I (w.d.asks.getD I default) false) (.tup []) (Kp (IB w I m))/\(Gm w I (w.d.asks.getD I default) false).length<=(Kp (IB w I m)).length:=by
 refine conC (l:=adz w I (w.d.asks.getD I default) m) (ak (nR _ _ _ _) (ak WX (ak Pw (ak ZH (ak Ow (ak (UI _) (ak (UI _) (ak (UI _) AL)))))))) (c:=1) (n:=9) (by show 1<=5;omega) ((aik w I _ m).trans ?_)
 have qc:∀ {K:OC->Option (AV × Heap)},gC (fun a=>(R0 (AA a 0),JK (AA a 1))) (fun _=>True) gU [.agg (JZ m.op),.agg (CG w.c)] K=K (m.op,w.c):=fun {K}=>Aw (m.op,w.c) rfl trivial (.refl _)
 have qv:∀ {K:SII->Option (AV × Heap)},gC (fun a=>(AN BZ (a.getD 0 .nils),Ar a 1,Ar a 2)) (fun p=>FM p.1) Vv [Ax w.d.rep.seen,.int .i64 m.sess,.int .i64 m.num] K=K (w.d.rep.seen,m.sess,m.num):=fun {K}=>Aw (w.d.rep.seen,m.sess,m.num) (Prod.ext (EB _) rfl) h.seen (.refl _)
 have qn:∀ {K:Ver->Option (AV × Heap)},gC Np Au Nq [eV w.d.rep.tail.last] K=K w.d.rep.tail.last:=fun {K}=>Aw _ rfl h.last (.refl _)
 obtain⟨g1,g⟩:=Ad h.goes
 obtain⟨g2,g⟩:=Ad g
 obtain⟨g3,g⟩:=Ad g
 obtain⟨g4,g⟩:=Ad g
 obtain⟨g5,g6⟩:=Ad g
 simp only[Bool.not_eq_true']at g1 g3 g4 g5 g6
 have e:Kf w.d.rep.seen m.sess m.num=HY w m:=rfl
 rw[qc,Uq h.seen,qv,g1,cond_false]
 dsimp only
 rw[g2,e,g3,g4]
 have h2:UJ w I (w.d.asks.getD I default) m=some (.tup [],Kp (IB w I m)):=by
  unfold UJ
  rw[qn,g6,cond_false]
  exact BT () rfl ⟨h.fr,rfl⟩ (.refl _) (.refl _)
 show aW w I (w.d.asks.getD I default) m (Bt w.d.rep.seen m.sess).2=_
 unfold HX at g5
 unfold aW
 rw[Bool.or_eq_false_iff]at g5
 rw[g5.1,cond_false]
 cases h6:(Bt w.d.rep.seen m.sess).2 with
 | true=>rw[Bool.not_true,cond_false];exact h2
 | false=>
  rw[h6]at g5
  have h7:decide (w.c.sessions<=(w.d.rep.seen.length:Int))=false:=by simpa using g5.2
  rw[Bool.not_false,cond_true,h7,cond_false];exact h2
end Go.Hd
end
noncomputable section
open Go Go.AM Go.Md
namespace Go.Hd
open Go.Wk
set_option maxRecDepth 100000
set_option maxHeartbeats 400000
def eHx(l:List Known):Env:=BU [] [(Bi,0),(BV,5),(Eh,0),(Ci,5),(Dh,5)] [(Bi,2,[31007038])] l
def wF(d:Md.Desk)(I:Nat):Known:=.specB BV (fun _=>()) (fun _=>MY d/\I<d.asks.length) (fun _=>[.agg (AP d)]) (fun _=>(.agg (Ej 0 d),abd d I (d.asks.getD I default)))
theorem wG(d:Md.Desk)(I:Nat):(wF d I).Ok PG:=Known.specB_ok fun _ h=>uU d I h.1 h.2
def wH(w:Wrk)(I:Nat)(a:Md.Ask)(m:Msg):Known:=aV Ci (X2 w I m/\w.d.asks.getD I default=a) [.ptr 0 0 0,.agg (Ac m)] (Gm w I a false) (.tup []) (Kp (IB w I m))
theorem wI(w:Wrk)(I:Nat)(a:Md.Ask)(m:Msg):(wH w I a m).Ok PG:=Sq fun h=>by rw[<- h.2];exact wE w I m h.1
def ail(d:Md.Desk)(k:Conf)(I:Nat)(m:Msg):List Known:=[wF d I,Mn,wH (BY d k) I (d.asks.getD I default) m,kBehind]
def aim(d:Md.Desk)(k:Conf)(I:Nat)(a:Md.Ask):Heap:=[.arr true 44 [HQ (BY d k) (.sn 4 1 d.waits.length) (.sn 3 2 d.asks.length) (.sn 31 4 0)],.seq true 4 d.waits.length (D5 d.waits),.sqr true 3 d.asks.length (B5 d.asks) I (KU a 3 a.calls.length) [3] false,.seq true 31 a.calls.length (BX a.calls),.seq true 31 0 fun _=>[]]
def gDx(d:Md.Desk)(I:Nat)(K:Option AV):Option AV:=gC (fun _=>()) (fun _=>MY d/\I<d.asks.length) (fun _=>[.agg (AP d)]) [.agg (AP d)] fun _=>K
def gCx(d:Md.Desk)(k:Conf)(I:Nat)(m:Msg)(K:Option AV):Option AV:=BF (fun _ _=>()) (fun _=>X2 (BY d k) I m/\(BY d k).d.asks.getD I default=d.asks.getD I default) (fun _=>([.ptr 0 0 0,.agg (Ac m)],Gm (BY d k) I (d.asks.getD I default) false)) [.ptr 0 0 0,.agg (Ac m)] (aim d k I (d.asks.getD I default)) fun _=>K
def al5(d:Md.Desk)(k:Conf)(I:Nat)(m:Msg):Option AV:=Bp (.tup [.agg (Ej 4 d),.sn 31 8 0]) [.arr true 23 [AP d],.arr true 15 [CG k],.arr true 31 [Ac m],.arr true 23 [Ej 4 d],.seq true 4 d.waits.length (D5 d.waits),
 .sqr true 3 d.asks.length (B5 d.asks) I (KU (d.asks.getD I default) 6 (d.asks.getD I default).calls.length) [6] false,.seq true 31 (d.asks.getD I default).calls.length (BX (d.asks.getD I default).calls),.arr true 44 [HQ (BY d k) (.sn 4 4 d.waits.length) (.sn 3 5 d.asks.length) (.sn 31 8 0)],.seq true 31 0 fun _=>[]]
def nT(d:Md.Desk)(k:Conf)(I:Nat)(m:Msg):Option AV:=gC CO EK CP [.agg (Ag d.rep)] fun r=>bif Co r then BF Gj (fun p=>Jz p.1 p.2) FN [.ptr 0 0 0,.agg (Ac m)] (aim d k I (d.asks.getD I default)) fun q=>VJ (GZ q.1 q.2)else al5 d k I m
theorem hhx(d:Md.Desk)(k:Conf)(I:Nat)(m:Msg):Am (eHx (ail d k I (Dl m 5))) 9 Bi [.agg (AP d),.agg (CG k),.agg (Ac (Dl m 5))] =
 gDx d I (bif decide (m.dst=d.rep.self.node)then bif decide (m.shard=d.rep.shard)then gC CO EK CP [.agg (Ag d.rep)] fun r=>bif Co r then
   gCx d k I (Dl m 5) (Mr (IB (BY d k) I (Dl m 5)) (Dl m 5))
  else nT d k I (Dl m 5)else nT d k I (Dl m 5)else nT d k I (Dl m 5)):=by kernel_rfl
def IY(p:DCM):Nat:=Iy (BY p.1 p.2.1) p.2.2.op.key
structure IC(p:DCM):Prop where
 kd:p.2.2.kind=5
 dst:p.2.2.dst=p.1.rep.self.node
 shard:p.2.2.shard=p.1.rep.shard
 head:Co p.1.rep=true
 goes:Kr (BY p.1 p.2.1) p.2.2=true
 first:CV (BY p.1 p.2.1) p.2.2=true
 no:(A4 (BY p.1 p.2.1) p.2.2.op.key).2.1=false
 ix:IY p<p.1.asks.length
 room:((p.1.asks.getD (IY p) default).calls.length:Int)<p.2.1.maxLog
def Sr(p:DCM):Wrk:=IB (BY p.1 p.2.1) (IY p) p.2.2
structure aX(p:DCM):Prop where
 dk:MY p.1
 seen:FM p.1.rep.seen
 last:Au p.1.rep.tail.last
 fi:M1 (BY p.1 p.2.1)
 calls:(p.1.asks.getD (IY p) default).calls.length<=100000
 ms:I7 p.2.2
 bh:Co (Sr p).d.rep=true->Jz (Sr p) p.2.2
theorem UK(w:Wrk)(k:Txt):(A4 w k).2.2.c=w.c:=by
 unfold A4
 cases (Dt w.d.rep.tail k).2 with
 | true=>rfl
 | false=>
  rw[cond_false]
  cases w.isRead&&Ah w.just.key k with
  | true=>rfl
  | false=>rfl
theorem aby(p:DCM)(ht:IC p)(h:aX p):Aa PG Bi (Ku p) [] (P9 (Kv (Sr p) p.2.2)) []:=by
 obtain⟨d,k,m⟩:=p
 have e:=hhx d k (IY (d,k,m)) m
 have hk:m.kind=5:=ht.kd
 have hd:m.dst=d.rep.self.node:=ht.dst
 have hs:m.shard=d.rep.shard:=ht.shard
 have hh:Co d.rep=true:=ht.head
 have hix:IY (d,k,m)<d.asks.length:=ht.ix
 have q1:∀ {K:Option AV},gDx d (IY (d,k,m)) K=K:=fun {K}=>Aw () rfl ⟨h.dk,hix⟩ (.refl _)
 have qh:∀ {K:Rep->Option AV},gC CO EK CP [.agg (Ag d.rep)] K=K d.rep:=fun {K}=>Aw d.rep (B8 d.rep) trivial (.refl _)
 have hkey:∀ j,j<=IY (d,k,m) -> ∃ x,d.asks.getD j default=x/\(Ah x.key m.op.key=true ↔ j=IY (d,k,m)):=by
  intro j hj
  have hj':j<d.asks.length:=by omega
  have hg:d.asks.getD j default=d.asks[j]:=by simp[List.getD,hj']
  refine⟨_,rfl,fun hx=>?_,fun hx=>?_⟩
  ·rcases Nat.lt_or_ge j (IY (d,k,m))with hlt | hge
   ·have:=List.not_of_lt_findIdx (p:=Tu m.op.key) (xs:=d.asks) (i:=j) hlt
    rw[hg]at hx
    exact absurd hx (by simpa [Tu] using this)
   ·omega
  ·subst hx
   rw[hg]
   exact List.findIdx_getElem (p:=Tu m.op.key) (xs:=d.asks) (w:=hix)
 have hT:UC (A4 (BY d k) m.op.key).2.2 (IY (d,k,m)) m:=by
  have ea:(A4 (BY d k) m.op.key).2.2.d.asks=d.asks:=Ms _ _
  have ec:(A4 (BY d k) m.op.key).2.2.c=k:=UK _ _
  refine⟨by rw[ea];exact hix,?_,fun j hj=>?_,by rw[ea,ec];exact ht.room,by rw[ea];exact h.calls,by rw[ea];exact h.dk.2.2.2.2.2.1,h.ms⟩
  ·rw[ea]
   obtain⟨x,hx,hi⟩:=hkey _ (Nat.le_refl _)
   have:=hi.2 rfl
   rw[hx]
   rw[A7]at this
   simpa using this
  ·rw[ea]
   obtain⟨x,hx,hi⟩:=hkey j (by omega)
   rw[hx]
   intro hc
   have:=hi.1 (by rw[A7];simpa using hc)
   omega
 have hcl:X2 (BY d k) (IY (d,k,m)) m:=⟨ht.goes,h.seen,h.last,⟨ht.first,h.fi,ht.no,hT⟩⟩
 have q2:∀ {K:Option AV},gCx d k (IY (d,k,m)) m K=K:=fun {K}=>by
  refine BT () rfl ⟨hcl,rfl⟩ (.refl _) ?_
  exact .cons (.refl _) (.cons (.refl _) (.cons (.refl _) (.cons (.refl _) (.cons (.seq true 31 0 0 _ _ (Nat.le_refl _) fun i hi=>absurd hi (Nat.not_lt_zero i)) .nil))))
 rw[KP hk,q1,qh,decide_eq_true hd,decide_eq_true hs,hh,cond_true,cond_true,cond_true,q2]at e
 have e2:=e.trans (JA _ m h.bh)
 exact BQ (l:=ail d k (IY (d,k,m)) m) (ak (wG _ _) (ak Ir (ak (wI _ _ _ _) (ak kBehind_ok AL)))) e2
open Classical in
def DZ(p:DCM):Wrk:=if IC p then Kv (Sr p) p.2.2 else Kw IA p
def E4(p:DCM):Prop:=(IC p->aX p)/\(¬ IC p->UH IA p)
theorem Xo(p:DCM)(h:E4 p):Aa PG Bi (Ku p) [] (P9 (DZ p)) []:=by
 unfold DZ
 by_cases ht:IC p
 ·rw[if_pos ht];exact aby p ht (h.1 ht)
 ·rw[if_neg ht];exact abw IA aid p (h.2 ht)
def N8:Known:=.spec Bi Rm E4 Ku (fun p=>P9 (DZ p))
theorem OJ:N8.Ok PG:=Known.spec_ok Xo
end Go.Hd
end
noncomputable section
open Go Go.AM Go.Md
namespace Go.Hd
open Go.Wk
set_option maxRecDepth 100000
set_option maxHeartbeats 400000
def PI(m:Msg)(a:Md.Ask):Bool:=decide (a.num=m.num)&&Ah a.key m.key
def HZ(w:Wrk)(m:Msg):Nat:=w.d.asks.findIdx (PI m)
def VL(w:Wrk)(m:Msg)(i:Nat):Wrk:=Hh (XY (Rl w (w.d.asks.eraseIdx i)) m) (putP (w.d.clean,I8 m,w.c.room))
def PJ(c:CallF)(w:Wrk)(m:Msg):Wrk:=bif Gi w m&&(HZ w m).blt w.d.asks.length then GY c (VL w m (HZ w m)) (w.d.asks.getD (HZ w m) default).calls else w
structure UL(c:CallF)(w:Wrk)(m:Msg):Prop where
 asks:w.d.asks.length<=100000
 hit:Gi w m=true->HZ w m<w.d.asks.length->LJ (w.d.clean,I8 m,w.c.room)/\(w.d.asks.getD (HZ w m) default).calls.length<=100000/\Fp c (VL w m (HZ w m)) (w.d.asks.getD (HZ w m) default).calls
theorem afs{c:CallF}(h:c.Ok):∀ k ∈ abn c,k.Ok PG:=ak Tk (ak aN (ak gN (ak (UE h) AL)))
theorem afu(c:CallF)(hc:c.Ok)(w:Wrk)(m:Msg)(h:UL c w m):Aa PG Du [.ptr 0 0 0,.agg (Ac m)] (Bl w) (.tup []) (BG (PJ c w m)):=by
 obtain⟨N,hN⟩:∃ N,N=200000:=⟨_,rfl⟩
 have hl:=h.asks
 refine(conC (afs hc) (c:=1) (n:=N+1) (by show 1<=4;omega) ((akH c N w m).trans ?_)).1
 have q0:∀ {K:WM->Option (AV × Heap)},BF Gj (fun _=>True) FN [.ptr 0 0 0,.agg (Ac m)] (Bl w) K=K (w,m):=fun {K}=>BT (w,m) (OD (w,m)) trivial (.refl _) (.refl _)
 rw[q0]
 dsimp only
 unfold PJ
 cases hf:Gi w m with
 | false=>rfl
 | true=>
  rw[Bool.not_true,cond_false,Bool.true_and]
  have run:∀ (d i k:Nat),i+d=w.d.asks.length->d<k->(∀ j,j<i->PI m (w.d.asks.getD j default)=false) ->
    iN c w m N k (i:Nat)=some (.tup [],BG (bif(HZ w m).blt w.d.asks.length then GY c (VL w m (HZ w m)) (w.d.asks.getD (HZ w m) default).calls else w)):=by
   intro d
   induction d with
   | zero=>
    intro i k hi hk hno
    obtain⟨k,rfl⟩:∃ j,k=j+1:=⟨k - 1,by omega⟩
    have hix:HZ w m=w.d.asks.length:=by
     unfold HZ
     refine List.findIdx_eq_length.2 fun x hx=>?_
     obtain⟨j,hj,rfl⟩:=List.getElem_of_mem hx
     have:=hno j (by omega)
     rw[show w.d.asks.getD j default=w.d.asks[j] by simp[List.getD,hj]]at this
     exact this
    rw[adv,decide_eq_false (by omega),cond_false,hix,CI (Nat.le_refl _),cond_false]
   | succ d ih=>
    intro i k hi hk hno
    obtain⟨k,rfl⟩:∃ j,k=j+1:=⟨k - 1,by omega⟩
    have hil:i<w.d.asks.length:=by omega
    have hw:IntKind.i64.wrap ((i:Int)+1)=((i+1:Nat):Int):=Bz (by omega)
    have hg:w.d.asks.getD i default=w.d.asks[i]:=by simp[List.getD,hil]
    have next:PI m (w.d.asks.getD i default)=false->iN c w m N k ((i+1:Nat):Int)=_:=fun hh=>ih (i+1) k (by omega) (by omega) fun j hj=>by
     by_cases hji:j<i
     ·exact hno j hji
     ·rw[show j=i by omega];exact hh
    rw[adv,decide_eq_true (show((i:Nat):Int)<(w.d.asks.length:Int) by omega),cond_true,Bq hil,Int.toNat_natCast,AB hil,cond_true,hw]
    cases h1:decide ((w.d.asks.getD i default).num=m.num)with
    | false=>rw[Bool.not_false,cond_true];exact next (by unfold PI;rw[h1];rfl)
    | true=>
     cases h2:Ah (w.d.asks.getD i default).key m.key with
     | false=>rw[Bool.not_true,cond_false,Bool.not_false,cond_true];exact next (by unfold PI;rw[h1,h2];rfl)
     | true=>
      have hh:PI m (w.d.asks.getD i default)=true:=by unfold PI;rw[h1,h2];rfl
      have hix:HZ w m=i:=by
       unfold HZ
       refine(List.findIdx_eq hil).2 ⟨by rw[<- hg];exact hh,fun j hj=>?_⟩
       have:=hno j hj
       rw[show w.d.asks.getD j default=w.d.asks[j] by simp[List.getD,show j<w.d.asks.length by omega]]at this
       exact this
      have hk2:=h.hit hf
      rw[hix]at hk2
      obtain⟨p1,p2,p3⟩:=hk2 hil
      have q1:∀ {K:LI->Option (AV × Heap)},BF iK (fun p=>p.2<p.1.length/\p.1.length<=100000) aM [.sn 3 0 w.d.asks.length,.int .i64 (i:Int),.int .i64 ((i+1:Nat):Int)] [.seq true 3 w.d.asks.length (B5 w.d.asks)] K=K (w.d.asks,i):=fun {K}=>
       BT (w.d.asks,i) (uV (w.d.asks,i)) ⟨hil,hl⟩ (.refl _) (.refl _)
      have q2:∀ {K:LX->Option (AV × Heap)},gC (fun a=>(AN Bd (a.getD 0 .nils),Bd (AA a 1),Ar a 2)) LJ QT [Al w.d.clean,.agg (Af (I8 m)),.int .i64 w.c.room] K=K (w.d.clean,I8 m,w.c.room):=fun {K}=>
       Aw (w.d.clean,I8 m,w.c.room) (Prod.ext (E1 _) rfl) p1 (.refl _)
      have q3:∀ {W:Wrk} {l:List Msg} {K:Wrk × List Msg->Option (AV × Heap)},l.length<=100000->Fp c W l->BF (fun a h=>(Hf h,AN BI (a.getD 1 .nils))) (fun p=>p.2.length<=100000/\Fp c p.1 p.2) (fun p=>([.ptr 0 0 0,AG p.2],Bl p.1)) [.ptr 0 0 0,AG l] (Bl W) K=K (W,l):=fun {W l K} h1 h2=>
       BT (W,l) (Prod.ext (HM W) (R1 l)) ⟨h1,h2⟩ (.refl _) (.refl _)
      rw[Bool.not_true,cond_false,cond_false,q1,q2]
      dsimp only
      have e0:Hh (XY (Rl w (w.d.asks.eraseIdx i)) m) (putP (w.d.clean,I8 m,w.c.room))=VL w m i:=rfl
      rw[e0,q3 p2 p3,hix,AB hil,cond_true]
  exact run w.d.asks.length 0 N (by omega) (by omega) fun j hj=>absurd hj (Nat.not_lt_zero j)
def ain(c:CallF):Known:=.specG Du Gj (fun p=>UL c p.1 p.2) FN (fun p=>(.tup [],BG (PJ c p.1 p.2)))
theorem afv{c:CallF}(h:c.Ok):(ain c).Ok PG:=Known.specG_ok fun p hp=>⟨afu c h p.1 p.2 hp,by show 4<=7;omega⟩
def eHv(l:List Known):Env:=BU [] [(Bi,0),(BV,5),(Eh,0),(Du,5),(Dh,5)] [(Bi,2,[31006038])] l
def aio(c:CallF):List Known:=[ZZ,Mn,ain c,kBehind]
theorem afw{c:CallF}(h:c.Ok):∀ k ∈ aio c,k.Ok PG:=ak Xf (ak Ir (ak (afv h) (ak kBehind_ok AL)))
theorem al6(c:CallF)(d:Md.Desk)(k:Conf)(m:Msg):Am (eHv (aio c)) 9 Bi [.agg (AP d),.agg (CG k),.agg (Ac (Dl m 18))] =
 aU d fun y=>BF Gj (fun p=>UL c p.1 p.2) FN [.ptr 0 0 0,.agg (Ac (Dl m 18))] (N6 y k) fun q=>Mr (PJ c q.1 q.2) (Dl m 18):=by kernel_rfl
def nU(p:DCM):Wrk:=Kv (PJ Iz (BY p.1 p.2.1) p.2.2) p.2.2
structure abz(p:DCM):Prop where
 kd:p.2.2.kind=18
 dk:MY p.1
 val:UL Iz (BY p.1 p.2.1) p.2.2
 bh:Co (PJ Iz (BY p.1 p.2.1) p.2.2).d.rep=true->Jz (PJ Iz (BY p.1 p.2.1) p.2.2) p.2.2
theorem wJ(p:DCM)(h:abz p):Aa PG Bi (Ku p) [] (P9 (nU p)) []:=by
 obtain⟨d,k,m⟩:=p
 obtain⟨hk,hd,hv,hb⟩:=h
 have e:=al6 Iz d k m
 have qd:∀ {K:Md.Desk->Option AV},aU d K=K d:=fun {K}=>Aw d (Jk d) hd (.refl _)
 rw[KP hk,qd,iP hv]at e
 exact BQ (afw vQ) (e.trans (JA _ m hb))
end Go.Hd
end
noncomputable section
open Go Go.AM Go.Md
namespace Go.Hd
open Go.Wk
set_option maxRecDepth 100000
def K1:Conf:=⟨1,1,1,3,4,8,20,8,12,8,2,3,0,0,30⟩
def tx(t:Txt):Prop:=t.length<=2000
theorem LN{n:Int}(h0:-1000000<=n)(h1:n<=1000000):GL n:=by unfold GL;omega
theorem Tw(n:Int):GL (IntKind.i64.wrap n):=by
 rw[IntKind.wrap_i64];unfold GL;omega
def v1(n:Nat):Ver:=vr 1 n
theorem Hu{n:Nat}(h:n<=1000):Au (v1 n):=⟨1,n,by omega,by omega,rfl⟩
theorem nV{n:Nat}(h:n<=1000):nu (v1 n)=n:=R2 (by omega)
theorem Mt{a b:Nat}(ha:a<=1000)(hb:b<=1000):AH (v1 a) (v1 b)=decide (a<b):=by
 unfold v1
 rw[YI (by omega) (by omega) (by omega) (by omega),decide_eq_true rfl];rfl
theorem aip{a b:Nat}(ha:a<=1000)(hb:b<=1000)(h:v1 a=v1 b):a=b:=by rw[<- nV ha,h,nV hb]
theorem VM{a b:Nat}(ha:a<=1000)(hb:b<=1000):BB (v1 a) (v1 b)=v1 (max a b):=by
 unfold BB
 rw[Mt ha hb]
 by_cases h:a<b
 ·rw[decide_eq_true h,cond_true,Nat.max_eq_right (by omega)]
 ·rw[decide_eq_false h,cond_false,Nat.max_eq_left (by omega)]
structure EI(e:Entry):Prop where
 key:tx e.key
 val:tx e.val
 kind:GL e.kind
 sess:1<=e.sess/\e.sess<=3
 num:GL e.num
 code:GL e.code
 res:tx e.res
theorem M5{X:Type}{P:List X->Prop}(h0:P [])(h1:∀ l x,P l->P (l++[x]))(l:List X):P l:=by
 have key:∀ r:List X,P r.reverse:=by
  intro r
  induction r with
  | nil=>exact h0
  | cons x r ih=>rw[List.reverse_cons];exact h1 _ _ ih
 have:=key l.reverse
 rwa [List.reverse_reverse]at this
def EF(H:List Entry)(s:Int):Option Entry:=H.reverse.find? fun e=>decide (e.sess=s)
def Hi(H:List Entry):List Seen:=H.foldl (fun l e=>Lj l (Hp e)) []
theorem NG(H:List Entry)(e:Entry)(s:Int):EF (H++[e]) s=if e.sess=s then some e else EF H s:=by
 unfold EF
 rw[List.reverse_append]
 show(e::H.reverse).find? _=_
 rw[List.find?_cons]
 by_cases h:e.sess=s
 ·rw[decide_eq_true h,if_pos h]
 ·rw[decide_eq_false h,if_neg h]
theorem PK{H:List Entry}{s:Int}{e:Entry}(h:EF H s=some e):e ∈ H/\e.sess=s:=by
 unfold EF at h
 exact⟨List.mem_reverse.1 (List.mem_of_find?_eq_some h),by simpa using List.find?_some h⟩
theorem Xp{H:List Entry}{e:Entry}(h:e ∈ H):∃ y,EF H e.sess=some y:=by
 unfold EF
 cases hf:H.reverse.find? fun x=>decide (x.sess=e.sess)with
 | some y=>exact⟨y,rfl⟩
 | none=>
  have:=List.find?_eq_none.1 hf e (List.mem_reverse.2 h)
  simp at this
theorem UM(H:List Entry)(e:Entry):Hi (H++[e])=Lj (Hi H) (Hp e):=by unfold Hi;rw[List.foldl_append];rfl
def Jq(H:List Entry):Prop:=H.Pairwise fun a b=>a.sess=b.sess->a.num<b.num
theorem Jq.snoc{H:List Entry}{e:Entry}(h:Jq (H++[e])):Jq H /\ ∀ a ∈ H,a.sess=e.sess->a.num<e.num:=by
 obtain⟨h1,_,h2⟩:=List.pairwise_append.1 h
 exact⟨h1,fun a ha=>h2 a ha e (by simp)⟩
theorem iR:∀ (H:List Entry),Jq H -> ∀ s y,EF H s=some y -> ∀ a ∈ H,a.sess=s->a.num<=y.num:=by
 refine M5 (P:=fun H=>Jq H -> ∀ s y,EF H s=some y -> ∀ a ∈ H,a.sess=s->a.num<=y.num) ?_ ?_
 ·intro _ s y _ a ha;cases ha
 ·intro H x ih hr s y hy a ha hs
  obtain⟨r1,r2⟩:=hr.snoc
  rw[NG]at hy
  by_cases hx:x.sess=s
  ·rw[if_pos hx]at hy
   cases hy
   rcases List.mem_append.1 ha with ha | ha
   ·exact Int.le_of_lt (r2 a ha (by rw[hs,hx]))
   ·rw[List.mem_singleton.1 ha];omega
  ·rw[if_neg hx]at hy
   rcases List.mem_append.1 ha with ha | ha
   ·exact ih r1 s y hy a ha hs
   ·rw[List.mem_singleton.1 ha]at hs;exact absurd hs hx
theorem Jq.push{H:List Entry}{e:Entry}(h:Jq H)(hl:∀ y,EF H e.sess=some y->y.num<e.num):Jq (H++[e]):=by
 refine List.pairwise_append.2 ⟨h,by simp,fun a ha b hb=>?_⟩
 rw[List.mem_singleton.1 hb]
 intro hs
 obtain⟨y,hy⟩:=Xp ha
 rw[hs]at hy
 have h1:=hl y hy
 have:=iR H h e.sess y hy a ha hs
 omega
def Se(l:List Seen):Prop:=(l.Pairwise fun a b=>a.sess<b.sess) /\ ∀ a ∈ l,1<=a.sess/\a.sess<=3
theorem Se.ok{l:List Seen}(h:Se l):FM l:=by
 refine⟨?_,h.1⟩
 match l,h with
 | [],_=>simp
 | [_],_=>simp
 | [_,_],_=>simp
 | [_,_,_],_=>simp
 | a::b::c::d::l,⟨h1,h2⟩=>
  simp only[List.pairwise_cons,List.mem_cons]at h1
  have k1:=h2 a (by simp)
  have k2:=h2 d (by simp)
  have q1:=h1.1 b (by simp)
  have q2:=h1.2.1 c (by simp)
  have q3:=h1.2.2.1 d (by simp)
  omega
theorem aY{l:List Seen}(h:Se l){x:Seen}(hx:x ∈ l):Bt l x.sess=(x,true):=by
 unfold Bt
 cases hf:l.find? fun y=>decide (y.sess=x.sess)with
 | none=>have:=List.find?_eq_none.1 hf x hx;simp at this
 | some y=>
  have hy:=List.mem_of_find?_eq_some hf
  have hs:y.sess=x.sess:=by simpa using List.find?_some hf
  have:y=x:=by
   obtain⟨i,hi,rfl⟩:=List.getElem_of_mem hx
   obtain⟨j,hj,rfl⟩:=List.getElem_of_mem hy
   have hp:=List.pairwise_iff_getElem.1 h.1
   rcases Nat.lt_trichotomy i j with hij | hij | hij
   ·have:=hp i j hi hj hij;omega
   ·subst hij;rfl
   ·have:=hp j i hj hi hij;omega
  rw[this]
theorem abA{l:List Seen}{t:Int}(h:∀ x ∈ l,x.sess ≠ t):Bt l t=(default,false):=by
 unfold Bt
 rw[List.find?_eq_none.2 fun x hx=>by simpa using h x hx]
theorem afx{l:List Seen}{t:Int}(h:(Bt l t).2=true):(Bt l t).1 ∈ l/\(Bt l t).1.sess=t:=by
 unfold Bt at h ⊢
 cases hf:l.find? fun x=>decide (x.sess=t)with
 | none=>rw[hf]at h;cases h
 | some y=>exact⟨List.mem_of_find?_eq_some hf,by simpa using List.find?_some hf⟩
theorem UN{s:Int}:∀ {l:List Seen},(l.Pairwise fun a b=>a.sess<b.sess)->(∀ x ∈ l.take (CC l s).1,x.sess<s) /\ ∀ x ∈ l.drop (CC l s).1,s<=x.sess
 | [],_=>⟨fun x hx=>(by cases hx),fun x hx=>(by cases hx)⟩
 | a::l,h=>by
  obtain⟨h1,h2⟩:=List.pairwise_cons.1 h
  have ih:=UN (s:=s) h2
  unfold CC at ih ⊢
  dsimp only at ih ⊢
  by_cases ha:a.sess<s
  ·rw[List.filter_cons_of_pos (by simpa using ha),List.length_cons,List.take_succ_cons,List.drop_succ_cons]
   exact⟨fun x hx=>by
    rcases List.mem_cons.1 hx with rfl | hx
    ·exact ha
    ·exact ih.1 x hx,ih.2⟩
  ·have hf:(a::l).filter (fun x=>decide (x.sess<s))=[]:=by
    rw[List.filter_eq_nil_iff]
    intro x hx
    rcases List.mem_cons.1 hx with rfl | hx
    ·simpa using ha
    ·have:=h1 x hx;simp;omega
   rw[hf]
   refine⟨fun x hx=>by simp at hx,fun x hx=>?_⟩
   rcases List.mem_cons.1 (by simpa using hx:x ∈ a::l)with rfl | hx
   ·omega
   ·have:=h1 x hx;omega
theorem abB{l:List Seen}{s:Seen}(h:Se l)(hs:1<=s.sess/\s.sess<=3)(hn:(Bt l s.sess).2=true->(Bt l s.sess).1.num<s.num):Se (Lj l s) /\ ∀ x,x ∈ Lj l s ↔ x=s\/(x ∈ l/\x.sess ≠ s.sess):=by
 unfold Lj
 cases hh:(CC l s.sess).2 with
 | true=>
  obtain⟨i,hi⟩:∃ i,(CC l s.sess).1=i:=⟨_,rfl⟩
  obtain⟨g1,g2⟩:=aR hh h.1
  rw[hi]at g1 g2 ⊢
  have hm:l.getD i default ∈ l:=getD_mem (z:=(default:Seen)) g1
  have hf:=aY h hm
  rw[g2]at hf
  rw[hf]at hn
  have hn:=hn rfl
  dsimp only at hn
  rw[cond_true,decide_eq_true hn,cond_true]
  have hg:l.getD i default=l[i]:=by simp[List.getD,g1]
  refine⟨⟨?_,fun a ha=>?_⟩,fun x=>?_⟩
  ·have e:(l.set i s).map Seen.sess=l.map Seen.sess:=by
    rw[List.map_set]
    refine List.ext_getElem (by simp) fun n h1 h2=>?_
    rw[List.getElem_set]
    by_cases hn:i=n
    ·subst hn;rw[if_pos rfl,List.getElem_map,<- g2,hg]
    ·rw[if_neg hn]
   have h1:(l.map Seen.sess).Pairwise (· < ·):=List.pairwise_map.2 h.1
   rw[<- e]at h1
   exact List.pairwise_map.1 h1
  ·rcases List.mem_or_eq_of_mem_set ha with ha | rfl
   ·exact h.2 a ha
   ·exact hs
  ·constructor
   ·intro hx
    obtain⟨j,hj,rfl⟩:=List.getElem_of_mem hx
    rw[List.getElem_set]
    by_cases hij:i=j
    ·exact .inl (if_pos hij)
    ·rw[if_neg hij]
     have hj':j<l.length:=by simpa using hj
     refine .inr ⟨List.getElem_mem _,?_⟩
     rw[<- g2,hg]
     have hp:=List.pairwise_iff_getElem.1 h.1
     rcases Nat.lt_or_gt_of_ne hij with hlt | hlt
     ·have:=hp i j g1 hj' hlt;omega
     ·have:=hp j i hj' g1 hlt;omega
   ·rintro(rfl | ⟨hx,hne⟩)
    ·exact List.mem_set g1 _
    ·obtain⟨j,hj,rfl⟩:=List.getElem_of_mem hx
     have hij:i ≠ j:=fun e=>hne (by subst e;rw[<- hg];exact g2)
     have:(l.set i s)[j]'(by simpa using hj)=l[j]:=by rw[List.getElem_set,if_neg hij]
     rw[<- this];exact List.getElem_mem _
 | false=>
  rw[cond_false]
  obtain⟨g1,g2⟩:=UN (s:=s.sess) h.1
  have hno:∀ x ∈ l,x.sess ≠ s.sess:=fun x hx he=>by
   have:(CC l s.sess).2=true:=List.any_eq_true.2 ⟨x,hx,by simpa using he⟩
   rw[hh]at this;cases this
  obtain⟨i,hi⟩:∃ i,(CC l s.sess).1=i:=⟨_,rfl⟩
  rw[hi]at g1 g2 ⊢
  unfold Wk.insL
  have hp:=h.1
  rw[<- List.take_append_drop i l]at hp
  obtain⟨p1,p2,p3⟩:=List.pairwise_append.1 hp
  refine⟨⟨List.pairwise_append.2 ⟨p1,List.pairwise_cons.2 ⟨fun x hx=>?_,p2⟩,fun a ha b hb=>?_⟩,fun a ha=>?_⟩,fun x=>?_⟩
  ·have:=g2 x hx
   have:=hno x (List.mem_of_mem_drop hx)
   omega
  ·rcases List.mem_cons.1 hb with rfl | hb
   ·exact g1 a ha
   ·exact p3 a ha b hb
  ·rcases List.mem_append.1 ha with ha | ha
   ·exact h.2 a (List.mem_of_mem_take ha)
   ·rcases List.mem_cons.1 ha with rfl | ha
    ·exact hs
    ·exact h.2 a (List.mem_of_mem_drop ha)
  ·constructor
   ·intro hx
    rcases List.mem_append.1 hx with hx | hx
    ·exact .inr ⟨List.mem_of_mem_take hx,hno x (List.mem_of_mem_take hx)⟩
    ·rcases List.mem_cons.1 hx with rfl | hx
     ·exact .inl rfl
     ·exact .inr ⟨List.mem_of_mem_drop hx,hno x (List.mem_of_mem_drop hx)⟩
   ·rintro(rfl | ⟨hx,_⟩)
    ·simp
    ·rw[<- List.take_append_drop i l]at hx
     rcases List.mem_append.1 hx with hx | hx
     ·exact List.mem_append_left _ hx
     ·exact List.mem_append_right _ (List.mem_cons_of_mem _ hx)
theorem aZ:∀ (H:List Entry),(∀ e ∈ H,1<=e.sess/\e.sess<=3)->Jq H->Se (Hi H) /\ ∀ x,x ∈ Hi H ↔ ∃ e,EF H x.sess=some e/\x=Hp e:=by
 refine M5 (P:=fun H=>(∀ e ∈ H,1<=e.sess/\e.sess<=3)->Jq H->Se (Hi H) /\ ∀ x,x ∈ Hi H ↔ ∃ e,EF H x.sess=some e/\x=Hp e) ?_ ?_
 ·intro _ _
  exact⟨⟨List.Pairwise.nil,fun a ha=>(by cases ha)⟩,fun x=>⟨fun hx=>(by cases hx),fun⟨e,he,_⟩=>(by cases he)⟩⟩
 ·intro H e ih hs hr
  obtain⟨r1,r2⟩:=hr.snoc
  obtain⟨i1,i2⟩:=ih (fun a ha=>hs a (List.mem_append_left _ ha)) r1
  rw[UM]
  have hn:(Bt (Hi H) (Hp e).sess).2=true->(Bt (Hi H) (Hp e).sess).1.num<(Hp e).num:=by
   intro h
   obtain⟨m1,m2⟩:=afx h
   obtain⟨y,y1,y2⟩:=(i2 _).1 m1
   rw[y2]
   obtain⟨z1,z2⟩:=PK y1
   have:y.sess=e.sess:=by rw[z2,m2];rfl
   exact r2 y z1 this
  obtain⟨k1,k2⟩:=abB i1 (s:=Hp e) (hs e (by simp)) hn
  refine⟨k1,fun x=>?_⟩
  rw[k2,NG]
  constructor
  ·rintro(rfl | ⟨hx,hne⟩)
   ·exact⟨e,if_pos rfl,rfl⟩
   ·rw[if_neg (fun h=>hne h.symm)];exact(i2 x).1 hx
  ·rintro⟨y,hy,rfl⟩
   by_cases hx:e.sess=(Hp y).sess
   ·rw[if_pos hx]at hy;cases hy;exact .inl rfl
   ·rw[if_neg hx]at hy;exact .inr ⟨(i2 _).2 ⟨y,hy,rfl⟩,fun h=>hx h.symm⟩
theorem nX{H:List Entry}(hs:∀ e ∈ H,1<=e.sess/\e.sess<=3)(hr:Jq H)(t:Int):Bt (Hi H) t=match EF H t with | some e=>(Hp e,true) | none=>(default,false):=by
 obtain⟨h1,h2⟩:=aZ H hs hr
 cases hl:EF H t with
 | some e=>
  obtain⟨m1,m2⟩:=PK hl
  have hx:Hp e ∈ Hi H:=(h2 (Hp e)).2 ⟨e,by show EF H e.sess=some e;rw[m2];exact hl,rfl⟩
  have:=aY h1 hx
  have e0:(Hp e).sess=t:=m2
  rw[e0]at this
  exact this
 | none=>
  refine abA fun x hx he=>?_
  obtain⟨e,h3,_⟩:=(h2 x).1 hx
  rw[he,hl]at h3;cases h3
def CQ(H:List Entry)(f:Nat):Rep:=⟨0,⟨2,1⟩,⟨0,1,0,3,[⟨2,1⟩]⟩,0,⟨v1 f,v1 H.length,H.drop f⟩,Hi H,v1 0,[true]⟩
theorem Xq(H:List Entry)(f:Nat):Co (CQ H f)=true:=rfl
theorem abC(H:List Entry)(f:Nat):Db (CQ H f)=v1 H.length:=rfl
theorem Mu(H:List Entry)(f:Nat):AD (CQ H f)=[]:=rfl
theorem wK{H:List Entry}{f:Nat}{e:Entry}(hl:H.length<1000)(hf:f<=H.length)(he:e.ver=v1 (H.length+1)):C0 (CQ H f,e)=(CQ (H++[e]) f,true):=by
 have hv:AH (v1 H.length) e.ver=true:=by rw[he,Mt (by omega) (by omega)];simp
 unfold C0 pushP
 show(bif Co (CQ H f)then(bif AH (v1 H.length) e.ver then(pushR (CQ H f) e,true)else(CQ H f,false))else(CQ H f,false))=_
 rw[Xq,hv,cond_true,cond_true]
 refine Prod.ext ?_ rfl
 show pushR (CQ H f) e=CQ (H++[e]) f
 unfold pushR CQ
 dsimp only
 rw[UM,List.length_append,List.drop_append_of_le_length hf,he]
 rfl
theorem wL{H:List Entry}{f g:Nat}(hv:∀ i,(h:i<H.length)->(H[i]).ver=v1 (i+1))(hl:H.length<900)(hf:f<=g)(hg:g<=H.length):Jp (CQ H f) (v1 g)=CQ H g:=by
 unfold Jp XO CQ
 dsimp only
 have h1:BB (v1 f) (v1 g)=v1 g:=by rw[VM (by omega) (by omega),Nat.max_eq_right hf]
 have h2:BB (v1 H.length) (v1 g)=v1 H.length:=by rw[VM (by omega) (by omega),Nat.max_eq_left hg]
 have h3:((H.drop f).filter fun e=>AH (v1 g) e.ver)=H.drop g:=by
  have e:H.drop f=(H.drop f).take (g - f)++H.drop g:=by
   conv=>lhs;rw[<- List.take_append_drop (g - f) (H.drop f)]
   rw[List.drop_drop,show f+(g - f)=g by omega]
  rw[e,List.filter_append]
  have a:((H.drop f).take (g - f)).filter (fun e=>AH (v1 g) e.ver)=[]:=by
   rw[List.filter_eq_nil_iff]
   intro x hx
   obtain⟨i,hi,rfl⟩:=List.getElem_of_mem hx
   have hi':i<g - f/\f+i<H.length:=by simp at hi;omega
   rw[List.getElem_take,List.getElem_drop,hv (f+i) hi'.2,Mt (by omega) (by omega)]
   simp;omega
  have b:(H.drop g).filter (fun e=>AH (v1 g) e.ver)=H.drop g:=by
   rw[List.filter_eq_self]
   intro x hx
   obtain⟨i,hi,rfl⟩:=List.getElem_of_mem hx
   have hi':g+i<H.length:=by simp at hi;omega
   rw[List.getElem_drop,hv (g+i) hi',Mt (by omega) (by omega)]
   simp;omega
  rw[a,b,List.nil_append]
 rw[h1,h2,h3]
structure Ctx where
 ops:List Msg
 A:Txt->Option Entry
 n0:Int
 old:Int->Txt->Prop
 p0:Pump
def SV(p q:Pump):Prop:=p.num<q.num\/(q.num=p.num/\(q.out=[]\/q.out=p.out))
theorem SV.refl(p:Pump):SV p p:=.inr ⟨rfl,.inr rfl⟩
def Ap(C:Ctx)(e:Entry):Prop:=∃ y,C.A e.key=some y/\Fy e.ver y.ver
def LW(H:List Entry)(k:Txt):Option Entry:=Da H k
def Cl(H:List Entry)(x:Itm):Prop:=match LW H x.key with
 | none=>x.has=false
 | some e=>x.has=!e.del/\(e.del=false->x.val=e.val)
theorem N9{k:Txt}(b:List Entry):∀ a:List Entry,Da (a++b) k=match Da b k with | some y=>some y | none=>Da a k
 | []=>by
  show Da b k=_
  cases Da b k <;> rfl
 | x::a=>by
  show(match Da (a++b) k with | some y=>some y | none=>bif x.write&&Ah x.key k then some x else none)=_
  rw[N9 b a]
  cases Da b k with
  | some y=>rfl
  | none=>rfl
theorem iS(H:List Entry)(e:Entry)(k:Txt):LW (H++[e]) k=bif e.write&&Ah e.key k then some e else LW H k:=by
 unfold LW
 rw[N9]
 show(match (bif e.write&&Ah e.key k then some e else none)with | some y=>some y | none=>Da H k)=_
 cases e.write&&Ah e.key k <;> rfl
theorem iT{H:List Entry}{k:Txt}{e:Entry}(h:LW H k=some e):e ∈ H/\e.write=true/\e.key=k:=by
 unfold LW at h
 induction H with
 | nil=>cases h
 | cons x r ih=>
  unfold Da at h
  cases hr:Da r k with
  | some y=>
   rw[hr]at h
   dsimp only at h
   cases h
   obtain⟨a,b⟩:=ih hr
   exact⟨List.mem_cons_of_mem _ a,b⟩
  | none=>
   rw[hr]at h
   dsimp only at h
   cases hc:x.write&&Ah x.key k with
   | true=>
    rw[hc,cond_true]at h
    cases h
    obtain⟨a,b⟩:=Ad hc
    rw[A7]at b
    exact⟨by simp,a,by simpa using b⟩
   | false=>rw[hc,cond_false]at h;cases h
def LY(l:List Entry)(k:Txt):Prop:=Da l k=none
theorem KV{l:List Entry}{k:Txt}:LY l k ↔ ∀ e ∈ l,e.write=true->e.key ≠ k:=by
 unfold LY
 induction l with
 | nil=>exact⟨fun _ e he=>(by cases he),fun _=>rfl⟩
 | cons x r ih=>
  constructor
  ·intro h e he hw hk
   unfold Da at h
   cases hr:Da r k with
   | some y=>rw[hr]at h;cases h
   | none=>
    rw[hr]at h
    dsimp only at h
    rcases List.mem_cons.1 he with rfl | he
    ·have:(e.write&&Ah e.key k)=true:=by rw[hw,A7];simpa using hk
     rw[this]at h;cases h
    ·exact ih.1 hr e he hw hk
  ·intro h
   have hr:=ih.2 fun e he=>h e (List.mem_cons_of_mem _ he)
   unfold Da
   rw[hr]
   dsimp only
   cases hc:x.write&&Ah x.key k with
   | false=>rfl
   | true=>
    obtain⟨a,b⟩:=Ad hc
    rw[A7]at b
    exact absurd (by simpa using b) (h x (by simp) a)
structure FP(C:Ctx)(H:List Entry):Prop where
 len:H.length<=30
 ver:∀ i,(h:i<H.length)->(H[i]).ver=v1 (i+1)
 ent:∀ e ∈ H,EI e
 rise:Jq H
 call:∀ e ∈ H,∃ q ∈ C.ops,q.sess=e.sess/\q.num=e.num/\Dp q.op K1=0
theorem FP.vi{C:Ctx}{H:List Entry}(h:FP C H){e:Entry}(he:e ∈ H):∃ n,1<=n/\n<=H.length/\e.ver=v1 n/\H[n - 1]? = some e:=by
 obtain⟨i,hi,rfl⟩:=List.getElem_of_mem he
 exact⟨i+1,by omega,by omega,h.ver i hi,by simp⟩
theorem FP.num{C:Ctx}{H:List Entry}(h:FP C H){e:Entry}(he:e ∈ H):Au e.ver:=by
 obtain⟨n,_,h2,h3,_⟩:=h.vi he
 have:=h.len
 rw[h3];exact Hu (by omega)
theorem FP.se{C:Ctx}{H:List Entry}(h:FP C H):Se (Hi H):=(aZ H (fun e he=>(h.ent e he).sess) h.rise).1
theorem FP.find{C:Ctx}{H:List Entry}(h:FP C H)(t:Int):Bt (Hi H) t=match EF H t with | some e=>(Hp e,true) | none=>(default,false):=nX (fun e he=>(h.ent e he).sess) h.rise t
theorem FP.nil(C:Ctx):FP C []:=⟨by simp,fun i h=>absurd h (Nat.not_lt_zero i),fun e he=>(by cases he),List.Pairwise.nil,fun e he=>(by cases he)⟩
theorem UO{C:Ctx}{H:List Entry}(h:FP C H)(f:Nat):Cw (CQ H f):=by
 have h1:=h.len
 have h3:=h.se.ok.1
 refine⟨?_,?_,?_,?_⟩
 ·show 1<=_;unfold LB;omega
 ·show(H.drop f).length<=_;rw[List.length_drop];unfold LB;omega
 ·show(Hi H).length<=_;unfold LB;omega
 ·show 1<=_;unfold LB;omega
end Go.Hd
end
noncomputable section
open Go Go.AM Go.Md
namespace Go.Hd
open Go.Wk
set_option maxRecDepth 100000
structure iU(q:Msg):Prop where
 kd:q.kind=5
 src:q.src=100+q.sess
 dst:q.dst=2
 shard:q.shard=0
 gen:q.gen=0
 sess:1<=q.sess/\q.sess<=3
 num:GL q.num
 ms:I7 q
 kind:GL q.op.kind
 key:tx q.op.key
 val:tx q.op.val
structure Mv(C:Ctx):Prop where
 op:∀ q ∈ C.ops,iU q
 fn:∀ q ∈ C.ops,∀ p ∈ C.ops,q.sess=p.sess->q.num=p.num->q.op=p.op
def aiq(x:Msg):Prop:=x.has=false/\x.val=[]/\x.ver=⟨0,0⟩
structure LO(C:Ctx)(H:List Entry)(x:Msg):Prop where
 kd:x.kind=6
 dst:x.dst=100+x.sess
 of:∃ q ∈ C.ops,q.sess=x.sess/\q.num=x.num/\((Dp q.op K1 ≠ 0/\x.code=Dp q.op K1/\aiq x) \/
  (Dp q.op K1=0/\x.code=5/\aiq x/\30<=H.length /\ ∀ e ∈ H,e.sess=x.sess->e.num ≠ x.num) \/
  (Dp q.op K1=0 /\ ∃ e ∈ H,e.sess=x.sess/\e.num=x.num/\x.code=e.code/\x.val=e.res/\x.has=e.hasRes/\x.ver=e.ver))
def Gr(H H':List Entry):Prop:=∃ K,H'=H++K
theorem Gr.refl(H:List Entry):Gr H H:=⟨[],by simp⟩
theorem Gr.trans{A B D:List Entry}(h:Gr A B)(h':Gr B D):Gr A D:=by
 obtain⟨k,rfl⟩:=h
 obtain⟨l,rfl⟩:=h'
 exact⟨k++l,by simp⟩
theorem Gr.snoc(H:List Entry)(e:Entry):Gr H (H++[e]):=⟨[e],rfl⟩
theorem LO.grow{C:Ctx}{H H':List Entry}{x:Msg}(h:LO C H x)(hg:Gr H H')(hl:H'.length<=30):LO C H' x:=by
 obtain⟨K,rfl⟩:=hg
 refine⟨h.kd,h.dst,?_⟩
 obtain⟨q,hq,hs,hn,ho⟩:=h.of
 refine⟨q,hq,hs,hn,?_⟩
 rcases ho with h1 | ⟨h1,h2,h3,h4,h5⟩ | ⟨h1,e,he,h2⟩
 ·exact .inl h1
 ·have:K=[]:=by
   rw[List.length_append]at hl
   exact List.eq_nil_of_length_eq_zero (by omega)
  subst this
  rw[List.append_nil]
  exact .inr (.inl ⟨h1,h2,h3,h4,h5⟩)
 ·exact .inr (.inr ⟨h1,e,List.mem_append_left _ he,h2⟩)
structure PL(nx:Int)(x:Msg):Prop where
 kd:x.kind=17
 dst:x.dst=0
 shard:x.shard=0
 epoch:x.epoch=1
 sboot:x.sboot=1
 src:x.src=2
 ver:x.ver=⟨0,0⟩
 floor:x.floor=⟨0,0⟩
 ents:x.entries=[]
 num:1<=x.num/\x.num<=nx
 key:tx x.key
theorem PL.mono{n m:Int}{x:Msg}(h:PL n x)(hm:n<=m):PL m x:={h with num:=⟨h.num.1,by have:=h.num.2;omega⟩}
def PN(C:Ctx)(H:List Entry)(nx:Int)(x:Msg):Prop:=LO C H x\/PL nx x
def WtI(H:List Entry)(x:Wait):Prop:=x.dst=100+x.sess /\ ∃ e,EF H x.sess=some e/\e.num=x.num/\x.ver=e.ver
structure nY(C:Ctx)(X:Txt->Prop)(L:List Entry)(nx:Int)(a:Md.Ask):Prop where
 num:1<=a.num/\a.num<=nx
 key:tx a.key
 len:a.calls.length<=8
 calls:∀ q ∈ a.calls,q ∈ C.ops/\q.op.key=a.key
 now:¬ X a.key->LY L a.key
 old:C.n0<a.num\/C.old a.num a.key
structure DS(C:Ctx)(X:Txt->Prop)(B:Nat)(H:List Entry)(f:Nat)(d:Md.Desk):Prop where
 ops:Mv C
 h:FP C H
 rep:d.rep=CQ H f
 fl:f<=H.length
 log:H.length<=f+8
 ap:∀ e ∈ H.take f,e.write=true->Ap C e
 pnum:0<=d.pump.num/\d.pump.num<=B
 pout:d.pump.out.length<=12 /\ ∀ e ∈ d.pump.out,e ∈ H/\e.write=true
 pdone:d.pump.done.length<=B /\ ∀ x ∈ d.pump.done,∃ e ∈ H,e.write=true/\x=Jw e/\Ap C e
 clean:d.clean.length<=B /\ ∀ x ∈ d.clean,EZ x/\Cl H x
 waits:d.waits.length<=B /\ ∀ x ∈ d.waits,WtI H x
 asks:d.asks.length<=B
 keys:d.asks.Pairwise fun a b=>a.key ≠ b.key
 ask:∀ a ∈ d.asks,nY C X (H.drop f) d.next a
 next:0<=d.next/\d.next<=B
 n0:C.n0<=d.next
 pu:SV C.p0 d.pump
def X0:Txt->Prop:=fun _=>False
structure WS(C:Ctx)(X:Txt->Prop)(B:Nat)(H:List Entry)(f:Nat)(w:Wrk):Prop where
 d:DS C X B H f w.d
 c:w.c=K1
 out:w.out.length<=B
 said:∀ x ∈ w.out,PN C H w.d.next x
 just:tx w.just.key/\tx w.just.val
variable {C:Ctx} {X:Txt->Prop} {B:Nat} {H:List Entry} {f:Nat}
theorem nY.mono{L:List Entry}{n m:Int}{a:Md.Ask}(h:nY C X L n a)(hm:n<=m):nY C X L m a:={h with num:=⟨h.num.1,by have:=h.num.2;omega⟩}
theorem DS.mono{D:Nat}{d:Md.Desk}(h:DS C X B H f d)(hB:B<=D):DS C X D H f d:=
 {h with pnum:=⟨h.pnum.1,by have:=h.pnum.2;omega⟩,pdone:=⟨by have:=h.pdone.1;omega,h.pdone.2⟩,clean:=⟨by have:=h.clean.1;omega,h.clean.2⟩,waits:=⟨by have:=h.waits.1;omega,h.waits.2⟩,asks:=by have:=h.asks;omega,next:=⟨h.next.1,by have:=h.next.2;omega⟩}
theorem WS.mono{D:Nat}{w:Wrk}(h:WS C X B H f w)(hB:B<=D):WS C X D H f w:={h with d:=h.d.mono hB,out:=by have:=h.out;omega}
theorem PN.mono{n m:Int}{x:Msg}(h:PN C H n x)(hm:n<=m):PN C H m x:=h.imp id fun h=>h.mono hm
theorem PN.grow{H':List Entry}{n:Int}{x:Msg}(h:PN C H n x)(hg:Gr H H')(hl:H'.length<=30):PN C H' n x:=h.imp (fun h=>h.grow hg hl) id
theorem DS.vlog{d:Md.Desk}(h:DS C X B H f d):∀ e ∈ d.rep.tail.log,e ∈ H:=by
 rw[h.rep]
 exact fun e he=>List.mem_of_mem_drop he
theorem DS.loglen{d:Md.Desk}(h:DS C X B H f d):d.rep.tail.log.length=H.length - f/\d.rep.tail.log.length<=8:=by
 rw[h.rep]
 have:=h.log
 have e:(CQ H f).tail.log.length=H.length - f:=List.length_drop
 rw[e];omega
theorem DS.last{d:Md.Desk}(h:DS C X B H f d):d.rep.tail.last=v1 H.length/\Au d.rep.tail.last/\nu d.rep.tail.last=H.length:=by
 rw[h.rep]
 have:=h.h.len
 exact⟨rfl,Hu (by omega),nV (by omega)⟩
theorem DS.head{d:Md.Desk}(h:DS C X B H f d):Co d.rep=true:=by rw[h.rep];exact Xq H f
theorem DS.short{d:Md.Desk}(h:DS C X B H f d):Cw d.rep:=by rw[h.rep];exact UO h.h f
theorem DS.sok{d:Md.Desk}(h:DS C X B H f d):FM d.rep.seen:=by rw[h.rep];exact h.h.se.ok
theorem DS.com{d:Md.Desk}(h:DS C X B H f d):Db d.rep=v1 H.length:=by rw[h.rep];exact abC H f
theorem DS.es{d:Md.Desk}(h:DS C X B H f d):Ke d.rep.tail.log:=⟨by have:=h.loglen.2;omega,fun e he=>⟨(h.h.ent e (h.vlog e he)).key,(h.h.ent e (h.vlog e he)).val⟩⟩
theorem VN(h:FP C H)(f:Nat):Gc (CQ H f) where
 short:=UO h f
 ph:=.inr (.inr rfl)
 sync:=fun e=>by cases e
 len:=by show 1<=4;omega
 got:=Hu (by omega)
 log:=fun e he=>h.num (List.mem_of_mem_drop he)
theorem DS.ag{d:Md.Desk}(h:DS C X B H f d):Gc d.rep:=by rw[h.rep];exact VN h.h f
theorem DS.find{d:Md.Desk}(h:DS C X B H f d)(t:Int):Bt d.rep.seen t=match EF H t with | some e=>(Hp e,true) | none=>(default,false):=by rw[h.rep];exact h.h.find t
theorem WS.fi{w:Wrk}(h:WS C X B H f w)(hB:B<=9000):M1 w:=⟨by have:=h.d.loglen.2;omega,by have:=h.d.clean.1;omega⟩
theorem WS.refuse{w:Wrk}(h:WS C X B H f w){m:Msg}{k:Int}(ha:LO C H (Mq w m.src m.sess m.num k)):WS C X (B+1) H f (FY w m k):=by
 have h0:=h.mono (Nat.le_succ B)
 refine {h0 with out:=?_,said:=fun x hx=>?_}
 ·show(w.out++[_]).length<=B+1
  have:=h.out
  simp;omega
 ·rcases List.mem_append.1 (show x ∈ w.out++[Mq w m.src m.sess m.num k] from hx)with hx | hx
  ·exact h.said x hx
  ·rw[List.mem_singleton.1 hx];exact .inl ha
theorem wM{w:Wrk}{m:Msg}(h:Mv C)(hm:m ∈ C.ops)(hc:Dp m.op K1 ≠ 0):LO C H (Mq w m.src m.sess m.num (Dp m.op K1)):=
 ⟨rfl,(h.op m hm).src,m,hm,rfl,rfl,.inl ⟨hc,rfl,rfl,rfl,rfl⟩⟩
theorem abD{w:Wrk}{m:Msg}(h:Mv C)(hm:m ∈ C.ops)(hc:Dp m.op K1=0)(hl:30<=H.length)(hn:∀ e ∈ H,e.sess=m.sess->e.num ≠ m.num):LO C H (Mq w m.src m.sess m.num 5):=
 ⟨rfl,(h.op m hm).src,m,hm,rfl,rfl,.inr (.inl ⟨hc,rfl,⟨rfl,rfl,rfl⟩,hl,hn⟩)⟩
theorem VO{w:Wrk}(h:WS C X B H f w)(m:Msg):(HY w m=0 /\ ∀ y,EF H m.sess=some y->y.num<m.num)\/(HY w m=1 /\ ∃ y,EF H m.sess=some y/\y.num=m.num/\(Bt w.d.rep.seen m.sess).1.ver=y.ver)\/(HY w m=2):=by
 have hf:=h.d.find m.sess
 unfold HY Kf
 rw[hf]
 cases hl:EF H m.sess with
 | none=>exact .inl ⟨rfl,fun y hy=>by cases hy⟩
 | some y=>
  dsimp only
  have e:(Hp y).num=y.num:=rfl
  rw[Bool.not_true,cond_false,e]
  by_cases h1:y.num<m.num
  ·rw[decide_eq_true h1,cond_true];exact .inl ⟨rfl,fun z hz=>by cases hz;exact h1⟩
  ·rw[decide_eq_false h1,cond_false]
   by_cases h2:m.num=y.num
   ·rw[decide_eq_true h2,cond_true];exact .inr (.inl ⟨rfl,y,rfl,h2.symm,rfl⟩)
   ·rw[decide_eq_false h2,cond_false];exact .inr (.inr rfl)
theorem WS.wait{w:Wrk}(h:WS C X B H f w){m:Msg}(hm:m ∈ C.ops){y:Entry}(hy:EF H m.sess=some y)(hn:y.num=m.num):WS C X (B+1) H f (Fa w y.ver m):=by
 have h0:=h.mono (Nat.le_succ B)
 have hw:(Fa w y.ver m).d.waits.length<=B+1 /\ ∀ x ∈ (Fa w y.ver m).d.waits,WtI H x:=by
  refine⟨?_,fun x hx=>?_⟩
  ·have h1:=h.d.waits.1
   have h2:=List.length_filter_le (fun x=>!pW m x) w.d.waits
   show((w.d.waits.filter fun x=>!pW m x)++[_]).length<=B+1
   rw[List.length_append]
   simp only[List.length_singleton]
   omega
  ·rcases List.mem_append.1 (show x ∈ (w.d.waits.filter fun x=>!pW m x)++[⟨y.ver,m.src,m.sess,m.num⟩] from hx)with hx | hx
   ·exact h.d.waits.2 x (List.mem_filter.1 hx).1
   ·rw[List.mem_singleton.1 hx]
    exact⟨(h.d.ops.op m hm).src,y,hy,hn,rfl⟩
 exact {h0 with d:={h0.d with waits:=hw}}
theorem WS.setClean{w:Wrk}(h:WS C X B H f w){L:List Itm}(h1:L.length<=B)(h2:∀ x ∈ L,EZ x/\Cl H x):WS C X B H f (Hh w L):={h with d:={h.d with clean:=⟨h1,h2⟩}}
theorem WS.find{w:Wrk}(h:WS C X B H f w)(k:Txt):WS C X (B+1) H f (A4 w k).2.2:=by
 have h0:=h.mono (Nat.le_succ B)
 unfold A4
 cases (Dt w.d.rep.tail k).2 with
 | true=>exact h0
 | false=>
  rw[cond_false]
  cases w.isRead&&Ah w.just.key k with
  | true=>exact h0
  | false=>
   rw[cond_false]
   refine h0.setClean ?_ fun x hx=>?_
   ·show(ED (w.d.clean,k)).2.1.length<=B+1
    have h1:=h.d.clean.1
    have h2:=KR w.d.clean k
    unfold ED
    dsimp only
    split <;> simp <;> omega
   ·revert hx
    show x ∈ (ED (w.d.clean,k)).2.1->_
    unfold ED
    dsimp only
    split
    ·rename_i y hy
     intro hx
     rcases List.mem_append.1 hx with hx | hx
     ·exact h.d.clean.2 x (List.mem_filter.1 hx).1
     ·rw[List.mem_singleton.1 hx];exact h.d.clean.2 y (List.mem_of_find?_eq_some hy)
    ·exact fun hx=>h.d.clean.2 x hx
theorem abE{k:Txt}{l:List Entry}{e:Entry}(h:Da l k=some e):e ∈ l:=(iT (H:=l) h).1
theorem WS.item{w:Wrk}(h:WS C X B H f w)(k:Txt):tx (A4 w k).1.val:=by
 unfold A4
 cases hv:(Dt w.d.rep.tail k).2 with
 | true=>
  rw[cond_true]
  show tx (Dt w.d.rep.tail k).1.val
  unfold Dt
  cases ho:Da w.d.rep.tail.log k with
  | none=>exact Nat.zero_le _
  | some e=>
   have hm:e ∈ w.d.rep.tail.log:=abE ho
   have:=(h.d.h.ent e (h.d.vlog e hm)).val
   show tx (bif !e.del then e.val else [])
   cases e.del with
   | true=>exact Nat.zero_le _
   | false=>exact this
 | false=>
  rw[cond_false]
  cases w.isRead&&Ah w.just.key k with
  | true=>exact h.just.2
  | false=>
   rw[cond_false]
   show tx (ED (w.d.clean,k)).1.val
   unfold ED
   dsimp only
   split
   ·rename_i y hy
    exact(h.d.clean.2 y (List.mem_of_find?_eq_some hy)).1.2
   ·exact Nat.zero_le _
theorem wN{w:Wrk}(h:WS C X B H f w){k:Txt}(hf:(A4 w k).2.1=false):LY (H.drop f) k:=by
 unfold A4 at hf
 cases hv:(Dt w.d.rep.tail k).2 with
 | true=>rw[hv]at hf;cases hf
 | false=>
  unfold Dt at hv
  rw[h.d.rep]at hv
  unfold LY
  cases ho:Da (H.drop f) k with
  | none=>rfl
  | some e=>
   have:(CQ H f).tail.log=H.drop f:=rfl
   rw[this,ho]at hv;cases hv
theorem nZ{w:Wrk}{q:Msg}(h:VB w q=false):∀ a ∈ w.d.asks,a.key ≠ q.op.key:=by
 intro a ha hk
 have:VB w q=true:=by
  unfold VB
  exact List.any_eq_true.2 ⟨a,ha,by rw[A7];simpa using hk⟩
 rw[this]at h;cases h
theorem WS.ask{w:Wrk}(h:WS C X B H f w){q:Msg}(hq:q ∈ C.ops)(hno:LY (H.drop f) q.op.key):WS C X (B+1) H f (Rg w q):=by
 have k:=h.mono (Nat.le_succ B)
 unfold Rg
 cases hh:VB w q with
 | true=>exact k
 | false=>
  rw[cond_false]
  have hna:=nZ hh
  have h1:=h.d.asks
  have h2:=h.out
  have h3:=h.d.next
  have ho:=h.d.ops.op q hq
  have hn0:=h.d.n0
  refine {k with d:={k.d with asks:=?_,keys:=?_,ask:=fun a ha=>?_,next:=?_,n0:=by show C.n0<=w.d.next+1;omega},out:=?_,said:=fun x hx=>?_}
  ·show(w.d.asks++[HR w q]).length<=B+1;simp;omega
  ·refine List.pairwise_append.2 ⟨h.d.keys,by simp,fun a ha b hb=>?_⟩
   rw[List.mem_singleton.1 hb]
   exact hna a ha
  ·rcases List.mem_append.1 (show a ∈ w.d.asks++[HR w q] from ha)with ha | ha
   ·exact(h.d.ask a ha).mono (by show w.d.next<=w.d.next+1;omega)
   ·rw[List.mem_singleton.1 ha]
    exact⟨⟨by show 1<=w.d.next+1;omega,by show w.d.next+1<=w.d.next+1;omega⟩,ho.key,by simp[HR],fun x hx=>by simp[HR]at hx;rw[hx];exact⟨hq,rfl⟩,fun _=>hno,.inl (by show C.n0<w.d.next+1;omega)⟩
  ·show 0<=w.d.next+1/\w.d.next+1<=((B+1:Nat):Int);omega
  ·show(w.out++[_]).length<=B+1;simp;omega
  ·rcases List.mem_append.1 (show x ∈ w.out++[GF (w.d.rep,HR w q)] from hx)with hx | hx
   ·exact(h.said x hx).mono (by show w.d.next<=w.d.next+1;omega)
   ·rw[List.mem_singleton.1 hx]
    refine .inr ⟨rfl,rfl,?_,?_,?_,?_,rfl,rfl,rfl,⟨by show 1<=w.d.next+1;omega,by show w.d.next+1<=w.d.next+1;omega⟩,ho.key⟩
    ·show w.d.rep.shard=0;rw[h.d.rep];rfl
    ·show w.d.rep.view.epoch=1;rw[h.d.rep];rfl
    ·show w.d.rep.self.boot=1;rw[h.d.rep];rfl
    ·show w.d.rep.self.node=2;rw[h.d.rep];rfl
theorem WS.askOk{w:Wrk}(h:WS C X B H f w)(hB:B<=9000){q:Msg}(hq:q ∈ C.ops)(hn:aP w q):Sn w q:=
 ⟨hn,(h.d.ops.op q hq).ms,by have:=h.d.asks;omega,by have:=h.out;omega,h.d.next.1,by have:=h.d.next.2;omega⟩
end Go.Hd
end
noncomputable section
open Go Go.AM Go.Md
namespace Go.Hd
open Go.Wk
set_option maxRecDepth 100000
variable {C:Ctx} {X:Txt->Prop} {B:Nat} {H:List Entry} {f:Nat}
theorem air{m:Msg}(hm:iU m)(v:Ver)(x:Itm)(hx:tx x.val)(room:Bool):EI (E2 m.op v m.sess m.num x room)/\(E2 m.op v m.sess m.num x room).key=m.op.key/\(E2 m.op v m.sess m.num x room).sess=m.sess/\(E2 m.op v m.sess m.num x room).num=m.num/\(E2 m.op v m.sess m.num x room).ver=v:=by
 have h0:tx []:=Nat.zero_le _
 have hk:=hm.key
 have hv:=hm.val
 have hki:=hm.kind
 have hs:=hm.sess
 have hn:=hm.num
 have i0:GL 0:=LN (by decide) (by decide)
 have i1:GL 1:=LN (by decide) (by decide)
 have i2:GL 2:=LN (by decide) (by decide)
 have i3:GL 3:=LN (by decide) (by decide)
 unfold E2
 dsimp only
 cases GU m.op.kind && !room with
 | true=>exact⟨⟨hk,h0,hki,hs,hn,i3,h0⟩,rfl,rfl,rfl,rfl⟩
 | false=>
  cases decide (m.op.kind=1)with
  | true=>
   cases x.has with
   | true=>exact⟨⟨hk,h0,hki,hs,hn,i0,hx⟩,rfl,rfl,rfl,rfl⟩
   | false=>exact⟨⟨hk,h0,hki,hs,hn,i1,h0⟩,rfl,rfl,rfl,rfl⟩
  | false=>
   cases decide (m.op.kind=2)with
   | true=>exact⟨⟨hk,hv,hki,hs,hn,i0,h0⟩,rfl,rfl,rfl,rfl⟩
   | false=>
    cases decide (m.op.kind=3)with
    | true=>exact⟨⟨hk,h0,hki,hs,hn,i0,h0⟩,rfl,rfl,rfl,rfl⟩
    | false=>
     cases decide (m.op.kind=4)with
     | true=>
      cases (bif x.has then m.op.hasOld else !m.op.hasOld)&&(!x.has||Ah x.val m.op.old)with
      | true=>exact⟨⟨hk,hv,hki,hs,hn,i0,h0⟩,rfl,rfl,rfl,rfl⟩
      | false=>
       cases hh:x.has with
       | true=>exact⟨⟨hk,h0,hki,hs,hn,i2,hx⟩,rfl,rfl,rfl,rfl⟩
       | false=>exact⟨⟨hk,h0,hki,hs,hn,i2,h0⟩,rfl,rfl,rfl,rfl⟩
     | false=>exact⟨⟨hk,h0,hki,hs,hn,i0,h0⟩,rfl,rfl,rfl,rfl⟩
theorem FP.snoc(h:FP C H){e:Entry}(hl:H.length<30)(he:EI e)(hv:e.ver=v1 (H.length+1))(hr:∀ y,EF H e.sess=some y->y.num<e.num)(hc:∃ q ∈ C.ops,q.sess=e.sess/\q.num=e.num/\Dp q.op K1=0):FP C (H++[e]) where
 len:=by rw[List.length_append,List.length_singleton];omega
 ver:=fun i hi=>by
  by_cases h1:i<H.length
  ·rw[List.getElem_append_left h1];exact h.ver i h1
  ·have:i=H.length:=by rw[List.length_append,List.length_singleton]at hi;omega
   subst this
   rw[List.getElem_append_right (Nat.le_refl _)]
   simpa using hv
 ent:=fun x hx=>by
  rcases List.mem_append.1 hx with hx | hx
  ·exact h.ent x hx
  ·rw[List.mem_singleton.1 hx];exact he
 rise:=h.rise.push hr
 call:=fun x hx=>by
  rcases List.mem_append.1 hx with hx | hx
  ·exact h.call x hx
  ·rw[List.mem_singleton.1 hx];exact hc
structure VP(C:Ctx)(H:List Entry)(m:Msg)(e:Entry):Prop where
 ei:EI e
 key:e.key=m.op.key
 sess:e.sess=m.sess
 num:e.num=m.num
 ver:e.ver=v1 (H.length+1)
 hok:FP C (H++[e])
theorem wO{w:Wrk}(hw:WS C X B H f w){m:Msg}(hm:m ∈ C.ops)(hck:Dp m.op K1=0)(hn:H.length<30)(hv:∀ y,EF H m.sess=some y->y.num<m.num)(x:Itm)(hx:tx x.val):VP C H m (Ek w m x):=by
 obtain⟨a1,a2,a3,a4,a5⟩:=air (hw.d.ops.op m hm) (N5 w) x hx (!w.d.busy)
 have e:E2 m.op (N5 w) m.sess m.num x (!w.d.busy)=Ek w m x:=rfl
 rw[e]at a1 a2 a3 a4 a5
 have hver:N5 w=v1 (H.length+1):=by
  unfold N5
  rw[hw.d.last.2.2,hw.d.rep];rfl
 rw[hver]at a5
 exact⟨a1,a2,a3,a4,a5,hw.d.h.snoc hn a1 a5 (fun y hy=>by rw[a4];rw[a3]at hy;exact hv y hy) ⟨m,hm,a3.symm,a4.symm,hck⟩⟩
theorem Xr{e:Entry}(hf:f<=H.length):(H++[e]).drop f=H.drop f++[e]:=List.drop_append_of_le_length hf
theorem abF{L:List Entry}{e:Entry}{k:Txt}(h:LY L k)(he:e.write=true->e.key ≠ k):LY (L++[e]) k:=by
 rw[KV]at h ⊢
 intro x hx hw
 rcases List.mem_append.1 hx with hx | hx
 ·exact h x hx hw
 ·rw[List.mem_singleton.1 hx]at hw ⊢;exact he hw
theorem oA{w:Wrk}(hw:WS C X B H f w){m:Msg}(hm:m ∈ C.ops){e:Entry}(he:VP C H m e):((w.d.waits.filter fun x=>!pW m x)++[(⟨e.ver,m.src,m.sess,m.num⟩:Wait)]).length<=B+1 /\ ∀ x ∈ (w.d.waits.filter fun x=>!pW m x)++[(⟨e.ver,m.src,m.sess,m.num⟩:Wait)],WtI (H++[e]) x:=by
 refine⟨?_,fun x hx=>?_⟩
 ·have h1:=hw.d.waits.1
  have h2:=List.length_filter_le (fun x=>!pW m x) w.d.waits
  rw[List.length_append]
  simp only[List.length_singleton]
  omega
 ·rcases List.mem_append.1 hx with hx | hx
  ·obtain⟨hx,hp⟩:=List.mem_filter.1 hx
   have hne:¬ x.sess=m.sess:=by simpa [pW] using hp
   obtain⟨a,y,b,c⟩:=hw.d.waits.2 x hx
   refine⟨a,y,?_,c⟩
   rw[NG,if_neg (by rw[he.sess];exact fun h=>hne h.symm)];exact b
  ·rw[List.mem_singleton.1 hx]
   refine⟨(hw.d.ops.op m hm).src,e,?_,he.num,rfl⟩
   show EF (H++[e]) m.sess=some e
   rw[NG,if_pos he.sess]
theorem iV{X':Txt->Prop}{w:Wrk}(hw:WS C X B H f w){m:Msg}(hm:m ∈ C.ops){e:Entry}(he:VP C H m e)(hl:H.length<f+8){cl:List Itm}{bz:Bool}(hc1:cl.length<=B+1)(hc2:∀ x ∈ cl,EZ x/\Cl (H++[e]) x)(hX:∀ k,¬ X' k -> ¬ X k/\(e.write=true->e.key ≠ k)) :
  DS C X' (B+1) (H++[e]) f {w.d with rep:=CQ (H++[e]) f,waits:=(w.d.waits.filter fun x=>!pW m x)++[⟨e.ver,m.src,m.sess,m.num⟩],clean:=cl,busy:=bz} where
 ops:=hw.d.ops
 h:=he.hok
 rep:=rfl
 fl:=by rw[List.length_append];have:=hw.d.fl;omega
 log:=by rw[List.length_append,List.length_singleton];omega
 ap:=fun x hx hxw=>hw.d.ap x (by rw[List.take_append_of_le_length hw.d.fl]at hx;exact hx) hxw
 pnum:=⟨hw.d.pnum.1,by have:=hw.d.pnum.2;show w.d.pump.num<=((B+1:Nat):Int);omega⟩
 pout:=⟨hw.d.pout.1,fun x hx=>by obtain⟨a,b⟩:=hw.d.pout.2 x hx;exact⟨List.mem_append_left _ a,b⟩⟩
 pdone:=⟨by have:=hw.d.pdone.1;show w.d.pump.done.length<=B+1;omega,fun x hx=>by obtain⟨y,y1,y2⟩:=hw.d.pdone.2 x hx;exact⟨y,List.mem_append_left _ y1,y2⟩⟩
 clean:=⟨hc1,hc2⟩
 waits:=oA hw hm he
 asks:=by have:=hw.d.asks;show w.d.asks.length<=B+1;omega
 keys:=hw.d.keys
 ask:=fun a ha=>by
  have h0:=hw.d.ask a ha
  refine⟨h0.num,h0.key,h0.len,h0.calls,fun hx=>?_,h0.old⟩
  obtain⟨x1,x2⟩:=hX _ hx
  rw[Xr hw.d.fl]
  exact abF (h0.now x1) x2
 next:=⟨hw.d.next.1,by have:=hw.d.next.2;show w.d.next<=((B+1:Nat):Int);omega⟩
 n0:=hw.d.n0
 pu:=hw.d.pu
theorem iW{e:Entry}{x:Itm}(h:Cl H x)(he:e.write=true->e.key ≠ x.key):Cl (H++[e]) x:=by
 unfold Cl at h ⊢
 have:LW (H++[e]) x.key=LW H x.key:=by
  rw[iS]
  cases hw:e.write with
  | false=>rfl
  | true=>
   have:Ah e.key x.key=false:=by rw[A7];simpa using he hw
   rw[this];rfl
 rw[this];exact h
theorem wP{w:Wrk}(hw:WS C X B H f w){m:Msg}(hm:m ∈ C.ops){e:Entry}(he:VP C H m e)(hl:H.length<f+8):WS C (fun k=>X k\/k=e.key) (B+1) (H++[e]) f (PH (Fa (Fc w (CQ (H++[e]) f)) e.ver m) e.key):=by
 have hcl:∀ x ∈ Cd w.d.clean e.key,EZ x/\Cl (H++[e]) x:=fun x hx=>by
  obtain⟨h1,h2⟩:=List.mem_filter.1 hx
  have hne:¬ x.key=e.key:=by
   have:Ah x.key e.key=false:=by simpa using h2
   rw[A7]at this
   simpa using this
  exact⟨(hw.d.clean.2 x h1).1,iW (hw.d.clean.2 x h1).2 fun _ h=>hne h.symm⟩
 have hd:=iV (X':=fun k=>X k\/k=e.key) hw hm he hl (cl:=Cd w.d.clean e.key) (bz:=Sd w.d.busy (DY ((H++[e]).drop f)) w.c.high w.c.low) (by have h1:=KR w.d.clean e.key;have h2:=hw.d.clean.1;show(Cd w.d.clean e.key).length<=B+1;omega) hcl fun k hk=>⟨fun h=>hk (.inl h),fun _ h=>hk (.inr h.symm)⟩
 have ha:AD (CQ (H++[e]) f)=[]:=Mu _ _
 refine⟨hd,hw.c,?_,fun x hx=>?_,hw.just⟩
 ·show(w.out++AD (CQ (H++[e]) f)).length<=B+1
  rw[ha,List.append_nil]
  have:=hw.out;omega
 ·have hx:x ∈ w.out++AD (CQ (H++[e]) f):=hx
  rw[ha,List.append_nil]at hx
  exact(hw.said x hx).grow (Gr.snoc H e) he.hok.len
theorem oB{w:Wrk}(hw:WS C X B H f w){m:Msg}(hm:m ∈ C.ops){e:Entry}(he:VP C H m e)(hl:H.length<f+8)(hnw:e.write=false):WS C X (B+1) (H++[e]) f (Fq (Fa (Fc w (CQ (H++[e]) f)) e.ver m)):=by
 have hcl:∀ x ∈ w.d.clean,EZ x/\Cl (H++[e]) x:=fun x hx=>⟨(hw.d.clean.2 x hx).1,iW (hw.d.clean.2 x hx).2 fun h=>by rw[hnw]at h;cases h⟩
 have hd:=iV (X':=X) hw hm he hl (cl:=w.d.clean) (bz:=w.d.busy) (by have:=hw.d.clean.1;show w.d.clean.length<=B+1;omega) hcl fun k hk=>⟨hk,fun h=>by rw[hnw]at h;cases h⟩
 have ha:AD (CQ (H++[e]) f)=[]:=Mu _ _
 refine⟨hd,hw.c,?_,fun x hx=>?_,hw.just⟩
 ·show(w.out++AD (CQ (H++[e]) f)).length<=B+1
  rw[ha,List.append_nil]
  have:=hw.out;omega
 ·have hx:x ∈ w.out++AD (CQ (H++[e]) f):=hx
  rw[ha,List.append_nil]at hx
  exact(hw.said x hx).grow (Gr.snoc H e) he.hok.len
def To(C:Ctx)(X:Txt->Prop)(B:Nat)(H:List Entry)(f:Nat)(w:Wrk):Prop:=∃ H',Gr H H'/\WS C X B H' f w
theorem WS.to{w:Wrk}(h:WS C X B H f w):To C X B H f w:=⟨H,Gr.refl H,h⟩
theorem To.mono{D:Nat}{w:Wrk}(h:To C X B H f w)(hB:B<=D):To C X D H f w:=by
 obtain⟨H',a,b⟩:=h
 exact⟨H',a,b.mono hB⟩
theorem iX(c:CallF){B2:Nat}{w:Wrk}{m:Msg}(x:Itm)(hx:tx x.val)(hw:WS C X B H f w)(hm:m ∈ C.ops)(hck:Dp m.op K1=0)(hl:H.length<f+8)(hn:H.length<30)(hv:∀ y,EF H m.sess=some y->y.num<m.num)(h1:B+1<=B2)(h2:B2<=9000)
  (hEnd:∀ (e:Entry) (w':Wrk),e.write=true->VP C H m e->WS C (fun k=>X k\/k=m.op.key) (B+1) (H++[e]) f w'->w'.d.asks=w.d.asks->Sp c w' m.op.key/\To C X B2 (H++[e]) f (N4 c w' m.op.key)) :
  OI c w m x/\To C X B2 H f (Lk c w m x):=by
 have he:=wO hw hm hck hn hv x hx
 obtain⟨e,hee⟩:∃ e,Ek w m x=e:=⟨_,rfl⟩
 rw[hee]at he
 have hp:C0 (w.d.rep,e)=(CQ (H++[e]) f,true):=by rw[hw.d.rep];exact wK (by omega) hw.d.fl he.ver
 have ha:AD (CQ (H++[e]) f)=[]:=Mu _ _
 have hag:=VN he.hok f
 have hout:=hw.out
 have hcl:=hw.d.clean.1
 have hlog:((H++[e]).drop f).length<=8:=by rw[List.length_drop,List.length_append,List.length_singleton];omega
 have hes:Ke ((H++[e]).drop f):=⟨by omega,fun y hy=>⟨(he.hok.ent y (List.mem_of_mem_drop hy)).key,(he.hok.ent y (List.mem_of_mem_drop hy)).val⟩⟩
 have hE:e.write=true->Sp c (PH (Fa (Fc w (CQ (H++[e]) f)) e.ver m) e.key) e.key/\To C X B2 (H++[e]) f (N4 c (PH (Fa (Fc w (CQ (H++[e]) f)) e.ver m) e.key) e.key):=by
  intro hwr
  have hd:=wP hw hm he hl
  obtain⟨W,hW⟩:∃ W,PH (Fa (Fc w (CQ (H++[e]) f)) e.ver m) e.key=W:=⟨_,rfl⟩
  have hwa:W.d.asks=w.d.asks:=by rw[<- hW];rfl
  rw[hW]at hd ⊢
  rw[he.key]at hd ⊢
  exact hEnd e W hwr he hd hwa
 refine⟨⟨by rw[hw.d.rep];show(0:Int)<=1;omega,hw.d.last.2.1,⟨hw.d.short,⟨by have:=hw.d.loglen.2;show w.d.rep.tail.log.length<=10000;omega,hw.d.last.2.1,?_,hw.d.sok⟩⟩,by have:=hw.d.waits.1;omega,fun _=>?_⟩,?_⟩
 ·show Au (Ek w m x).ver
  rw[hee,he.ver];exact Hu (by omega)
 ·rw[hee,hp]
  exact⟨hag,by show w.out.length<=1000000;omega,by show(AD (CQ (H++[e]) f)).length<=100000;rw[ha];simp,fun _=>hes,fun _=>by show w.d.clean.length<=100000;omega,fun h=>(hE h).1⟩
 ·unfold Lk
  rw[hee,hp]
  dsimp only
  rw[Bool.not_true,cond_false]
  unfold UF
  cases hwr:e.write with
  | false=>rw[Bool.not_false,cond_true];exact⟨H++[e],Gr.snoc H e,(oB hw hm he hl hwr).mono h1⟩
  | true=>
   rw[Bool.not_true,cond_false]
   obtain⟨H',g,k⟩:=(hE hwr).2
   exact⟨H',(Gr.snoc H e).trans g,k⟩
end Go.Hd
end
noncomputable section
open Go Go.AM Go.Md
namespace Go.Hd
open Go.Wk
set_option maxRecDepth 100000
variable {C:Ctx} {X:Txt->Prop} {B:Nat} {H:List Entry} {f:Nat}
structure ais(H:List Entry)(f:Nat)(m:Msg):Prop where
 log:H.length<f+8
 num:H.length<30
 chk:Dp m.op K1=0
 new:∀ y,EF H m.sess=some y->y.num<m.num
theorem iY{w:Wrk}(hw:WS C X B H f w){m:Msg}(h:Kr w m=true):ais H f m:=by
 obtain⟨_,g⟩:=Ad h
 obtain⟨g2,g⟩:=Ad g
 obtain⟨g3,g⟩:=Ad g
 obtain⟨g4,g⟩:=Ad g
 obtain⟨g5,g6⟩:=Ad g
 simp only[Bool.not_eq_true']at g3 g4 g5 g6
 unfold HX at g5
 rw[Bool.or_eq_false_iff]at g5
 have h1:=of_decide_eq_false g5.1
 have h2:=of_decide_eq_false g6
 rw[hw.c]at h1 h2 g2
 have h1:¬ ((8:Int)<=(w.d.rep.tail.log.length:Int)):=h1
 have h2:¬ ((30:Int)<=(nu w.d.rep.tail.last:Int)):=h2
 rw[hw.d.last.2.2]at h2
 have hl:=hw.d.loglen.1
 have hf:=hw.d.fl
 refine⟨by omega,by omega,of_decide_eq_true g2,?_⟩
 rcases VO hw m with ⟨_,k⟩ | ⟨k,_⟩ | k
 ·exact k
 ·exact absurd k (of_decide_eq_false g3)
 ·exact absurd k (of_decide_eq_false g4)
theorem abG(v:Ver):AH v v=false:=by
 unfold AH
 rw[decide_eq_true rfl,cond_true]
 simp
theorem call_ok(c:CallF){B2:Nat}{w:Wrk}{m:Msg}(hm:m ∈ C.ops)(hw:WS C X B H f w)(h1:B+1<=B2)(h2:B2<=9000)(Q:Wrk->Prop)(hQ0:Q w)(hQr:∀ k,Q (FY w m k))(hQw:∀ v,Q (Fa w v m))
  (hf:Kr w m=true->ais H f m->FrOk c w m/\To C X B2 H f (FB c w m)/\Q (FB c w m)):VG c w m/\To C X B2 H f (Ks c w m)/\Q (Ks c w m):=by
 have ho:=hw.d.ops.op m hm
 have hcom:Au (Db w.d.rep):=by rw[hw.d.com];have:=hw.d.h.len;exact Hu (by omega)
 have hw2:To C X B2 H f w:=(hw.mono (by omega)).to
 refine⟨⟨by have:=hw.out;omega,by have:=hw.d.waits.1;omega,hw.d.sok,hw.d.last.2.1,hcom,fun h=>(hf h (iY hw h)).1⟩,?_⟩
 unfold Ks
 have g1:decide (m.gen<w.d.rep.view.gen)=false:=decide_eq_false (by rw[ho.gen,hw.d.rep];show ¬ ((0:Int)<0);omega)
 rw[g1,cond_false]
 cases g2:decide (Dp m.op w.c=0)with
 | false=>
  have hne:=of_decide_eq_false g2
  rw[hw.c]at hne ⊢
  exact⟨((hw.refuse (wM hw.d.ops hm hne)).mono h1).to,hQr _⟩
 | true=>
  have hck:=of_decide_eq_true g2
  rw[hw.c]at hck
  rw[Bool.not_true,cond_false]
  cases g3:decide (HY w m=1)with
  | true=>
   rcases VO hw m with ⟨k,_⟩ | ⟨_,y,k1,k2,k3⟩ | k
   ·have:=of_decide_eq_true g3;omega
   ·rw[cond_true,k3];exact⟨((hw.wait hm k1 k2).mono h1).to,hQw _⟩
   ·have:=of_decide_eq_true g3;omega
  | false=>
   rw[cond_false]
   cases g4:decide (HY w m=2)with
   | true=>exact⟨hw2,hQ0⟩
   | false=>
    rw[cond_false]
    cases g5:HX w m with
    | true=>exact⟨hw2,hQ0⟩
    | false=>
     rw[cond_false]
     cases g6:decide (w.c.maxSeq<=(nu w.d.rep.tail.last:Int))with
     | true=>
      rw[cond_true,hw.d.com,hw.d.last.1,abG,Bool.not_false,cond_true]
      have h30:=of_decide_eq_true g6
      rw[hw.c,hw.d.last.2.2]at h30
      have h30:(30:Int)<=(H.length:Int):=h30
      refine⟨((hw.refuse (abD hw.d.ops hm hck (by omega) fun e he hs=>?_)).mono h1).to,hQr 5⟩
      rcases VO hw m with ⟨_,k⟩ | ⟨k,_⟩ | k
      ·obtain⟨y,hy⟩:=Xp he
       rw[hs]at hy
       have:=k y hy
       have:=iR H hw.d.h.rise m.sess y hy e he hs
       omega
      ·exact absurd k (of_decide_eq_false g3)
      ·exact absurd k (of_decide_eq_false g4)
     | false=>
      have hg:Kr w m=true:=by unfold Kr;rw[g1,g2,g3,g4,g5,g6];rfl
      exact(hf hg (iY hw hg)).2
def Ll(w:Wrk)(k:Txt):Prop:=∀ a ∈ w.d.asks,a.key ≠ k
def Xs(H:List Entry)(f:Nat)(w:Wrk)(k:Txt):Prop:=(∃ e ∈ H.drop f,Tq k e)\/(w.isRead=true/\w.just.key=k)
theorem akM{w:Wrk}(hw:WS C X B H f w){k:Txt}(h:Xs H f w k):(A4 w k).2=(true,w):=by
 unfold A4
 cases hv:(Dt w.d.rep.tail k).2 with
 | true=>rfl
 | false=>
  have hn:LY (H.drop f) k:=by
   unfold Dt at hv
   rw[hw.d.rep]at hv
   unfold LY
   have e:(CQ H f).tail.log=H.drop f:=rfl
   rw[e]at hv
   cases ho:Da (H.drop f) k with
   | none=>rfl
   | some y=>rw[ho]at hv;cases hv
  rcases h with ⟨e,he,h1,h2⟩ | ⟨h1,h2⟩
  ·exact absurd h2 (KV.1 hn e he h1)
  ·have:Ah w.just.key k=true:=by rw[A7];simpa using h2
   rw[h1,this];rfl
theorem Xs.grow{H':List Entry}{w w':Wrk}{k:Txt}(h:Xs H f w k)(hg:Gr H H')(hf:f<=H.length)(h1:w'.just=w.just)(h2:w'.isRead=w.isRead):Xs H' f w' k:=by
 rcases h with ⟨e,he,h⟩ | h
 ·obtain⟨K,rfl⟩:=hg
  refine .inl ⟨e,?_,h⟩
  rw[List.drop_append_of_le_length hf]
  exact List.mem_append_left _ he
 ·exact .inr (by rw[h1,h2];exact h)
theorem bA{w:Wrk}{k:Txt}(h:Ll w k):Iy w k=w.d.asks.length:=List.findIdx_eq_length.2 fun a ha=>by
 have:=h a ha
 show Ah a.key k=false
 rw[A7];simpa using this
theorem iZ{c:CallF}{w:Wrk}{k:Txt}(h:Ll w k):N4 c w k=w:=by
 unfold N4
 rw[bA h,CI (Nat.le_refl _),cond_false]
def IT(w w':Wrk):Prop:=w'.d.asks=w.d.asks/\w'.just=w.just/\w'.isRead=w.isRead
theorem IT.refl(w:Wrk):IT w w:=⟨rfl,rfl,rfl⟩
theorem IT.trans{a b c:Wrk}(h:IT a b)(h':IT b c):IT a c:=⟨h'.1.trans h.1,h'.2.1.trans h.2.1,h'.2.2.trans h.2.2⟩
theorem Xt(c:CallF){w:Wrk}{m:Msg}(x:Itm)(hk:(Ek w m x).key=m.op.key)(hno:Ll w m.op.key):IT w (Lk c w m x):=by
 unfold Lk
 cases hp:(C0 (w.d.rep,Ek w m x)).2 with
 | false=>exact IT.refl w
 | true=>
  rw[Bool.not_true,cond_false]
  unfold UF
  cases (Ek w m x).write with
  | false=>exact⟨rfl,rfl,rfl⟩
  | true=>
   rw[Bool.not_true,cond_false,iZ (by rw[hk];exact hno)]
   exact⟨rfl,rfl,rfl⟩
theorem WS.less{w:Wrk}{k:Txt}(h:WS C (fun y=>X y\/y=k) B H f w)(hno:Ll w k):WS C X B H f w:=
 {h with d:={h.d with ask:=fun a ha=>{h.d.ask a ha with now:=fun hx=>(h.d.ask a ha).now fun h2=>h2.elim hx (hno a ha)}}}
theorem abH{w:Wrk}{q:Msg}(hw:WS C X B H f w)(hq:q ∈ C.ops)(hno:Ll w q.op.key)(hk:Xs H f w q.op.key)(hB:B+1<=9000) :
  VG .none w q/\To C X (B+1) H f (Ks .none w q)/\IT w (Ks .none w q):=by
 refine call_ok .none hq hw (Nat.le_refl _) hB (IT w) (IT.refl w) (fun k=>⟨rfl,rfl,rfl⟩) (fun v=>⟨rfl,rfl,rfl⟩) fun _ hg=>?_
 have hfw:=akM hw hk
 have hrest:∀ x,tx x.val->OI .none w q x/\To C X (B+1) H f (Lk .none w q x):=fun x hx=>iX .none x hx hw hq hg.chk hg.log hg.num hg.new (Nat.le_refl _) hB fun e w' hwr he hw' ha=>by
  have hno':Ll w' q.op.key:=fun a h=>hno a (by rw[<- ha];exact h)
  rw[iZ hno']
  exact⟨⟨by have:=hw'.d.asks;omega,fun hi=>by rw[bA hno']at hi;omega⟩,(hw'.less hno').to⟩
 have hkey:∀ x,tx x.val->(Ek w q x).key=q.op.key:=fun x hx=>(wO hw hq hg.chk hg.num hg.new x hx).key
 have hit:tx (A4 w q.op.key).1.val:=hw.item _
 have hd0:tx (default:Itm).val:=Nat.zero_le _
 have e1:(A4 w q.op.key).2.1=true:=by rw[hfw]
 have e2:(A4 w q.op.key).2.2=w:=by rw[hfw]
 refine⟨⟨fun _=>hw.fi (by omega),fun _ h=>(by rw[e1]at h;cases h),fun _ _=>(by rw[e2];exact(hrest _ hit).1),fun _=>(hrest _ hd0).1⟩,?_⟩
 unfold FB
 rw[e1,e2]
 cases CV w q with
 | true=>exact⟨(hrest _ hit).2,Xt .none _ (hkey _ hit) hno⟩
 | false=>exact⟨(hrest _ hd0).2,Xt .none _ (hkey _ hd0) hno⟩
theorem Ro{k:Txt}:∀ (l:List Msg) {B:Nat} {H:List Entry} {w:Wrk},WS C X B H f w->(∀ q ∈ l,q ∈ C.ops/\q.op.key=k)->Ll w k->Xs H f w k->B+l.length<=9000 ->
  Fp Iz w l/\To C X (B+l.length) H f (GY Iz w l)/\IT w (GY Iz w l)
 | [],B,H,w,hw,_,_,_,_=>⟨trivial,hw.to,IT.refl w⟩
 | q::l,B,H,w,hw,hq,hno,hk,hB=>by
  obtain⟨q1,q2⟩:=hq q (by simp)
  simp only[List.length_cons]at hB
  obtain⟨a,⟨H',g,b⟩,s⟩:=abH hw q1 (by rw[q2];exact hno) (by rw[q2];exact hk) (by omega)
  obtain⟨d,⟨H2,g2,e⟩,s2⟩:=Ro l b (fun x hx=>hq x (List.mem_cons_of_mem _ hx)) (fun y hy=>hno y (by rw[<- s.1];exact hy)) (hk.grow g hw.d.fl s.2.1 s.2.2) (by omega)
  refine⟨⟨a,d⟩,⟨H2,g.trans g2,?_⟩,s.trans s2⟩
  have:B+(q::l).length=B+1+l.length:=by simp;omega
  rw[this];exact e
theorem VQ{k:Txt}:∀ {l:List Md.Ask} {i:Nat},(l.Pairwise fun a b=>a.key ≠ b.key)->i<l.length->(l.getD i default).key=k -> ∀ a ∈ l.eraseIdx i,a.key ≠ k
 | [],i,_,hi,_=>absurd hi (Nat.not_lt_zero i)
 | x::r,0,h,_,hk=>fun a ha=>by
  have:=(List.pairwise_cons.1 h).1 a (by simpa using ha)
  rw[<- hk];exact fun e=>this e.symm
 | x::r,i+1,h,hi,hk=>fun a ha=>by
  have hr:=List.pairwise_cons.1 h
  have hi':i<r.length:=by simpa using hi
  have hm:r.getD i default ∈ r:=getD_mem (z:=(default:Md.Ask)) hi'
  rcases List.mem_cons.1 (by simpa using ha:a ∈ x::r.eraseIdx i)with rfl | ha
  ·rw[<- hk];exact hr.1 _ hm
  ·exact VQ hr.2 hi' hk a ha
theorem WS.drop{w:Wrk}(h:WS C X B H f w)(i:Nat):WS C X B H f (Rl w (w.d.asks.eraseIdx i)):=
 {h with d:={h.d with
   asks:=by have:=h.d.asks;have h2:(w.d.asks.eraseIdx i).length<=w.d.asks.length:=(List.eraseIdx_sublist w.d.asks i).length_le;show(w.d.asks.eraseIdx i).length<=B;omega
   keys:=h.d.keys.sublist (List.eraseIdx_sublist _ _)
   ask:=fun a ha=>h.d.ask a ((List.eraseIdx_sublist w.d.asks i).subset ha)}}
theorem afy{w:Wrk}{k:Txt}(hw:WS C (fun y=>X y\/y=k) B H f w)(hk:Xs H f w k)(hB:B+8<=9000):Sp Iz w k/\To C X (B+8) H f (N4 Iz w k):=by
 unfold Sp N4
 by_cases hi:Iy w k<w.d.asks.length
 ·have hmem:w.d.asks.getD (Iy w k) default ∈ w.d.asks:=getD_mem (z:=(default:Md.Ask)) hi
  have ha:=hw.d.ask _ hmem
  have hkey:(w.d.asks.getD (Iy w k) default).key=k:=by
   have hg:w.d.asks.getD (Iy w k) default=w.d.asks[Iy w k]:=by simp[List.getD,hi]
   have:=List.findIdx_getElem (p:=Tu k) (xs:=w.d.asks) (w:=hi)
   rw[hg]
   have t:Ah (w.d.asks[Iy w k]).key k=true:=this
   rw[A7]at t
   simpa using t
  have hno:Ll (Rl w (w.d.asks.eraseIdx (Iy w k))) k:=VQ hw.d.keys hi hkey
  have hl:=ha.len
  obtain⟨a,b,_⟩:=Ro (k:=k) (w.d.asks.getD (Iy w k) default).calls ((hw.drop (Iy w k)).less hno) (fun q hq=>⟨(ha.calls q hq).1,(ha.calls q hq).2.trans hkey⟩) hno hk (by omega)
  rw[AB hi,cond_true]
  exact⟨⟨by have:=hw.d.asks;omega,fun _=>⟨by omega,a⟩⟩,b.mono (by omega)⟩
 ·rw[CI (by omega),cond_false]
  have hno:Ll w k:=fun a ha he=>hi (List.findIdx_lt_length_of_exists ⟨a,ha,by show Ah a.key k=true;rw[A7];simpa using he⟩)
  exact⟨⟨by have:=hw.d.asks;omega,fun h=>absurd h hi⟩,((hw.less hno).mono (by omega)).to⟩
theorem abI{w:Wrk}{q:Msg}(hw:WS C X B H f w)(hq:q ∈ C.ops)(hB:B+10<=9000)(hnt:Kr w q=true->CV w q=true->(A4 w q.op.key).2.1=false->aP (A4 w q.op.key).2.2 q) :
  VG Iz w q/\To C X (B+10) H f (Ks Iz w q):=by
 have:=call_ok Iz (B2:=B+10) (m:=q) hq hw (by omega) hB (fun _=>True) trivial (fun _=>trivial) (fun _=>trivial) fun hg go=>?_
 ·exact⟨this.1,this.2.1⟩
 have hit:tx (A4 w q.op.key).1.val:=hw.item _
 have hd0:tx (default:Itm).val:=Nat.zero_le _
 have hrest:∀ (w1:Wrk) x,tx x.val->WS C X (B+1) H f w1->OI Iz w1 q x/\To C X (B+10) H f (Lk Iz w1 q x):=fun w1 x hx hw1=>iX Iz x hx hw1 hq go.chk go.log go.num go.new (by omega) hB fun e w' hwr he hw' ha=>by
  have hk':Xs (H++[e]) f w' q.op.key:=.inl ⟨e,by rw[Xr hw.d.fl];simp,hwr,he.key⟩
  have:=afy hw' hk' (by omega)
  exact⟨this.1,this.2.mono (by omega)⟩
 have hf:=hw.find q.op.key
 refine⟨⟨fun _=>hw.fi (by omega),fun ha hg2=>hf.askOk (by omega) hq (hnt hg ha hg2),fun _ _=>(hrest _ _ hit hf).1,fun _=>(hrest w default hd0 (hw.mono (by omega))).1⟩,?_,trivial⟩
 unfold FB
 cases CV w q with
 | false=>exact(hrest w default hd0 (hw.mono (by omega))).2
 | true=>
  cases hc:(A4 w q.op.key).2.1 with
  | false=>exact((hf.ask hq (wN hw hc)).mono (by omega)).to
  | true=>exact(hrest _ _ hit hf).2
end Go.Hd
end
noncomputable section
open Go Go.AM Go.Md
namespace Go.Hd
open Go.Wk
set_option maxRecDepth 100000
variable {C:Ctx} {X:Txt->Prop} {B:Nat} {H:List Entry} {f:Nat}
theorem ID{a b:Txt}:Ah a b=true ↔ a=b:=by rw[A7];simp
theorem NH{k s:Txt}{ks:List Txt}:BH k (Gy ks s)=true ↔ BH k ks=true\/k=s:=by
 unfold Gy
 cases h:BH s ks with
 | true=>
  rw[cond_true]
  exact⟨.inl,fun h2=>h2.elim id fun e=>by rw[e];exact h⟩
 | false=>
  rw[cond_false,Dy,Dy]
  simp
theorem wQ(l:List Itm)(x:Itm):Cb (l++[x])=ZI (Cb l) x:=by unfold Cb;rw[List.foldl_append];rfl
theorem afz(l:List Itm)(k:Txt):BH k (Cb l).1=true -> ∃ x ∈ l,x.key=k/\(Cb l).2 k=x.ver:=by
 revert k
 refine M5 (P:=fun l=>∀ k,BH k (Cb l).1=true -> ∃ x ∈ l,x.key=k/\(Cb l).2 k=x.ver) ?_ ?_ l
 ·intro k h;cases h
 ·intro l x ih k h
  rw[wQ]at h ⊢
  show ∃ y ∈ l++[x],y.key=k/\Dx (Cb l).2 x.key x.ver k=y.ver
  unfold Dx
  by_cases hk:k=x.key
  ·refine⟨x,by simp,hk.symm,?_⟩
   rw[ID.2 hk];rfl
  ·rcases NH.1 (show BH k (Gy (Cb l).1 x.key)=true from h)with h | h
   ·obtain⟨y,y1,y2,y3⟩:=ih k h
    refine⟨y,List.mem_append_left _ y1,y2,?_⟩
    have:Ah k x.key=false:=by
     cases hb:Ah k x.key with
     | false=>rfl
     | true=>exact absurd (ID.1 hb) hk
    rw[this];exact y3
   ·exact absurd h hk
theorem oC(h:FP C H){done:List Itm}(hd:∀ x ∈ done,∃ e ∈ H,e.write=true/\x=Jw e/\Ap C e){e:Entry}(hs:EE e (Cb done)=true)(hw:e.write=true):Ap C e:=by
 unfold EE at hs
 rw[hw,Bool.not_true,Bool.false_or]at hs
 obtain⟨s1,s2⟩:=Ad hs
 obtain⟨x,hx,hk,hv⟩:=afz done e.key s1
 obtain⟨y,hy,_,rfl,z,z1,z2⟩:=hd x hx
 have hk:y.key=e.key:=hk
 rw[hv]at s2
 have s2:AH (Jw y).ver e.ver=false:=by simpa using s2
 exact⟨z,by rw[<- hk];exact z1,(ad2 s2).trans z2⟩
theorem afA(h:FP C H){done:List Itm}(hd:∀ x ∈ done,∃ e ∈ H,e.write=true/\x=Jw e/\Ap C e):∀ (n g:Nat),g+n=H.length -> ∃ g',g<=g'/\g'<=H.length/\MW (Cb done) (v1 H.length) (v1 g) (H.drop g)=v1 g' /\ ∀ e ∈ (H.drop g).take (g' - g),e.write=true->Ap C e:=by
 intro n
 induction n with
 | zero=>
  intro g hg
  refine⟨g,Nat.le_refl _,by omega,?_,fun e he=>?_⟩
  ·rw[List.drop_eq_nil_of_le (by omega)];rfl
  ·rw[Nat.sub_self]at he;cases he
 | succ n ih=>
  intro g hg
  have hgl:g<H.length:=by omega
  have hl:=h.len
  rw[List.drop_eq_getElem_cons hgl]
  show ∃ g',g<=g'/\g'<=H.length/\(bif !EE H[g] (Cb done)||AH (v1 H.length) (H[g]).ver then v1 g else MW (Cb done) (v1 H.length) (H[g]).ver (H.drop (g+1)))=v1 g'/\_
  cases hc:!EE H[g] (Cb done)||AH (v1 H.length) (H[g]).ver with
  | true=>
   refine⟨g,Nat.le_refl _,by omega,rfl,fun e he=>?_⟩
   rw[Nat.sub_self]at he;cases he
  | false=>
   rw[Bool.or_eq_false_iff]at hc
   obtain⟨g',a1,a2,a3,a4⟩:=ih (g+1) (by omega)
   refine⟨g',by omega,a2,?_,fun e he hw=>?_⟩
   ·rw[cond_false,h.ver g hgl];exact a3
   ·rw[show g' - g=(g' - (g+1))+1 by omega,List.take_succ_cons]at he
    rcases List.mem_cons.1 he with rfl | he
    ·exact oC h hd (by simpa using hc.1) hw
    ·exact a4 e he hw
theorem Qa(b:List Entry):∀ (a:List Entry) (i:Nat) (M:MC),CU (a++b) i M=CU b (i+a.length) (CU a i M)
 | [],i,M=>rfl
 | x::a,i,M=>by
  show CU (a++b) (i+1) (Sm M i x)=_
  rw[Qa b a (i+1),List.length_cons,show i+1+a.length=i+(a.length+1) by omega];rfl
theorem abJ(L:List Entry)(k:Txt):∀ e,Da L k=some e->BH k (CU L 0 ([],fun _=>0)).1=true /\ ∃ i:Nat,L[i]? = some e/\(CU L 0 ([],fun _=>0)).2 k=(i:Int):=by
 refine M5 (P:=fun L=>∀ e,Da L k=some e->BH k (CU L 0 ([],fun _=>0)).1=true /\ ∃ i:Nat,L[i]? = some e/\(CU L 0 ([],fun _=>0)).2 k=(i:Int)) ?_ ?_ L
 ·intro e h;cases h
 ·intro L x ih e h
  have h':LW (L++[x]) k=some e:=h
  rw[iS]at h'
  rw[Qa,Nat.zero_add]
  show BH k (Sm (CU L 0 ([],fun _=>0)) L.length x).1=true /\ ∃ i:Nat,(L++[x])[i]? = some e/\(Sm (CU L 0 ([],fun _=>0)) L.length x).2 k=(i:Int)
  unfold Sm
  cases hc:x.write&&Ah x.key k with
  | true=>
   rw[hc,cond_true]at h'
   cases h'
   obtain⟨c1,c2⟩:=Ad hc
   have c2:=ID.1 c2
   rw[c1,cond_true]
   refine⟨NH.2 (.inr c2.symm),L.length,by simp,?_⟩
   show Dx _ x.key (L.length:Int) k=_
   unfold Dx
   rw[ID.2 c2.symm];rfl
  | false=>
   rw[hc,cond_false]at h'
   obtain⟨a1,i,a2,a3⟩:=ih e h'
   have hi:i<L.length:=(List.getElem?_eq_some_iff.1 a2).1
   have a2':(L++[x])[i]? = some e:=by rw[List.getElem?_append_left hi];exact a2
   cases hw:x.write with
   | false=>exact⟨a1,i,a2',a3⟩
   | true=>
    rw[hw,Bool.true_and]at hc
    rw[cond_true]
    refine⟨NH.2 (.inl a1),i,a2',?_⟩
    show Dx _ x.key (L.length:Int) k=_
    unfold Dx
    have:Ah k x.key=false:=by
     cases hb:Ah k x.key with
     | false=>rfl
     | true=>rw[ID.2 (ID.1 hb).symm]at hc;cases hc
    rw[this];exact a3
theorem afB{L:List Entry}{i:Nat}(hi:i<L.length)(h:OE (CU L 0 ([],fun _=>0)) i L[i]=true):Da L (L[i]).key=some L[i]:=by
 obtain⟨h1,h2⟩:=Ad h
 have hne:¬ LY L (L[i]).key:=fun hn=>KV.1 hn L[i] (List.getElem_mem hi) h1 rfl
 cases hv:Da L (L[i]).key with
 | none=>exact absurd hv hne
 | some e=>
  obtain⟨a1,j,a2,a3⟩:=abJ L (L[i]).key e hv
  rw[a1,cond_true,a3]at h2
  have:j=i:=by have:=of_decide_eq_true h2;omega
  subst this
  rw[List.getElem?_eq_getElem hi]at a2
  exact a2.symm
theorem abK{v:Ver}{room:Int}{L:List Entry}:∀ (n i:Nat) (D:List Itm),i+n=L.length->(GW v room (CU L 0 ([],fun _=>0)) (L.drop i) i D).length<=D.length+n /\ ∀ x ∈ GW v room (CU L 0 ([],fun _=>0)) (L.drop i) i D,x ∈ D \/ ∃ e ∈ L,Da L e.key=some e/\x=Eu e:=by
 intro n
 induction n with
 | zero=>
  intro i D hi
  rw[List.drop_eq_nil_of_le (by omega)]
  exact⟨by show D.length<=_;omega,fun x hx=>.inl hx⟩
 | succ n ih=>
  intro i D hi
  have hil:i<L.length:=by omega
  rw[List.drop_eq_getElem_cons hil]
  show(bif AH v (L[i]).ver then D else GW v room (CU L 0 ([],fun _=>0)) (L.drop (i+1)) (i+1) (Ix room (CU L 0 ([],fun _=>0)) i L[i] D)).length<=_ /\ ∀ x ∈ (bif AH v (L[i]).ver then D else GW v room (CU L 0 ([],fun _=>0)) (L.drop (i+1)) (i+1) (Ix room (CU L 0 ([],fun _=>0)) i L[i] D)),_
  cases AH v (L[i]).ver with
  | true=>exact⟨by rw[cond_true];omega,fun x hx=>.inl hx⟩
  | false=>
   rw[cond_false]
   obtain⟨a1,a2⟩:=ih (i+1) (Ix room (CU L 0 ([],fun _=>0)) i L[i] D) (by omega)
   have hS:(Ix room (CU L 0 ([],fun _=>0)) i L[i] D).length<=D.length+1 /\ ∀ x ∈ Ix room (CU L 0 ([],fun _=>0)) i L[i] D,x ∈ D \/ ∃ e ∈ L,Da L e.key=some e/\x=Eu e:=by
    unfold Ix
    cases hl:OE (CU L 0 ([],fun _=>0)) i L[i]with
    | false=>exact⟨by rw[cond_false];omega,fun x hx=>.inl hx⟩
    | true=>
     refine⟨PD (D,Eu L[i],room),fun x hx=>?_⟩
     rcases Tp (D,Eu L[i],room) x hx with hx | rfl
     ·exact .inl hx
     ·exact .inr ⟨L[i],List.getElem_mem hil,afB hil hl,rfl⟩
   refine⟨by omega,fun x hx=>?_⟩
   rcases a2 x hx with hx | hx
   ·exact hS.2 x hx
   ·exact .inr hx
theorem afC{e:Entry}(h:Da (H.drop f) e.key=some e):LW H e.key=some e:=by
 unfold LW
 rw[<- List.take_append_drop f H,N9,h]
theorem afD{e:Entry}(h:LW H e.key=some e):Cl H (Eu e):=by
 unfold Cl
 have:(Eu e).key=e.key:=rfl
 rw[this,h]
 refine⟨rfl,fun hd=>?_⟩
 show(bif !e.del then e.val else [])=e.val
 rw[hd];rfl
theorem bB{log:List Entry}{upto:Ver}:∀ (r:List Entry) (i:Nat) (M:MC),log.drop i=r->(∀ k,BH k M.1=true -> ∃ j:Nat,M.2 k=(j:Int) /\ ∃ e,log[j]? = some e/\e.write=true) ->
  ∀ k,BH k (Iw upto r i M).1=true -> ∃ j:Nat,(Iw upto r i M).2 k=(j:Int) /\ ∃ e,log[j]? = some e/\e.write=true
 | [],_,_,_,h=>h
 | e::r,i,M,hr,h=>by
  have hi:i<log.length:=by
   rcases Nat.lt_or_ge i log.length with h | h
   ·exact h
   ·rw[List.drop_eq_nil_of_le h]at hr;cases hr
  rw[List.drop_eq_getElem_cons hi]at hr
  obtain⟨he,hr⟩:=List.cons.inj hr
  refine bB r (i+1) (Lg upto M i e) hr fun k hk=>?_
  unfold Lg at hk ⊢
  cases hc:e.write && !AH upto e.ver with
  | false=>rw[hc,cond_false]at hk;rw[cond_false];exact h k hk
  | true=>
   rw[hc,cond_true]at hk
   rw[cond_true]
   obtain⟨c1,_⟩:=Ad hc
   show ∃ j:Nat,Dx M.2 e.key (i:Int) k=(j:Int)/\_
   unfold Dx
   cases hb:Ah k e.key with
   | true=>exact⟨i,rfl,e,by rw[List.getElem?_eq_getElem hi,he],c1⟩
   | false=>
    rw[cond_false]
    rcases NH.1 hk with hk | hk
    ·exact h k hk
    ·rw[ID.2 hk]at hb;cases hb
theorem abL(p:BaA):∀ e ∈ E7 p,e ∈ p.t.log/\e.write=true:=by
 intro e he
 unfold E7 QY at he
 obtain⟨i,hi,rfl⟩:=List.mem_map.1 he
 have hi:=List.mem_of_mem_take hi
 have hi:i ∈ Gh p.t (Cb p.done) (Ut p) (Ut p).1:=(IQ _ _).mem_iff.1 hi
 obtain⟨hi,_⟩:=List.mem_filter.1 hi
 obtain⟨k,hk,rfl⟩:=List.mem_map.1 hi
 obtain⟨j,h1,e,h2,h3⟩:=bB (log:=p.t.log) (upto:=p.upto) p.t.log 0 ([],fun _=>0) rfl (fun k hk=>by cases hk) k ((Dy _ _).2 hk)
 have h1:(Ut p).2 k=(j:Int):=h1
 rw[h1,Int.toNat_natCast]
 have:p.t.log.getD j default=e:=by simp[List.getD,h2]
 rw[this]
 exact⟨List.mem_of_getElem? h2,h3⟩
end Go.Hd
end
noncomputable section
open Go Go.AM Go.Md
namespace Go.Hd
open Go.Wk
set_option maxRecDepth 100000
variable {C:Ctx} {X:Txt->Prop} {B:Nat} {H:List Entry} {f:Nat}
structure UP(H:List Entry)(f:Nat)(p:Pump)(x:Msg):Prop where
 kd:x.kind=15
 dst:x.dst=0
 shard:x.shard=0
 epoch:x.epoch=1
 sboot:x.sboot=1
 src:x.src=2
 ver:x.ver=⟨0,0⟩
 num:x.num<=p.num
 now:x.num=p.num->p.out=[]\/x.entries=p.out
 ents:x.entries.length<=12 /\ ∀ e ∈ x.entries,e ∈ H/\e.write=true
 floor:∃ g,g<=f/\x.floor=v1 g
def akN(C:Ctx)(H:List Entry)(f:Nat)(d:Md.Desk)(x:Msg):Prop:=PN C H d.next x\/UP H f d.pump x
structure Lft(C:Ctx)(B:Nat)(H:List Entry)(f:Nat)(w:Wrk):Prop where
 d:DS C X0 B H f w.d
 out:w.out.length<=B+B+100
 said:∀ x ∈ w.out,akN C H f w.d x
theorem ait{w:Wrk}(hw:WS C X B H f w){x:Wait}(hx:WtI H x):LO C H (aa6 w x):=by
 obtain⟨h1,e,h2,h3,h4⟩:=hx
 obtain⟨m1,m2⟩:=PK h2
 have hf:=hw.d.find x.sess
 rw[h2]at hf
 obtain⟨q,q1,q2,q3,q4⟩:=hw.d.h.call e m1
 refine⟨rfl,h1,q,q1,?_,?_,.inr (.inr ⟨q4,e,m1,m2,h3,?_,?_,?_,?_⟩)⟩
 ·rw[q2,m2];rfl
 ·rw[q3,h3];rfl
 ·show(Bt w.d.rep.seen x.sess).1.code=e.code;rw[hf];rfl
 ·show(Bt w.d.rep.seen x.sess).1.res=e.res;rw[hf];rfl
 ·show(Bt w.d.rep.seen x.sess).1.hasRes=e.hasRes;rw[hf];rfl
 ·show(Bt w.d.rep.seen x.sess).1.ver=e.ver;rw[hf];rfl
theorem wR{d:Md.Desk}(hw:DS C X B H f d){p:Pump}(ho:p.out.length<=12 /\ ∀ e ∈ p.out,e ∈ H/\e.write=true):∀ x ∈ A8 (p,d.rep),UP H f p x:=by
 intro x hx
 unfold A8 at hx
 cases hc:p.out.isEmpty with
 | true=>rw[hc]at hx;cases hx
 | false=>
  rw[hc]at hx
  rw[List.mem_singleton.1 (show x ∈ [Uu p d.rep] from hx),hw.rep]
  exact⟨rfl,rfl,rfl,rfl,rfl,rfl,rfl,Int.le_refl _,fun _=>.inr rfl,ho,f,Nat.le_refl _,rfl⟩
theorem akO{w:Wrk}(hw:DS C X B H f w.d){p:Pump}(_:1<=p.num)(ho:p.out.length<=12 /\ ∀ e ∈ p.out,e ∈ H/\e.write=true):∀ x ∈ A8 (p,w.d.rep),UP H f p x:=wR hw ho
theorem Xu{w:Wrk}(m:Msg)(h:WS C X0 B H f w)(hB:B+8<=8000):Jz w m /\ ∃ f',f<=f'/\Lft C (B+8) H f' (GZ w m):=by
 have hcomv:CE w=v1 H.length:=h.d.com
 have h30:=h.d.h.len
 have hcom:Au (CE w):=by rw[hcomv];exact Hu (by omega)
 have hlog:w.d.rep.tail.log=H.drop f:=by rw[h.d.rep];rfl
 have hfl:w.d.rep.tail.floor=v1 f:=by rw[h.d.rep];rfl
 obtain⟨f',f1,f2,f3,f4⟩:=afA h.d.h h.d.pdone.2 (H.length - f) f (by have:=h.d.fl;omega)
 have hupv:FC w=v1 f':=by
  unfold FC Py
  show MW (Cb w.d.pump.done) (CE w) w.d.rep.tail.floor w.d.rep.tail.log=v1 f'
  rw[hcomv,hfl,hlog];exact f3
 have hup:Au (FC w):=by rw[hupv];exact Hu (by omega)
 have hlen:=h.d.loglen.2
 have hcl:=h.d.clean.1
 have hout:=h.out
 have hwl:=h.d.waits.1
 have hpl:=h.d.pdone.1
 have hpo:=h.d.pout.1
 have hver:∀ e ∈ w.d.rep.tail.log,Au e.ver:=fun e he=>h.d.h.num (h.d.vlog e he)
 have hdv:∀ x ∈ w.d.pump.done,Au x.ver:=fun x hx=>by
  obtain⟨e,e1,_,rfl,_⟩:=h.d.pdone.2 x hx
  exact h.d.h.num e1
 obtain⟨c1,c2⟩:=abK (v:=FC w) (room:=w.c.room) (L:=w.d.rep.tail.log) w.d.rep.tail.log.length 0 w.d.clean (Nat.zero_add _)
 rw[List.drop_zero]at c1 c2
 have hC:∀ x ∈ uE (FC w) w.c.room w.d.rep.tail.log w.d.clean,EZ x/\Cl H x:=fun x hx=>by
  rcases c2 x hx with hx | ⟨e,he,hv,rfl⟩
  ·exact h.d.clean.2 x hx
  ·have hE:=h.d.h.ent e (h.d.vlog e he)
   refine⟨⟨hE.key,?_⟩,afD (afC (f:=f) (by rw[<- hlog];exact hv))⟩
   show(bif !e.del then e.val else []).length<=2000
   cases e.del with
   | true=>exact Nat.zero_le _
   | false=>exact hE.val
 have h1:WS C X0 (B+8) H f (Ez w (FC w)):=(h.mono (show B<=B+8 by omega)).setClean (by show(GW _ _ _ _ _ _).length<=B+8;omega) hC
 have hrep:Jp (Ez w (FC w)).d.rep (FC w)=CQ H f':=by
  show Jp w.d.rep (FC w)=_
  rw[h.d.rep,hupv]
  exact wL h.d.h.ver (by omega) f1 f2
 have h2:WS C X0 (B+8) H f' (FD w):=by
  have e:FD w=Fc (Ez w (FC w)) (CQ H f'):=by unfold FD;rw[hrep]
  rw[e]
  refine {h1 with d:={h1.d with rep:=rfl,fl:=f2,log:=by have:=h1.d.log;omega,ap:=fun x hx hw=>?_,ask:=fun a ha=>?_}}
  ·have e2:H.take f'=H.take f++(H.drop f).take (f' - f):=by
    conv=>lhs;rw[show f'=f+(f' - f) by omega]
    rw[List.take_add]
   rw[e2]at hx
   rcases List.mem_append.1 hx with hx | hx
   ·exact h.d.ap x hx hw
   ·exact f4 x hx hw
  ·have h0:=h1.d.ask a ha
   refine {h0 with now:=fun hx=>?_}
   have:=h0.now hx
   rw[KV]at this ⊢
   intro e he
   exact this e (by rw[show f'=f+(f' - f) by omega,<- List.drop_drop]at he;exact List.mem_of_mem_drop he)
 have hdl:(CW w).d.pump.done.length<=B:=Nat.le_trans (List.length_filter_le _ _) hpl
 have h3:WS C X0 (B+8) H f' (CW w):={h2 with d:={h2.d with pnum:=h2.d.pnum,pout:=h2.d.pout,pdone:=⟨by omega,fun x hx=>h.d.pdone.2 x (List.mem_filter.1 hx).1⟩}}
 have h4:WS C X0 (B+8) H f' (C9 (CW w)):={h3 with d:={h3.d with rep:=h3.d.rep}}
 have hwl4:(C9 (CW w)).d.waits.length<=B:=hwl
 have hsaid:(Fb (C9 (CW w)) (CE w) (C9 (CW w)).d.waits).length<=B:=by
  unfold Fb
  rw[List.length_map]
  exact Nat.le_trans (List.length_filter_le _ _) hwl4
 have hao:(BL w).out.length<=B+B:=by
  show((C9 (CW w)).out++Fb (C9 (CW w)) (CE w) (C9 (CW w)).d.waits).length<=B+B
  rw[List.length_append]
  have:(C9 (CW w)).out.length<=B:=hout
  omega
 have h5:DS C X0 (B+8) H f' (BL w).d:={h4.d with waits:=⟨Nat.le_trans (List.length_filter_le _ _) h4.d.waits.1,fun x hx=>h4.d.waits.2 x (List.mem_filter.1 hx).1⟩}
 have hlog5:=h5.loglen.2
 have hsay:∀ x ∈ (BL w).out,PN C H (BL w).d.next x:=fun x hx=>by
  rcases List.mem_append.1 (show x ∈ (C9 (CW w)).out++Fb (C9 (CW w)) (CE w) (C9 (CW w)).d.waits from hx)with hx | hx
  ·exact h4.said x hx
  ·obtain⟨y,hy,rfl⟩:=List.mem_map.1 hx
   exact .inl (ait h4 (h4.d.waits.2 y (List.mem_filter.1 hy).1))
 have hver5:∀ e ∈ (BL w).d.rep.tail.log,Au e.ver:=fun e he=>h5.h.num (h5.vlog e he)
 have hdv5:∀ x ∈ (BL w).d.pump.done,Au x.ver:=fun x hx=>by
  obtain⟨e,e1,_,rfl,_⟩:=h5.pdone.2 x hx
  exact h5.h.num e1
 have hba:Xc (ET (BL w) (CE w)).ba:=⟨by show(BL w).d.rep.tail.log.length<=12;omega,by show(BL w).d.pump.done.length<=100000;have:=h5.pdone.1;omega,hcom,hver5,hdv5⟩
 have hnum:0<=w.d.pump.num/\w.d.pump.num<=B:=h.d.pnum
 have hst:(Cn (ET (BL w) (CE w))).1.out.length<=12/\(∀ e ∈ (Cn (ET (BL w) (CE w))).1.out,e ∈ H/\e.write=true)/\(0<=(Cn (ET (BL w) (CE w))).1.num/\(Cn (ET (BL w) (CE w))).1.num<=((B+8:Nat):Int))/\(Cn (ET (BL w) (CE w))).1.done=(BL w).d.pump.done /\
   ((Cn (ET (BL w) (CE w))).2=true->1<=(Cn (ET (BL w) (CE w))).1.num)/\SV C.p0 (Cn (ET (BL w) (CE w))).1:=by
  have hn5:(BL w).d.pump.num=w.d.pump.num:=rfl
  unfold Cn
  cases (ET (BL w) (CE w)).p.out.isEmpty with
  | false=>exact⟨h5.pout.1,h5.pout.2,h5.pnum,rfl,fun h=>(by cases h),h5.pu⟩
  | true=>
   cases (E7 (ET (BL w) (CE w)).ba).isEmpty with
   | true=>exact⟨h5.pout.1,h5.pout.2,h5.pnum,rfl,fun h=>(by cases h),h5.pu⟩
   | false=>
    have hw1:IntKind.i64.wrap ((ET (BL w) (CE w)).p.num+1)=w.d.pump.num+1:=by
     show IntKind.i64.wrap (w.d.pump.num+1)=_
     rw[IntKind.wrap_i64];omega
    refine⟨Xd hba,fun e he=>?_,?_,rfl,fun _=>?_,.inl ?_⟩
    ·obtain⟨b1,b2⟩:=abL (ET (BL w) (CE w)).ba e he
     exact⟨h5.vlog e b1,b2⟩
    ·show 0<=IntKind.i64.wrap _/\IntKind.i64.wrap _<=_
     rw[hw1];omega
    ·show 1<=IntKind.i64.wrap _
     rw[hw1];omega
    ·show C.p0.num<IntKind.i64.wrap _
     rw[hw1]
     rcases(show SV C.p0 w.d.pump from h.d.pu)with h | ⟨h,_⟩ <;> omega
 refine⟨⟨⟨by show w.d.rep.tail.log.length<=100000;omega,by show w.d.pump.done.length<=100000;omega,hcom,hver,hdv⟩,
  ⟨hup,fun e he=>⟨hver e he,(h.d.h.ent e (h.d.vlog e he)).key,(h.d.h.ent e (h.d.vlog e he)).val⟩,⟨by omega,fun x hx=>(h.d.clean.2 x hx).1⟩,by omega⟩,
  ⟨h1.d.short,⟨by show w.d.rep.tail.log.length<=10000;omega,?_,?_,hup,hver,?_⟩⟩,
  ⟨⟨by show w.d.pump.out.length<=100000;omega,by show w.d.pump.done.length<=100000;omega⟩,by show(FD w).d.rep.tail.log.length<=100000;have:=h2.d.loglen.2;omega⟩,
  h3.d.es,
  ⟨h4.d.sok,hcom,?_,by omega,by show w.out.length<=1000000;omega,fun x hx=>?_⟩,
  ⟨⟨by show w.d.pump.out.length<=100000;omega,by show(CW w).d.pump.done.length<=100000;omega⟩,hba⟩,
  by omega,by omega⟩,f',f1,?_⟩
 ·show Au w.d.rep.tail.floor;rw[hfl];exact Hu (by omega)
 ·exact h.d.last.2.1
 ·show Fy w.d.rep.tail.floor w.d.rep.tail.last
  rw[hfl,h.d.last.1]
  unfold Fy
  rw[Mt (by omega) (by have:=h.d.fl;omega)]
  have:=h.d.fl
  simp;omega
 ·rw[h4.d.rep];exact Hu (by omega)
 ·obtain⟨_,e,e1,_,e3⟩:=h4.d.waits.2 x hx
  rw[e3];exact h.d.h.num (PK e1).1
 unfold GZ
 cases nN (BL w) m with
 | true=>exact⟨h5,by rw[cond_true];omega,fun x hx=>.inl (hsay x hx)⟩
 | false=>
  rw[cond_false]
  have hP:DS C X0 (B+8) H f' (IS (BL w) (Cn (ET (BL w) (CE w))).1).d:={h5 with pnum:=hst.2.2.1,pout:=⟨hst.1,hst.2.1⟩,pu:=hst.2.2.2.2.2,pdone:=by show(Cn (ET (BL w) (CE w))).1.done.length<=B+8 /\ ∀ x ∈ (Cn (ET (BL w) (CE w))).1.done,_;rw[hst.2.2.2.1];exact h5.pdone}
  unfold nM
  cases hb:(Cn (ET (BL w) (CE w))).2 with
  | true=>
   have hfl:=UG ((Cn (ET (BL w) (CE w))).1,(BL w).d.rep)
   refine⟨hP,?_,fun x hx=>?_⟩
   ·show((BL w).out++A8 ((Cn (ET (BL w) (CE w))).1,(BL w).d.rep)).length<=_
    rw[List.length_append];omega
   ·rcases List.mem_append.1 (show x ∈ (BL w).out++A8 ((Cn (ET (BL w) (CE w))).1,(BL w).d.rep) from hx)with hx | hx
    ·exact .inl (hsay x hx)
    ·exact .inr (akO h5 (hst.2.2.2.2.1 hb) ⟨hst.1,hst.2.1⟩ x hx)
  | false=>exact⟨hP,by show(BL w).out.length<=_;omega,fun x hx=>.inl (hsay x hx)⟩
end Go.Hd
end
noncomputable section
open Go Go.AM Go.Md
namespace Go.Hd
open Go.Wk
set_option maxRecDepth 100000
variable {C:Ctx} {X:Txt->Prop} {B:Nat} {H:List Entry} {f:Nat}
structure VaI(H:List Entry)(d:Md.Desk)(m:Msg):Prop where
 kd:m.kind=18
 dst:m.dst=2
 num:m.num<=d.next
 itm:EZ (I8 m)
 now:∀ a ∈ d.asks,a.num=m.num->a.key=m.key->Cl H (I8 m)
structure FdI(C:Ctx)(d:Md.Desk)(m:Msg):Prop where
 kd:m.kind=16
 dst:m.dst=2
 code:m.code=0
 num:m.num<=d.pump.num
 now:m.num=d.pump.num -> ∀ e ∈ d.pump.out,Ap C e
theorem WS.just'{w:Wrk}(h:WS C X B H f w){m:Msg}(hi:EZ (I8 m)):WS C X B H f (XY w m):={h with just:=hi}
theorem aiu{w:Wrk}{m:Msg}(hw:WS C X0 B H f w)(hi:EZ (I8 m))(hcl:∀ a ∈ w.d.asks,a.num=m.num->a.key=m.key->Cl H (I8 m))(hB:B+9<=9000):UL Iz w m/\To C X0 (B+9) H f (PJ Iz w m):=by
 have hasks:=hw.d.asks
 unfold PJ
 cases hf:Gi w m with
 | false=>exact⟨⟨by omega,fun h=>by rw[hf]at h;cases h⟩,(hw.mono (by omega)).to⟩
 | true=>
  rw[Bool.true_and]
  by_cases hix:HZ w m<w.d.asks.length
  ·have hmem:w.d.asks.getD (HZ w m) default ∈ w.d.asks:=getD_mem (z:=(default:Md.Ask)) hix
   have ha:=hw.d.ask _ hmem
   have hhit:PI m (w.d.asks.getD (HZ w m) default)=true:=by
    have hg:w.d.asks.getD (HZ w m) default=w.d.asks[HZ w m]:=by simp[List.getD,hix]
    rw[hg]
    exact List.findIdx_getElem (p:=PI m) (xs:=w.d.asks) (w:=hix)
   obtain⟨k1,k2⟩:=Ad hhit
   have k1:=of_decide_eq_true k1
   have k2:(w.d.asks.getD (HZ w m) default).key=m.key:=by rw[A7]at k2;simpa using k2
   have hC:=hcl _ hmem k1 k2
   have hg:WS C X0 (B+1) H f (VL w m (HZ w m)):=by
    refine((((hw.drop (HZ w m)).just' hi).mono (Nat.le_succ B)).setClean (L:=putP (w.d.clean,I8 m,w.c.room)) ?_ fun x hx=>?_)
    ·have:=PD (w.d.clean,I8 m,w.c.room)
     have:=hw.d.clean.1
     simp only at *
     omega
    ·rcases Tp (w.d.clean,I8 m,w.c.room) x hx with hx | rfl
     ·exact hw.d.clean.2 x hx
     ·exact⟨hi,hC⟩
   have hno:Ll (VL w m (HZ w m)) m.key:=VQ hw.d.keys hix k2
   have hl:=ha.len
   obtain⟨a,b,_⟩:=Ro (k:=m.key) (w.d.asks.getD (HZ w m) default).calls hg (fun q hq=>⟨(ha.calls q hq).1,(ha.calls q hq).2.trans k2⟩) hno (.inr ⟨rfl,rfl⟩) (by omega)
   rw[AB hix,cond_true]
   refine⟨⟨by omega,fun _ _=>⟨?_,by omega,a⟩⟩,b.mono (by omega)⟩
   exact⟨⟨by have:=hw.d.clean.1;show w.d.clean.length<=_;omega,fun x hx=>(hw.d.clean.2 x hx).1⟩,hi,by have:=hw.d.clean.1;show w.d.clean.length<=_;omega⟩
  ·rw[CI (by omega),cond_false]
   exact⟨⟨by omega,fun _ h=>absurd h hix⟩,(hw.mono (by omega)).to⟩
theorem dI{w:Wrk}{m:Msg}(h:WS C X B H f w)(hc:m.code=0)(hm:m.num=w.d.pump.num -> ∀ e ∈ w.d.pump.out,Ap C e):WS C X (B+12) H f (IS w (Cx w.d.pump m).1):=by
 have k:=h.mono (show B<=B+12 by omega)
 have hp:(Cx w.d.pump m).1.num=w.d.pump.num/\((Cx w.d.pump m).1.out=[]\/(Cx w.d.pump m).1.out=w.d.pump.out)/\(Cx w.d.pump m).1.done.length<=B+12 /\ ∀ x ∈ (Cx w.d.pump m).1.done,∃ e ∈ H,e.write=true/\x=Jw e/\Ap C e:=by
  unfold Cx
  cases decide ((w.d.pump.out.length:Int)=0)with
  | true=>exact⟨rfl,.inr rfl,k.d.pdone.1,k.d.pdone.2⟩
  | false=>
   cases hn:decide (m.num=w.d.pump.num)with
   | false=>exact⟨rfl,.inr rfl,k.d.pdone.1,k.d.pdone.2⟩
   | true=>
    rw[decide_eq_true hc]
    refine⟨rfl,.inl rfl,?_,fun x hx=>?_⟩
    ·show(Ur w.d.pump).length<=B+12
     unfold Ur
     have h1:=h.d.pdone.1
     have h2:=h.d.pout.1
     have h3:=List.length_filter_le (fun x=>!BH x.key (w.d.pump.out.map fun e=>e.key)) w.d.pump.done
     rw[List.length_append,List.length_map]
     omega
    ·rcases List.mem_append.1 (show x ∈ Ur w.d.pump from hx)with hx | hx
     ·exact h.d.pdone.2 x (List.mem_filter.1 hx).1
     ·obtain⟨e,he,rfl⟩:=List.mem_map.1 hx
      exact⟨e,(h.d.pout.2 e he).1,(h.d.pout.2 e he).2,rfl,hm (of_decide_eq_true hn) e he⟩
 obtain⟨p1,p2,p3,p4⟩:=hp
 refine {k with d:={k.d with pnum:=by show 0<=(Cx w.d.pump m).1.num/\(Cx w.d.pump m).1.num<=((B+12:Nat):Int);rw[p1];exact k.d.pnum,pout:=?_,pdone:=⟨p3,p4⟩,pu:=?_}}
 ·show(Cx w.d.pump m).1.out.length<=12 /\ ∀ e ∈ (Cx w.d.pump m).1.out,_
  rcases p2 with p2 | p2
  ·rw[p2];exact⟨by simp,fun e he=>by cases he⟩
  ·rw[p2];exact k.d.pout
 ·have:=h.d.pu
  unfold SV at this ⊢
  show C.p0.num<(Cx w.d.pump m).1.num\/(Cx w.d.pump m).1.num=C.p0.num/\((Cx w.d.pump m).1.out=[]\/(Cx w.d.pump m).1.out=C.p0.out)
  rw[p1]
  rcases this with h1 | ⟨h1,h2⟩
  ·exact .inl h1
  ·refine .inr ⟨h1,?_⟩
   rcases p2 with p2 | p2
   ·exact .inl p2
   ·rw[p2];exact h2
theorem adA{d:Md.Desk}(h:DS C X0 B H f d):WS C X0 B H f (BY d K1):=⟨h,rfl,Nat.zero_le _,fun x hx=>(by cases hx),⟨Nat.zero_le _,Nat.zero_le _⟩⟩
theorem DS.rp{d:Md.Desk}(h:DS C X B H f d):PC d.rep:=by
 have h1:=h.loglen.2
 have h2:=h.sok.1
 refine⟨?_,by omega,by omega,?_⟩
 ·rw[h.rep];show 1<=100000;omega
 ·rw[h.rep];show 1<=100000;omega
theorem DS.dk{d:Md.Desk}(h:DS C X0 B H f d)(hB:B<=8000):MY d:=
 ⟨h.rp,by have:=h.pout.1;omega,by have:=h.pdone.1;omega,by have:=h.clean.1;omega,by have:=h.waits.1;omega,by have:=h.asks;omega,fun a ha=>⟨by have:=(h.ask a ha).len;omega,fun q hq=>(h.ops.op q ((h.ask a ha).calls q hq).1).ms⟩⟩
theorem oD{w:Wrk}(h:WS C X B H f w){q:Msg}(hq:q ∈ C.ops){i:Nat}(hi:i<w.d.asks.length)(hk:(w.d.asks.getD i default).key=q.op.key)(hl:(w.d.asks.getD i default).calls.length<8):WS C X B H f (M0 w i q):=by
 have hmem:w.d.asks.getD i default ∈ w.d.asks:=getD_mem (z:=(default:Md.Ask)) hi
 have hmap:(LK w.d.asks i q).map Md.Ask.key=w.d.asks.map Md.Ask.key:=by
  unfold LK
  rw[List.map_set]
  refine List.ext_getElem (by simp) fun n h1 h2=>?_
  rw[List.getElem_set]
  by_cases hn:i=n
  ·subst hn
   simp[List.getD,hi]
  ·rw[if_neg hn]
 refine {h with d:={h.d with asks:=by show(LK w.d.asks i q).length<=B;unfold LK;rw[List.length_set];exact h.d.asks,keys:=?_,ask:=fun a ha=>?_}}
 ·show(LK w.d.asks i q).Pairwise fun a b=>a.key ≠ b.key
  have h1:(w.d.asks.map Md.Ask.key).Pairwise (· ≠ ·):=List.pairwise_map.2 h.d.keys
  rw[<- hmap]at h1
  exact List.pairwise_map.1 h1
 ·rcases List.mem_or_eq_of_mem_set (show a ∈ w.d.asks.set i {w.d.asks.getD i default with calls:=(w.d.asks.getD i default).calls++[q]} from ha)with ha | rfl
  ·exact h.d.ask a ha
  ·have h0:=h.d.ask _ hmem
   refine⟨h0.num,h0.key,?_,fun x hx=>?_,h0.now,h0.old⟩
   ·show((w.d.asks.getD i default).calls++[q]).length<=8;rw[List.length_append,List.length_singleton];omega
   ·rcases List.mem_append.1 (show x ∈ (w.d.asks.getD i default).calls++[q] from hx)with hx | hx
    ·exact h0.calls x hx
    ·rw[List.mem_singleton.1 hx];exact⟨hq,hk.symm⟩
theorem aiv{w:Wrk}{k:Txt}(hp:w.d.asks.Pairwise fun a b=>a.key ≠ b.key){j:Nat}(hj:j<w.d.asks.length)(hk:(w.d.asks.getD j default).key=k):Iy w k=j:=by
 have hg:∀ i,(hi:i<w.d.asks.length)->w.d.asks.getD i default=w.d.asks[i]:=fun i hi=>by simp[List.getD,hi]
 rw[hg j hj]at hk
 refine(List.findIdx_eq hj).2 ⟨by show Ah (w.d.asks[j]).key k=true;rw[A7];simpa using hk,fun i hij=>?_⟩
 have hi:i<w.d.asks.length:=by omega
 have:=List.pairwise_iff_getElem.1 hp i j hi hj hij
 show Ah (w.d.asks[i]).key k=false
 rw[A7]
 rw[hk]at this
 simpa using this
def Qb(C:Ctx)(B:Nat)(H:List Entry)(f:Nat)(w:Wrk):Prop:=∃ H' f',Gr H H'/\f<=f'/\Lft C B H' f' w
theorem To.end_ok{w:Wrk}(m:Msg)(h:To C X0 B H f w)(hB:B+8<=8000):Jz w m/\Qb C (B+8) H f (Kv w m):=by
 obtain⟨H',g,hw⟩:=h
 obtain⟨a,f',b,c⟩:=Xu m hw hB
 refine⟨a,H',f',g,b,?_⟩
 unfold Kv
 rw[hw.d.head,cond_true];exact c
theorem Qb.mono{D:Nat}{w:Wrk}(h:Qb C B H f w)(hB:B<=D):Qb C D H f w:=by
 obtain⟨H',f',a,b,c⟩:=h
 exact⟨H',f',a,b,c.d.mono hB,by have:=c.out;omega,c.said⟩
theorem Kx{d:Md.Desk}{m:Msg}(hd:DS C X0 B H f d)(hm:m ∈ C.ops\/FdI C d m)(hB:B+30<=8000):E4 (d,K1,m)/\Qb C (B+30) H f (DZ (d,K1,m)):=by
 have hw:=adA hd
 have took:IC (d,K1,m)->aX (d,K1,m)/\Qb C (B+30) H f (Kv (Sr (d,K1,m)) m):=by
  intro ht
  have hc:m ∈ C.ops:=by
   rcases hm with h | h
   ·exact h
   ·exact absurd (ht.kd.symm.trans h.kd) (by decide)
  have hix:IY (d,K1,m)<d.asks.length:=ht.ix
  have hroom:((d.asks.getD (IY (d,K1,m)) default).calls.length:Int)<8:=ht.room
  have hkey:(d.asks.getD (IY (d,K1,m)) default).key=m.op.key:=by
   have hg:d.asks.getD (IY (d,K1,m)) default=d.asks[IY (d,K1,m)]:=by simp[List.getD,hix]
   have:=List.findIdx_getElem (p:=Tu m.op.key) (xs:=d.asks) (w:=hix)
   rw[hg]
   have t:Ah (d.asks[IY (d,K1,m)]).key m.op.key=true:=this
   rw[A7]at t
   simpa using t
  have hf:=hw.find m.op.key
  have ea:(A4 (BY d K1) m.op.key).2.2.d.asks=d.asks:=Ms _ _
  have hT:WS C X0 (B+1) H f (Sr (d,K1,m)):=oD hf hc (by rw[ea];exact hix) (by rw[ea];exact hkey) (by rw[ea];omega)
  obtain⟨b1,b2⟩:=hT.to.end_ok m (by omega)
  exact⟨⟨hd.dk (by omega),hd.sok,hd.last.2.1,hw.fi (by omega),by show(d.asks.getD (IY (d,K1,m)) default).calls.length<=100000;omega,(hd.ops.op m hc).ms,fun _=>b1⟩,b2.mono (by omega)⟩
 have rest:¬ IC (d,K1,m)->UH IA (d,K1,m)/\Qb C (B+30) H f (Kw IA (d,K1,m)):=by
  intro hnt
  have fin:∀ {w:Wrk},To C X0 (B+12) H f w->Fe IA (BY d K1) m=w->Rn IA (BY d K1) m->UH IA (d,K1,m)/\Qb C (B+30) H f (Kw IA (d,K1,m)):=by
   intro w h1 he hk
   obtain⟨b1,b2⟩:=h1.end_ok m (by omega)
   refine⟨⟨hd.dk (by omega),hk,fun _=>by show Jz (Fe IA (BY d K1) m) m;rw[he];exact b1⟩,?_⟩
   show Qb C (B+30) H f (Kv (Fe IA (BY d K1) m) m)
   rw[he]
   exact b2.mono (by omega)
  have h0:To C X0 (B+12) H f (BY d K1):=(hw.mono (by omega)).to
  rcases hm with hc | hc
  ·have ho:=hd.ops.op m hc
   have hk:=ho.kd
   have hcall:VG Iz (BY d K1) m/\To C X0 (B+10) H f (Ks Iz (BY d K1) m):=by
    refine abI hw hc (by omega) fun hg ha hn j hj hjk hjl=>?_
    have ea:(A4 (BY d K1) m.op.key).2.2.d.asks=d.asks:=Ms _ _
    have ec:(A4 (BY d K1) m.op.key).2.2.c=K1:=UK _ _
    rw[ea]at hj hjk hjl
    rw[ec]at hjl
    have hix:IY (d,K1,m)=j:=aiv (w:=BY d K1) hd.keys hj hjk
    exact hnt ⟨hk,by rw[ho.dst,hd.rep];rfl,by rw[ho.shard,hd.rep];rfl,hd.head,hg,ha,hn,by rw[hix];exact hj,by rw[hix];exact hjl⟩
   have hmain:Fe IA (BY d K1) m=bif decide (m.dst=d.rep.self.node)&&(decide (m.shard=d.rep.shard)&&Co d.rep)then Ks Iz (BY d K1) m else BY d K1:=by
    unfold Fe;rw[decide_eq_true hk];rfl
   have hmo:Rn IA (BY d K1) m:=⟨.inl hk,fun _ h1 h2 h3=>hcall.1,fun h=>absurd (hk.symm.trans h) (by decide),fun h=>by rcases h with h | h <;> exact absurd (hk.symm.trans h) (by decide)⟩
   cases hcnd:decide (m.dst=d.rep.self.node)&&(decide (m.shard=d.rep.shard)&&Co d.rep)with
   | false=>exact fin h0 (by rw[hmain,hcnd];rfl) hmo
   | true=>exact fin (hcall.2.mono (by omega)) (by rw[hmain,hcnd];rfl) hmo
  ·have hk:=hc.kd
   have hmo:Rn IA (BY d K1) m:=⟨.inr (.inr (.inr hk)),fun h=>absurd (hk.symm.trans h) (by decide),fun _=>⟨by show d.pump.out.length<=100000;have:=hd.pout.1;omega,by show d.pump.done.length<=100000;have:=hd.pdone.1;omega⟩,fun h=>by rcases h with h | h <;> exact absurd (hk.symm.trans h) (by decide)⟩
   have hmain:Fe IA (BY d K1) m=bif Gi (BY d K1) m then IS (BY d K1) (Cx d.pump m).1 else BY d K1:=by
    unfold Fe;rw[decide_eq_false (show ¬ m.kind=5 by omega),decide_eq_true hk];rfl
   cases hf:Gi (BY d K1) m with
   | false=>exact fin h0 (by rw[hmain,hf];rfl) hmo
   | true=>exact fin (dI hw hc.code hc.now).to (by rw[hmain,hf];rfl) hmo
 refine⟨⟨fun h=>(took h).1,fun h=>(rest h).1⟩,?_⟩
 unfold DZ
 by_cases ht:IC (d,K1,m)
 ·rw[if_pos ht];exact(took ht).2
 ·rw[if_neg ht];exact(rest ht).2
theorem abM{d:Md.Desk}{m:Msg}(hd:DS C X0 B H f d)(hm:VaI H d m)(hB:B+30<=8000):abz (d,K1,m)/\Qb C (B+30) H f (nU (d,K1,m)):=by
 have hw:=adA hd
 obtain⟨v1,v2⟩:=aiu (m:=m) hw hm.itm hm.now (by omega)
 obtain⟨b1,b2⟩:=v2.end_ok m (by omega)
 exact⟨⟨hm.kd,hd.dk (by omega),v1,fun _=>b1⟩,b2.mono (by omega)⟩
end Go.Hd
end
noncomputable section
open Go Go.AM Go.Md
namespace Go.Hd
open Go.Wk
set_option maxRecDepth 100000
set_option maxHeartbeats 400000
structure Row where
 key:Txt
 ver:Ver
 val:Txt
 del:Bool
instance:Inhabited Row:=⟨⟨[],⟨0,0⟩,[],false⟩⟩
def DH(r:Row):List AV:=[.str r.key,.cplx .f64 r.ver.re r.ver.im,.str r.val,.bool r.del]
def IE(a:List AV):Row:=⟨Gu a 0,⟨(BE a 1).1,(BE a 1).2⟩,Gu a 2,Ih a 3⟩
theorem UQ(r:Row):IE (DH r)=r:=rfl
def Bo(l:List Row):AV:=C5 4 DH default l
theorem OK(l:List Row):AN IE (Bo l)=l:=EO UQ l
def OL(l:List Known):Env:=BU [(BK,0,[0,1,4,5,6]),(Cs,0,[0,3,5,6,4005999]),(Cs,2,[0,3,5,7]),(CX,0,[0,1,5,6,4005999]),(Cq,0,[0,2,3])]
 [(BK,0),(Cs,0),(DV,0),(DU,0),(Cq,0)] [] l
def SRf(l:List Row)(k:Txt)(i:Int):St:={fr:=[(0,Bo l),(1,.str k),(4,.ptr 0 0 0),(5,.bool false),(6,.int .i64 i)],hp:=[.arr true 4 [DH default]]}
theorem akP(N:Nat)(l:List Row)(k:Txt):Am (OL []) (N+1) BK [Bo l,.str k]=LP (OL []) N 0 BK Bp 0 [] N (SRf l k 0):=by kernel_rfl
def wT(p:Row × Bool):AV:=.tup [.agg (DH p.1),.bool p.2]
theorem adB(N m:Nat)(l:List Row)(k:Txt)(i:Int):LP (OL []) N 0 BK Bp 0 [] (m+1) (SRf l k i) =
 bif decide (i<(l.length:Int))then rg i l.length (bif Ah (l.getD i.toNat default).key k then rg i l.length (some (wT (l.getD i.toNat default,true)))else LP (OL []) N 0 BK Bp 0 [] m (SRf l k (IntKind.i64.wrap (i+1))))
 else some (wT (default,false)):=by kernel_rfl
def Cu(l:List Row)(k:Txt):Row × Bool:=match l.find? fun r=>Ah r.key k with
 | some r=>(r,true)
 | none=>(default,false)
abbrev RK:=List Row × Txt
def jA(a:List AV):RK:=(AN IE (a.getD 0 .nils),Gu a 1)
def bC(p:RK):List AV:=[Bo p.1,.str p.2]
theorem wU(p:RK):jA (bC p)=p:=Prod.ext (OK p.1) rfl
theorem wV(p:RK)(h:p.1.length<=100000):Aa PG BK (bC p) [] (wT (Cu p.1 p.2)) []:=by
 obtain⟨l,k⟩:=p
 have h:l.length<=100000:=h
 obtain⟨N,hN⟩:∃ N,N=200000:=⟨_,rfl⟩
 have run:∀ d i m,i+d=l.length->d<m->LP (OL []) N 0 BK Bp 0 [] m (SRf l k (i:Nat))=some (wT (Cu (l.drop i) k)):=by
  intro d
  induction d with
  | zero=>
   intro i m hi hm
   obtain⟨m,rfl⟩:∃ k,m=k+1:=⟨m - 1,by omega⟩
   rw[adB,decide_eq_false (by omega),cond_false,List.drop_eq_nil_of_le (by omega)];rfl
  | succ d ih=>
   intro i m hi hm
   obtain⟨m,rfl⟩:∃ k,m=k+1:=⟨m - 1,by omega⟩
   have hil:i<l.length:=by omega
   have hw:IntKind.i64.wrap ((i:Int)+1)=((i+1:Nat):Int):=Bz (by omega)
   rw[adB,decide_eq_true (show((i:Nat):Int)<(l.length:Int) by omega),cond_true,Bq hil,Bq hil,Int.toNat_natCast,hw,drop_cons (z:=(default:Row)) hil]
   unfold Cu
   rw[List.find?_cons]
   cases Ah (l.getD i default).key k with
   | true=>rfl
   | false=>rw[cond_false];exact ih (i+1) m (by omega) (by omega)
 exact BQ AL ((akP N l k).trans (by have:=run l.length 0 N (by omega) (by omega);rw[List.drop_zero]at this;exact this))
def UR:Known:=.spec BK jA (fun p=>p.1.length<=100000) bC (fun p=>wT (Cu p.1 p.2))
theorem Rp:UR.Ok PG:=Known.spec_ok wV
def NI{R:Type}(n:Nat)(K:Option R):Option R:=bif n.ble n then bif((n+1)*56).ble 140737488355328&&(n+1).ble 140737488355328 then K else none else none
theorem M6{R:Type}{n:Nat}(h:n<=1000000){K:Option R}:NI n K=K:=by
 unfold NI
 rw[Aq (Nat.le_refl _),Aq (show(n+1)*56<=140737488355328 by omega),Aq (show n+1<=140737488355328 by omega)];rfl
def HG{X:Type}(e:X->List AV)(z:X)(n:Nat)(F:Nat->List AV)(l:List X):Prop:=n=l.length /\ ∀ j,j<n->F j=e (l.getD j z)
theorem HG.nil{X:Type}{e:X->List AV}{z:X}{F:Nat->List AV}:HG e z 0 F []:=⟨rfl,fun j hj=>absurd hj (Nat.not_lt_zero j)⟩
theorem HG.app{X:Type}{e:X->List AV}{z:X}{n:Nat}{F:Nat->List AV}{l:List X}(h:HG e z n F l)(x:X):HG e z (n+1) (Be n F (View.list [e x])) (l++[x]):=by
 obtain⟨rfl,h⟩:=h
 refine⟨by simp,fun j hj=>?_⟩
 by_cases hjl:j<l.length
 ·rw[JW hjl,h j hjl]
  simp only[List.getD]
  rw[List.getElem?_append_left hjl]
 ·have:j=l.length:=by omega
  subst this
  rw[JX (Nat.le_refl _) (show l.length<l.length+1 by omega)]
  simp only[List.getD]
  rw[List.getElem?_append_right (Nat.le_refl _),Nat.sub_self];rfl
theorem HG.sub{X:Type}{e:X->List AV}{z:X}{n:Nat}{F:Nat->List AV}{l:List X}{sz:Nat}(h:HG e z n F l):AR (.tr sz n F) (C5 sz e z l):=by
 obtain⟨rfl,h⟩:=h
 exact .trs fun i hi=>by rw[h i hi];exact .refl _
def SRb(l:List Row)(r:Row)(n:Nat)(F:Nat->List AV)(i:Int):St:={fr:=[(0,Bo l),(3,.ptr 0 0 0),(5,.sn 4 1 n),(6,.int .i64 i),(4005999,.undef)],hp:=[.arr true 4 [DH r],.seq true 4 n F]}
def jB(l:List Row)(r:Row)(n:Nat)(F:Nat->List AV)(i:Int):St:={fr:=[(0,Bo l),(3,.ptr 0 0 0),(5,.sn 4 1 n),(7,.int .i64 i)],hp:=[.arr true 4 [DH r],.seq true 4 n F]}
def LPu(N m:Nat)(s:St):Option AV:=LP (OL []) N 0 Cs Bp 0 [] m s
def jC(N m:Nat)(s:St):Option AV:=LP (OL []) N 0 Cs Bp 2 [] m s
theorem akQ(N:Nat)(l:List Row)(r:Row):Am (OL []) (N+1) Cs [Bo l,.agg (DH r)]=LPu N N (SRb l r 0 (fun _=>[]) 0):=by kernel_rfl
theorem adC(N m:Nat)(l:List Row)(r:Row)(n:Nat)(F:Nat->List AV)(i:Int):LPu N (m+1) (SRb l r n F i) =
 bif decide (i<(l.length:Int))then rg i l.length (bif strLt (l.getD i.toNat default).key r.key then rg i l.length (NI n (LPu N m (SRb l r (n+1) (Be n F (View.list [DH (l.getD i.toNat default)])) (IntKind.i64.wrap (i+1)))))
  else NI n (jC N N (jB l r (n+1) (Be n F (View.list [DH r])) 0)))else NI n (jC N N (jB l r (n+1) (Be n F (View.list [DH r])) 0)):=by kernel_rfl
theorem adD(N m:Nat)(l:List Row)(r:Row)(n:Nat)(F:Nat->List AV)(i:Int):jC N (m+1) (jB l r n F i) =
 bif decide (i<(l.length:Int))then rg i l.length (bif !(strLt (l.getD i.toNat default).key r.key||Ah (l.getD i.toNat default).key r.key)then rg i l.length (NI n (jC N m (jB l r (n+1) (Be n F (View.list [DH (l.getD i.toNat default)])) (IntKind.i64.wrap (i+1)))))
  else jC N m (jB l r n F (IntKind.i64.wrap (i+1))))else bif n.ble n then some (.tr 4 n F)else none:=by kernel_rfl
def Qc(r x:Row):Bool:=!(strLt x.key r.key||Ah x.key r.key)
def I9(l:List Row)(r:Row):List Row:=(l.takeWhile fun x=>strLt x.key r.key)++r::l.filter (Qc r)
abbrev RR:=List Row × Row
def dRR(a:List AV):RR:=(AN IE (a.getD 0 .nils),IE (AA a 1))
def eRR(p:RR):List AV:=[Bo p.1,.agg (DH p.2)]
theorem abN(p:RR)(h:p.1.length<=100000):Aa PG Cs (eRR p) [] (Bo (I9 p.1 p.2)) []:=by
 obtain⟨l,r⟩:=p
 have h:l.length<=100000:=h
 obtain⟨N,hN⟩:∃ N,N=200000:=⟨_,rfl⟩
 have QZ:∀ d i m n F a,i+d=l.length->d<m->n<=200001+i->HG DH default n F a -> ∃ n' F',jC N m (jB l r n F (i:Nat))=some (.tr 4 n' F')/\HG DH default n' F' (a++(l.drop i).filter (Qc r)):=by
  intro d
  induction d with
  | zero=>
   intro i m n F a hi hm hn hH
   obtain⟨m,rfl⟩:∃ k,m=k+1:=⟨m - 1,by omega⟩
   refine⟨n,F,?_,by rw[List.drop_eq_nil_of_le (by omega)];simpa using hH⟩
   rw[adD,decide_eq_false (by omega),cond_false,Aq (Nat.le_refl _)];rfl
  | succ d ih=>
   intro i m n F a hi hm hn hH
   obtain⟨m,rfl⟩:∃ k,m=k+1:=⟨m - 1,by omega⟩
   have hil:i<l.length:=by omega
   have hw:IntKind.i64.wrap ((i:Int)+1)=((i+1:Nat):Int):=Bz (by omega)
   rw[adD,decide_eq_true (show((i:Nat):Int)<(l.length:Int) by omega),cond_true,Bq hil,Bq hil,Int.toNat_natCast,hw,drop_cons (z:=(default:Row)) hil,M6 (by omega)]
   have e:(!(strLt (l.getD i default).key r.key||Ah (l.getD i default).key r.key))=Qc r (l.getD i default):=rfl
   rw[e,List.filter_cons]
   cases Qc r (l.getD i default)with
   | true=>
    obtain⟨n',F',e1,e2⟩:=ih (i+1) m (n+1) _ _ (by omega) (by omega) (by omega) (hH.app (l.getD i default))
    refine⟨n',F',e1,?_⟩
    rw[List.append_assoc]at e2
    exact e2
   | false=>
    obtain⟨n',F',e1,e2⟩:=ih (i+1) m n F a (by omega) (by omega) (by omega) hH
    exact⟨n',F',e1,e2⟩
 have run1:∀ d i m n F a,i+d=l.length->d<m->n<=i->HG DH default n F a -> ∃ n' F',LPu N m (SRb l r n F (i:Nat))=some (.tr 4 n' F')/\HG DH default n' F' (a++((l.drop i).takeWhile fun x=>strLt x.key r.key)++r::l.filter (Qc r)):=by
  intro d
  induction d with
  | zero=>
   intro i m n F a hi hm hn hH
   obtain⟨m,rfl⟩:∃ k,m=k+1:=⟨m - 1,by omega⟩
   obtain⟨n',F',e1,e2⟩:=QZ l.length 0 N (n+1) _ _ (by omega) (by omega) (by omega) (hH.app r)
   refine⟨n',F',?_,by rw[List.drop_eq_nil_of_le (by omega),List.takeWhile_nil,List.append_nil];rw[List.drop_zero,List.append_assoc]at e2;exact e2⟩
   rw[adC,decide_eq_false (by omega),cond_false,M6 (by omega)];exact e1
  | succ d ih=>
   intro i m n F a hi hm hn hH
   obtain⟨m,rfl⟩:∃ k,m=k+1:=⟨m - 1,by omega⟩
   have hil:i<l.length:=by omega
   have hw:IntKind.i64.wrap ((i:Int)+1)=((i+1:Nat):Int):=Bz (by omega)
   rw[adC,decide_eq_true (show((i:Nat):Int)<(l.length:Int) by omega),cond_true,Bq hil,Bq hil,Int.toNat_natCast,hw,drop_cons (z:=(default:Row)) hil,M6 (by omega),M6 (by omega),List.takeWhile_cons]
   cases strLt (l.getD i default).key r.key with
   | true=>
    obtain⟨n',F',e1,e2⟩:=ih (i+1) m (n+1) _ _ (by omega) (by omega) (by omega) (hH.app (l.getD i default))
    refine⟨n',F',e1,?_⟩
    rw[List.append_assoc a]at e2
    exact e2
   | false=>
    obtain⟨n',F',e1,e2⟩:=QZ l.length 0 N (n+1) _ _ (by omega) (by omega) (by omega) (hH.app r)
    refine⟨n',F',e1,?_⟩
    rw[List.drop_zero,List.append_assoc]at e2
    rw[if_neg (by simp),List.append_nil];exact e2
 obtain⟨n,F,e1,e2⟩:=run1 l.length 0 N 0 (fun _=>[]) [] (by omega) (by omega) (by omega) HG.nil
 rw[List.drop_zero,List.nil_append]at e2
 exact(BQ AL ((akQ N l r).trans e1)).res e2.sub
def adE:Known:=.spec Cs dRR (fun p=>p.1.length<=100000) eRR (fun p=>Bo (I9 p.1 p.2))
theorem abO:adE.Ok PG:=Known.spec_ok abN
def aiw:List Known:=[Ov]
def jE(l:List Row)(v:Ver)(n:Nat)(F:Nat->List AV)(i:Int):St:={fr:=[(0,Bo l),(1,eV v),(5,.sn 4 0 n),(6,.int .i64 i),(4005999,.undef)],hp:=[.seq true 4 n F]}
def jF(N m:Nat)(s:St):Option AV:=LP (OL aiw) N 0 CX Bp 0 [] m s
theorem akR(N:Nat)(l:List Row)(v:Ver):Am (OL aiw) (N+1) CX [Bo l,eV v]=jF N N (jE l v 0 (fun _=>[]) 0):=by kernel_rfl
theorem adF(N m:Nat)(l:List Row)(v:Ver)(n:Nat)(F:Nat->List AV)(i:Int):jF N (m+1) (jE l v n F i) =
 bif decide (i<(l.length:Int))then rg i l.length (bif !(l.getD i.toNat default).del then rg i l.length (NI n (jF N m (jE l v (n+1) (Be n F (View.list [DH (l.getD i.toNat default)])) (IntKind.i64.wrap (i+1)))))
  else rg i l.length (QM v (l.getD i.toNat default).ver fun y=>bif AH y.1 y.2 then rg i l.length (NI n (jF N m (jE l v (n+1) (Be n F (View.list [DH (l.getD i.toNat default)])) (IntKind.i64.wrap (i+1)))))
   else jF N m (jE l v n F (IntKind.i64.wrap (i+1)))))else bif n.ble n then some (.tr 4 n F)else none:=by kernel_rfl
def stays(v:Ver)(x:Row):Bool:=!x.del||AH v x.ver
def Rq(l:List Row)(v:Ver):List Row:=l.filter (stays v)
abbrev RV2:=List Row × Ver
def oE(a:List AV):RV2:=(AN IE (a.getD 0 .nils),⟨(BE a 1).1,(BE a 1).2⟩)
def bD(p:RV2):List AV:=[Bo p.1,eV p.2]
theorem afE(p:RV2):oE (bD p)=p:=Prod.ext (OK p.1) rfl
def oF(p:RV2):Prop:=p.1.length<=100000/\Au p.2 /\ ∀ x ∈ p.1,Au x.ver
theorem afF(p:RV2)(h:oF p):Aa PG CX (bD p) [] (Bo (Rq p.1 p.2)) []:=by
 obtain⟨l,v⟩:=p
 obtain⟨h,hv,hx⟩:=h
 have h:l.length<=100000:=h
 obtain⟨N,hN⟩:∃ N,N=200000:=⟨_,rfl⟩
 have run:∀ d i m n F a,i+d=l.length->d<m->n<=i->HG DH default n F a -> ∃ n' F',jF N m (jE l v n F (i:Nat))=some (.tr 4 n' F')/\HG DH default n' F' (a++(l.drop i).filter (stays v)):=by
  intro d
  induction d with
  | zero=>
   intro i m n F a hi hm hn hH
   obtain⟨m,rfl⟩:∃ k,m=k+1:=⟨m - 1,by omega⟩
   refine⟨n,F,?_,by rw[List.drop_eq_nil_of_le (by omega)];simpa using hH⟩
   rw[adF,decide_eq_false (by omega),cond_false,Aq (Nat.le_refl _)];rfl
  | succ d ih=>
   intro i m n F a hi hm hn hH
   obtain⟨m,rfl⟩:∃ k,m=k+1:=⟨m - 1,by omega⟩
   have hil:i<l.length:=by omega
   have hm2:l.getD i default ∈ l:=getD_mem (z:=(default:Row)) hil
   have hw:IntKind.i64.wrap ((i:Int)+1)=((i+1:Nat):Int):=Bz (by omega)
   rw[adF,decide_eq_true (show((i:Nat):Int)<(l.length:Int) by omega),cond_true,Bq hil,Bq hil,Bq hil,Int.toNat_natCast,hw,drop_cons (z:=(default:Row)) hil,M6 (by omega),Nr hv (hx _ hm2),List.filter_cons]
   unfold stays at ih ⊢
   obtain⟨n1,F1,e1,e2⟩:=ih (i+1) m (n+1) _ _ (by omega) (by omega) (by omega) (hH.app (l.getD i default))
   obtain⟨n2,F2,f1,f2⟩:=ih (i+1) m n F a (by omega) (by omega) (by omega) hH
   rw[List.append_assoc]at e2
   dsimp only
   cases (l.getD i default).del with
   | false=>exact⟨n1,F1,e1,e2⟩
   | true=>
    cases AH v (l.getD i default).ver with
    | true=>exact⟨n1,F1,e1,e2⟩
    | false=>exact⟨n2,F2,f1,f2⟩
 obtain⟨n,F,e1,e2⟩:=run l.length 0 N 0 (fun _=>[]) [] (by omega) (by omega) (by omega) HG.nil
 rw[List.drop_zero,List.nil_append]at e2
 exact(BQ (ak Mm AL) ((akR N l v).trans e1)).res e2.sub
def adG:Known:=.spec CX oE oF bD (fun p=>Bo (Rq p.1 p.2))
theorem abP:adG.Ok PG:=Known.spec_ok afF
end Go.Hd
end
noncomputable section
open Go Go.AM Go.Md Go.Fl
namespace Go.Hd
open Go.Wk
set_option maxRecDepth 100000
set_option maxHeartbeats 400000
theorem aix{n m:Nat}(hn:n<2 ^ 53)(hm:m<2 ^ 53):Sx .f64 (fl n) (fl m)=decide (m<n):=by
 have:FloatKind.f64.format.order (fl n) (fl m)=some (compare n m):=Tc hn hm
 unfold Sx;rw[this]
 rcases Nat.lt_trichotomy n m with h | h | h
 ·rw[Nat.compare_eq_lt.2 h,decide_eq_false (by omega)];rfl
 ·rw[Nat.compare_eq_eq.2 h,decide_eq_false (by omega)];rfl
 ·rw[Nat.compare_eq_gt.2 h,decide_eq_true h];rfl
theorem akS(v:Ver):Am (OL []) 9 DU [eV v] =
 bif Sx .f64 v.re 0||DE .f64 v.re 0 then bif JB .f64 v.re 4787326403894837248||DE .f64 v.re 4787326403894837248 then bif Sx .f64 v.im 0||DE .f64 v.im 0 then
  bif !(JB .f64 v.im 4787326403894837248||DE .f64 v.im 4787326403894837248)then some (.bool false)else Wk.gF v.re (Wk.gF v.im (some (.bool (DE .f64 (FloatKind.f64.nearest (vE v)) v.re&&DE .f64 (FloatKind.f64.nearest (vN v)) v.im))))
 else some (.bool false)else some (.bool false)else some (.bool false):=by kernel_rfl
theorem afG:fl (2 ^ 40)=4787326403894837248:=by decide
theorem afH:fl 0=0:=by decide
theorem wW(v:Ver)(h:Au v):Aa PG DU [eV v] [] (.bool true) []:=by
 obtain⟨e,n,he,hn,rfl⟩:=h
 have hv:Au (vr e n):=⟨e,n,he,hn,rfl⟩
 have b1:∀ {k:Nat},k<2 ^ 40->(Sx .f64 (fl k) 0||DE .f64 (fl k) 0)=true:=fun {k} hk=>by
  rw[<- afH,aix (by omega) (by omega),QH (by omega) (by omega)]
  rcases Nat.eq_zero_or_pos k with h | h
  ·subst h;rfl
  ·rw[decide_eq_true h];rfl
 have b2:∀ {k:Nat},k<2 ^ 40->(JB .f64 (fl k) 4787326403894837248||DE .f64 (fl k) 4787326403894837248)=true:=fun {k} hk=>by
  rw[<- afG,YG (by omega) (by omega),decide_eq_true hk];rfl
 have b3:∀ {k:Nat},k<2 ^ 40->DE .f64 (fl k) (fl k)=true:=fun {k} hk=>by rw[QH (by omega) (by omega),decide_eq_true rfl]
 have e1:vE (vr e n)=(e:Int):=by
  unfold vE
  show(fI (fl e)).getD 0=_
  rw[O9 (by omega)];rfl
 have e2:vN (vr e n)=(n:Int):=by
  unfold vN
  show(fI (fl n)).getD 0=_
  rw[O9 (by omega)];rfl
 refine BQ AL ((akS (vr e n)).trans ?_)
 rw[Wk.gF_eq hv.int.1,Wk.gF_eq hv.int.2,e1,e2,Oq,Oq]
 show(bif Sx .f64 (fl e) 0||DE .f64 (fl e) 0 then bif JB .f64 (fl e) 4787326403894837248||DE .f64 (fl e) 4787326403894837248 then bif Sx .f64 (fl n) 0||DE .f64 (fl n) 0 then
  bif !(JB .f64 (fl n) 4787326403894837248||DE .f64 (fl n) 4787326403894837248)then some (AV.bool false)else some (.bool (DE .f64 (fl e) (fl e)&&DE .f64 (fl n) (fl n)))
 else some (.bool false)else some (.bool false)else some (.bool false))=_
 rw[b1 he,b2 he,b1 hn,b2 hn,b3 he,b3 hn];rfl
def VR:Known:=.spec DU Np Au Nq (fun _=>.bool true)
theorem US:VR.Ok PG:=Known.spec_ok wW
def aiy:List Known:=[VR]
def SVs(l:List Entry)(i:Int):St:={fr:=[(0,Ae l),(2,.bool false),(3,.int .i64 i)],hp:=[]}
def LVs(N m:Nat)(s:St):Option AV:=LP (OL aiy) N 0 Cq Bp 0 [] m s
theorem akT(N:Nat)(l:List Entry):Am (OL aiy) (N+1) Cq [Ae l]=bif decide (60<(l.length:Int))then some (.bool false)else LVs N N (SVs l 0):=by kernel_rfl
theorem adH(N m:Nat)(l:List Entry)(i:Int):LVs N (m+1) (SVs l i) =
 bif decide (i<(l.length:Int))then rg i l.length (gC Np Au Nq [eV (l.getD i.toNat default).ver] fun _=>LVs N m (SVs l (IntKind.i64.wrap (i+1))))else some (.bool true):=by kernel_rfl
def wX(l:List Entry):Prop:=l.length<=60 /\ ∀ e ∈ l,Au e.ver
theorem aiz(l:List Entry)(h:wX l):Aa PG Cq [Ae l] [] (.bool true) []:=by
 obtain⟨h1,h2⟩:=h
 obtain⟨N,hN⟩:∃ N,N=200000:=⟨_,rfl⟩
 have run:∀ d i m,i+d=l.length->d<m->LVs N m (SVs l (i:Nat))=some (.bool true):=by
  intro d
  induction d with
  | zero=>
   intro i m hi hm
   obtain⟨m,rfl⟩:∃ k,m=k+1:=⟨m - 1,by omega⟩
   rw[adH,decide_eq_false (by omega),cond_false]
  | succ d ih=>
   intro i m hi hm
   obtain⟨m,rfl⟩:∃ k,m=k+1:=⟨m - 1,by omega⟩
   have hil:i<l.length:=by omega
   have hw:IntKind.i64.wrap ((i:Int)+1)=((i+1:Nat):Int):=Bz (by omega)
   have hv:=h2 _ (getD_mem (z:=(default:Entry)) hil)
   have q:∀ {K:Ver->Option AV},gC Np Au Nq [eV (l.getD i default).ver] K=K (l.getD i default).ver:=fun {K}=>Aw _ rfl hv (.refl _)
   rw[adH,decide_eq_true (show((i:Nat):Int)<(l.length:Int) by omega),cond_true,Bq hil,Int.toNat_natCast,q,hw]
   exact ih (i+1) m (by omega) (by omega)
 refine BQ (ak US AL) ((akT N l).trans ?_)
 rw[decide_eq_false (by omega),cond_false]
 exact run l.length 0 N (by omega) (by omega)
def wY:Known:=.spec Cq (dL Bf) wX (fun l=>[Ae l]) (fun _=>.bool true)
theorem wZ:wY.Ok PG:=Known.spec_ok aiz
def eAp(l:List Known):Env:=BU [(CN,0,[1,2,7,8])] [(BK,0),(Cs,0),(DV,0)] [(CN,2,[7])] l
def abQ:List Known:=[UR,adE,Ov]
def NJ(a:AV)(v:Ver)(es:List Entry)(i:Int):St:={fr:=[(1,eV v),(2,Ae es),(7,a),(8,.int .i64 i)],hp:=[]}
def NK(N m:Nat)(s:St):Option AV:=LP (eAp abQ) N 0 CN Bp 0 [] m s
theorem akU(N:Nat)(l:List Row)(v:Ver)(es:List Entry):Am (eAp abQ) (N+1) CN [Bo l,eV v,Ae es] =
 bif((0+l.length)*56).ble 140737488355328&&(0+l.length).ble 140737488355328 then bif l.length.beq 0 then NK N N (NJ (.trl 4 []) v es 0)else bif l.length.beq 0||l.length.ble l.length then NK N N (NJ (Bo l) v es 0)else none else none:=by kernel_rfl
def gFd(a:AV)(k:Txt)(K:RK->Option AV):Option AV:=gC jA (fun p=>p.1.length<=100000) bC [a,.str k] K
def gPu(a:AV)(r:Row)(K:RR->Option AV):Option AV:=gC dRR (fun p=>p.1.length<=100000) eRR [a,.agg (DH r)] K
def apP(a:AV)(N m:Nat)(v:Ver)(es:List Entry)(i:Int)(e:Entry):Option AV:=
 bif !e.del then gPu a ⟨e.key,e.ver,e.val,e.del⟩ fun y=>NK N m (NJ (Bo (I9 y.1 y.2)) v es (IntKind.i64.wrap (i+1)))else gPu a ⟨e.key,e.ver,[],e.del⟩ fun y=>NK N m (NJ (Bo (I9 y.1 y.2)) v es (IntKind.i64.wrap (i+1)))
def bE(a:AV)(N m:Nat)(v:Ver)(es:List Entry)(i:Int):Option AV:=
 bif decide (i<(es.length:Int))then rg i es.length (gFd a (es.getD i.toNat default).key fun y=>bif !(es.getD i.toNat default).write then NK N m (NJ a v es (IntKind.i64.wrap (i+1)))else
  QM v (es.getD i.toNat default).ver fun z=>bif !AH z.1 z.2 then NK N m (NJ a v es (IntKind.i64.wrap (i+1)))else
  bif(Cu y.1 y.2).2 then QM (Cu y.1 y.2).1.ver (es.getD i.toNat default).ver fun x=>bif !AH x.1 x.2 then NK N m (NJ a v es (IntKind.i64.wrap (i+1)))else apP a N m v es i (es.getD i.toNat default)
  else apP a N m v es i (es.getD i.toNat default))else some a
theorem adI(N m:Nat)(l:List Row)(v:Ver)(es:List Entry)(i:Int):NK N (m+1) (NJ (Bo l) v es i)=bE (Bo l) N m v es i:=by kernel_rfl
theorem adJ(N m:Nat)(v:Ver)(es:List Entry)(i:Int):NK N (m+1) (NJ (.trl 4 []) v es i)=bE (.trl 4 []) N m v es i:=by kernel_rfl
def LQ(e:Entry):Row:=⟨e.key,e.ver,bif !e.del then e.val else [],e.del⟩
def NL(v:Ver)(l:List Row)(e:Entry):List Row:=bif !e.write then l else bif !AH v e.ver then l else bif(Cu l e.key).2 && !AH (Cu l e.key).1.ver e.ver then l else I9 l (LQ e)
def G0(l:List Row)(v:Ver)(es:List Entry):List Row:=es.foldl (NL v) l
theorem abR(l:List Row)(r:Row):(I9 l r).length<=l.length+1:=by
 have key:∀ l:List Row,(l.takeWhile fun x=>strLt x.key r.key).length+(l.filter (Qc r)).length<=l.length:=by
  intro l
  induction l with
  | nil=>simp
  | cons a l ih=>
   rw[List.takeWhile_cons,List.filter_cons]
   have hb:=List.length_filter_le (Qc r) l
   cases hs:strLt a.key r.key with
   | true=>
    have ha:Qc r a=false:=by unfold Qc;rw[hs];rfl
    rw[ha,if_pos rfl,if_neg (by simp),List.length_cons,List.length_cons];omega
   | false=>
    rw[if_neg (by simp),List.length_cons,List.length_nil]
    cases Qc r a with
    | true=>rw[if_pos rfl,List.length_cons];omega
    | false=>rw[if_neg (by simp)];omega
 have:=key l
 unfold I9
 rw[List.length_append,List.length_cons];omega
theorem abS{l:List Row}{r x:Row}(h:x ∈ I9 l r):x ∈ l\/x=r:=by
 unfold I9 at h
 rcases List.mem_append.1 h with h | h
 ·exact .inl ((List.takeWhile_sublist _).subset h)
 ·rcases List.mem_cons.1 h with rfl | h
  ·exact .inr rfl
  ·exact .inl (List.mem_filter.1 h).1
theorem Lv{l:List Row}{k:Txt}(h:(Cu l k).2=true):(Cu l k).1 ∈ l/\(Cu l k).1.key=k:=by
 unfold Cu at h ⊢
 cases hf:l.find? fun r=>Ah r.key k with
 | none=>rw[hf]at h;cases h
 | some r=>
  have h1:Ah r.key k=true:=List.find?_some (p:=fun r:Row=>Ah r.key k) hf
  exact⟨List.mem_of_find?_eq_some hf,ID.1 h1⟩
theorem bF{v:Ver}{l:List Row}{e:Entry}(hl:∀ x ∈ l,Au x.ver)(he:Au e.ver):(NL v l e).length<=l.length+1 /\ ∀ x ∈ NL v l e,Au x.ver:=by
 have h0:l.length<=l.length+1 /\ ∀ x ∈ l,Au x.ver:=⟨by omega,hl⟩
 unfold NL
 cases e.write with
 | false=>exact h0
 | true=>
  cases AH v e.ver with
  | false=>exact h0
  | true=>
   cases (Cu l e.key).2 && !AH (Cu l e.key).1.ver e.ver with
   | true=>exact h0
   | false=>
    refine⟨abR _ _,fun x hx=>?_⟩
    rcases abS (show x ∈ I9 l (LQ e) from hx)with hx | rfl
    ·exact hl x hx
    ·exact he
abbrev RVE:=List Row × Ver × List Entry
def oG(a:List AV):RVE:=(AN IE (a.getD 0 .nils),⟨(BE a 1).1,(BE a 1).2⟩,AN Bf (a.getD 2 .nils))
def bG(p:RVE):List AV:=[Bo p.1,eV p.2.1,Ae p.2.2]
theorem afI(p:RVE):oG (bG p)=p:=Prod.ext (OK p.1) (Prod.ext rfl (Eo p.2.2))
def oH(p:RVE):Prop:=p.1.length<=10000/\p.2.2.length<=10000/\Au p.2.1/\(∀ x ∈ p.1,Au x.ver) /\ ∀ e ∈ p.2.2,Au e.ver
theorem jG{sz:Nat}{f:Nat->List AV}:AR (.trl sz []) (.tr sz 0 f):=by
 intro w I u hv
 cases hv with
 | trl _ _ _ h _=>exact AR.trs (fun i hi=>absurd hi (Nat.not_lt_zero i)) w I u h
theorem aiA(p:RVE)(h:oH p):Aa PG CN (bG p) [] (Bo (G0 p.1 p.2.1 p.2.2)) []:=by
 obtain⟨l0,v,es⟩:=p
 obtain⟨h1,h2,hv,hx,he⟩:=h
 dsimp only at h1 h2 hv hx he ⊢
 obtain⟨N,hN⟩:∃ N,N=200000:=⟨_,rfl⟩
 have knok:∀ k ∈ abQ,k.Ok PG:=ak Rp (ak abO (ak Mm AL))
 have stp:∀ {a:AV} {l:List Row} {i m:Nat},AN IE a=l->AR a (Bo l)->i<es.length->l.length<=20000->(∀ x ∈ l,Au x.ver)->bE a N m v es (i:Int)=NK N m (NJ a v es ((i+1:Nat):Int))/\NL v l (es.getD i default)=l\/bE a N m v es (i:Int)=NK N m (NJ (Bo (NL v l (es.getD i default))) v es ((i+1:Nat):Int)):=by
  intro a l i m hd hs hi hl hV
  obtain⟨e,hee⟩:∃ e,es.getD i default=e:=⟨_,rfl⟩
  have hw:IntKind.i64.wrap ((i:Int)+1)=((i+1:Nat):Int):=Bz (by omega)
  have hev:Au e.ver:=by rw[<- hee];exact he _ (getD_mem (z:=(default:Entry)) hi)
  have q1:∀ {K:RK->Option AV},gFd a e.key K=K (l,e.key):=fun {K}=>Aw (l,e.key) (Prod.ext (by show AN IE a=l;exact hd) rfl) (by show l.length<=100000;omega) (.cons hs (.refl _))
  have q2:∀ {r:Row} {K:RR->Option AV},gPu a r K=K (l,r):=fun {r K}=>Aw (l,r) (Prod.ext (by show AN IE a=l;exact hd) (UQ r)) (by show l.length<=100000;omega) (.cons hs (.refl _))
  have hP:apP a N m v es (i:Int) e=NK N m (NJ (Bo (I9 l (LQ e))) v es ((i+1:Nat):Int)):=by
   unfold apP LQ
   cases hdl:e.del with
   | true=>rw[Bool.not_true,cond_false,q2,hw];rfl
   | false=>rw[Bool.not_false,cond_true,q2,hw];rfl
  unfold bE
  rw[decide_eq_true (show((i:Nat):Int)<(es.length:Int) by omega),cond_true,Bq hi,Int.toNat_natCast,hee,q1,hP,hw,Nr hv hev]
  dsimp only
  unfold NL
  cases e.write with
  | false=>exact .inl ⟨rfl,rfl⟩
  | true=>
   cases AH v e.ver with
   | false=>exact .inl ⟨rfl,rfl⟩
   | true=>
    cases hf:(Cu l e.key).2 with
    | false=>exact .inr rfl
    | true=>
     have hm:=(Lv hf).1
     rw[Nr (hV _ hm) hev]
     cases AH (Cu l e.key).1.ver e.ver with
     | false=>exact .inl ⟨rfl,rfl⟩
     | true=>exact .inr rfl
 have drop:∀ {i:Nat},i<es.length -> ∀ l,G0 l v (es.drop i)=G0 (NL v l (es.getD i default)) v (es.drop (i+1)):=fun {i} hi l=>by
  rw[drop_cons (z:=(default:Entry)) hi];rfl
 have run:∀ d i m l,i+d=es.length->d<m->l.length<=10000+i->(∀ x ∈ l,Au x.ver)->NK N m (NJ (Bo l) v es (i:Nat))=some (Bo (G0 l v (es.drop i))):=by
  intro d
  induction d with
  | zero=>
   intro i m l hi hm hl hV
   obtain⟨m,rfl⟩:∃ k,m=k+1:=⟨m - 1,by omega⟩
   rw[adI]
   unfold bE
   rw[decide_eq_false (by omega),cond_false,List.drop_eq_nil_of_le (by omega)];rfl
  | succ d ih=>
   intro i m l hi hm hl hV
   obtain⟨m,rfl⟩:∃ k,m=k+1:=⟨m - 1,by omega⟩
   have hil:i<es.length:=by omega
   obtain⟨a1,a2⟩:=bF (v:=v) hV (he _ (getD_mem (z:=(default:Entry)) hil))
   rw[adI,drop hil]
   rcases stp (OK l) (.refl _) hil (by omega) hV with ⟨e1,e2⟩ | e1
   ·rw[e1,e2];exact ih (i+1) m l (by omega) (by omega) (by omega) hV
   ·rw[e1];exact ih (i+1) m _ (by omega) (by omega) (by omega) a2
 have runE:∀ d i m,i+d=es.length->d<m -> ∃ r,NK N m (NJ (.trl 4 []) v es (i:Nat))=some r/\AR r (Bo (G0 [] v (es.drop i))):=by
  intro d
  induction d with
  | zero=>
   intro i m hi hm
   obtain⟨m,rfl⟩:∃ k,m=k+1:=⟨m - 1,by omega⟩
   rw[adJ]
   unfold bE
   rw[decide_eq_false (by omega),cond_false,List.drop_eq_nil_of_le (by omega)]
   exact⟨_,rfl,jG⟩
  | succ d ih=>
   intro i m hi hm
   obtain⟨m,rfl⟩:∃ k,m=k+1:=⟨m - 1,by omega⟩
   have hil:i<es.length:=by omega
   have hV:∀ x ∈ ([]:List Row),Au x.ver:=fun x hx=>(by cases hx)
   obtain⟨a1,a2⟩:=bF (v:=v) hV (he _ (getD_mem (z:=(default:Entry)) hil))
   rw[adJ,drop hil]
   rcases stp (a:=.trl 4 []) (l:=[]) rfl jG hil (by simp) hV with ⟨e1,e2⟩ | e1
   ·rw[e1,e2];exact ih (i+1) m (by omega) (by omega)
   ·rw[e1];exact⟨_,run d (i+1) m _ (by omega) (by omega) (by have a3:(NL v [] (es.getD i default)).length<=0+1:=a1;omega) a2,.refl _⟩
 have hin:=akU N l0 v es
 rw[Aq (show(0+l0.length)*56<=140737488355328 by omega),Aq (show 0+l0.length<=140737488355328 by omega),Bool.and_true,cond_true]at hin
 by_cases h0:l0.length=0
 ·have hl0:=List.length_eq_zero_iff.1 h0
  rw[AM.beq_true h0,cond_true]at hin
  obtain⟨r,e1,e2⟩:=runE es.length 0 N (by omega) (by omega)
  rw[List.drop_zero]at e2
  rw[<- hl0]at e2
  exact(BQ knok (hin.trans e1)).res e2
 ·rw[AM.beq_false h0,cond_false,Aq (Nat.le_refl _),Bool.or_true,cond_true]at hin
  have e1:=run es.length 0 N l0 (by omega) (by omega) (by omega) hx
  rw[List.drop_zero]at e1
  exact BQ knok (hin.trans e1)
def jH:Known:=.spec CN oG oH bG (fun p=>Bo (G0 p.1 p.2.1 p.2.2))
theorem oI:jH.Ok PG:=Known.spec_ok aiA
end Go.Hd
end
noncomputable section
open Go Go.AM Go.Md
namespace Go.Hd
open Go.Wk
set_option maxRecDepth 100000
set_option maxHeartbeats 400000
structure Shard where
 fence:Int
 floor:Ver
 rows:List Row
instance:Inhabited Shard:=⟨⟨0,⟨0,0⟩,[]⟩⟩
def M7(s:Shard):List AV:=[.int .i64 s.fence,.cplx .f64 s.floor.re s.floor.im,Bo s.rows]
def Hj(s:Shard):AV:=.tr 3 1 fun _=>M7 s
def Tx(a:List AV):Shard:=⟨Ar a 0,⟨(BE a 1).1,(BE a 1).2⟩,AN IE (a.getD 2 .nils)⟩
theorem bH(s:Shard):Tx (M7 s)=s:=by
 unfold Tx
 have:(M7 s).getD 2 .nils=Bo s.rows:=rfl
 rw[this,OK];rfl
def adK(a:AV):Shard:=match a with
 | .tr _ _ f=>Tx (f 0)
 | _=>default
theorem xA(s:Shard):adK (Hj s)=s:=bH s
def eDo(l:List Known):Env:=BU [] [(CS,0),(Ot,0),(DU,0),(Cq,0),(EY,0),(CN,0),(CX,0),(BK,0)] [] l
def oJ:List Known:=[eM,jH,adG,UR,VR,wY]
def oK(m:Msg)(k:Int):Msg:={m with kind:=k,shard:=0}
def LR(m:Msg):List AV:=((((Ac m).set 23 .nils).set 24 .nils).set 25 .nils).set 29 .nils |>.set 30 .nils
def aiB(s:Shard)(v:Ver)(l:List Row):Shard:=⟨s.fence,v,l⟩
def PO(m:Msg)(c:Int):Msg:={(default:Msg)with kind:=16,src:=m.dst,dst:=m.src,boot:=m.sboot,epoch:=m.epoch,num:=m.num,code:=c}
def X3(m:Msg)(has:Bool)(r:Row):Msg:={(default:Msg)with kind:=18,src:=m.dst,dst:=m.src,boot:=m.sboot,epoch:=m.epoch,num:=m.num,key:=m.key,has:=has,val:=r.val,ver:=r.ver}
def stx(s t:Shard):AV:=.tr 3 1 fun i=>bif i.beq 0 then M7 t else M7 s
def xB(s t:Shard)(m:Msg):AV:=.tup [stx s t,.agg (LR m),.bool true]
def xC(v:Ver)(K:Option AV):Option AV:=gC Np Au Nq [eV v] fun _=>K
def gVs(l:List Entry)(K:Option AV):Option AV:=gC (dL Bf) wX (fun l=>[Ae l]) [Ae l] fun _=>K
theorem akV(s:Shard)(m:Msg):Am (eDo oJ) 9 CS [Hj s,.agg (Ac (oK m 15))] =
 xC m.floor (xC m.ver (gVs m.entries (bif decide (m.epoch=s.fence)then gC DA V2 Dz [eV s.floor,eV m.floor] fun y=>gC oG oH bG [Bo s.rows,eV (BB y.1 y.2),Ae m.entries] fun z=>
  gC oE oF bD [Bo (G0 z.1 z.2.1 z.2.2),eV (BB y.1 y.2)] fun x=>some (xB s (aiB s (BB y.1 y.2) (Rq x.1 x.2)) (PO m 0))
 else some (xB s s (PO m 6))))):=by kernel_rfl
theorem akW(s:Shard)(m:Msg):Am (eDo oJ) 9 CS [Hj s,.agg (Ac (oK m 17))] =
 xC m.floor (xC m.ver (gVs m.entries (gC jA (fun p=>p.1.length<=100000) bC [Bo s.rows,.str m.key] fun y=>bif(Cu y.1 y.2).2 then some (xB s s (X3 m (!(Cu y.1 y.2).1.del) (Cu y.1 y.2).1))else some (xB s s (X3 m false default))))):=by kernel_rfl
def xD(s:Shard)(m:Msg):Shard:=bif decide (m.epoch=s.fence)then aiB s (BB s.floor m.floor) (Rq (G0 s.rows (BB s.floor m.floor) m.entries) (BB s.floor m.floor))else s
def flM(s:Shard)(m:Msg):Msg:=bif decide (m.epoch=s.fence)then PO m 0 else PO m 6
def jI(s:Shard)(m:Msg):Msg:=bif(Cu s.rows m.key).2 then X3 m (!(Cu s.rows m.key).1.del) (Cu s.rows m.key).1 else X3 m false default
def LZ(p:Shard × Msg):Shard × Msg:=bif decide (p.2.kind=15)then(xD p.1 p.2,flM p.1 p.2)else(p.1,jI p.1 p.2)
structure Oa(p:Shard × Msg):Prop where
 kd:p.2.kind=15\/p.2.kind=17
 shard:p.2.shard=0
 fl:Au p.2.floor
 ver:Au p.2.ver
 es:wX p.2.entries
 sfl:Au p.1.floor
 len:p.1.rows.length<=10000
 rows:∀ x ∈ p.1.rows,Au x.ver
abbrev SM1:=Shard × Msg
def jJ(a:List AV):SM1:=(adK (a.getD 0 .nils),BI (AA a 1))
def SW(p:SM1):List AV:=[Hj p.1,.agg (Ac p.2)]
theorem xE(p:SM1):jJ (SW p)=p:=Prod.ext (xA p.1) (C8 p.2)
def oSM(p:SM1):AV:=.tup [Hj p.1,.agg (Ac p.2),.bool true]
theorem afJ(s t:Shard):AR (stx s t) (Hj t):=.trs fun i hi=>by
 have:i=0:=by omega
 subst this;exact .refl _
theorem Ty(m:Msg)(h:m.entries=[]/\m.chain=[]/\m.views=[]/\m.image.log=[]/\m.image.seen=[]):Cg (LR m) (Ac m):=by
 obtain⟨h1,h2,h3,h4,h5⟩:=h
 unfold LR Ac
 rw[h1,h2,h3,h4,h5]
 exact Ei (by repeat' (first | exact trivial | exact Df | exact AR.refl _ | refine⟨?_,?_⟩))
theorem VS{v:Ver}:∀ (es:List Entry) (l:List Row),(∀ x ∈ l,Au x.ver)->(∀ e ∈ es,Au e.ver)->(G0 l v es).length<=l.length+es.length /\ ∀ x ∈ G0 l v es,Au x.ver
 | [],l,h,_=>⟨by simp[G0],h⟩
 | e::es,l,h,he=>by
  obtain⟨a,b⟩:=bF (v:=v) h (he e (by simp))
  obtain⟨c,d⟩:=VS es (NL v l e) b fun x hx=>he x (List.mem_cons_of_mem _ hx)
  refine⟨?_,d⟩
  show(G0 (NL v l e) v es).length<=_
  simp only[List.length_cons];omega
theorem afK:∀ k ∈ oJ,k.Ok PG:=ak lF (ak oI (ak abP (ak Rp (ak US (ak wZ AL)))))
theorem jK{m:Msg}{k:Int}(h:m.kind=k)(h2:m.shard=0):oK m k=m:=by
 subst h
 unfold oK
 rw[<- h2]
theorem aiC(p:SM1)(h:Oa p):Aa PG CS (SW p) [] (oSM (LZ p)) []:=by
 obtain⟨s,m⟩:=p
 obtain⟨hk,hsh,h1,h2,h3,h4,h5,h6⟩:=h
 dsimp only at hk hsh h1 h2 h3 h4 h5 h6
 have q1:∀ {v:Ver} {K:Option AV},Au v->xC v K=K:=fun {v K} hv=>Aw v rfl hv (.refl _)
 have q2:∀ {K:Option AV},gVs m.entries K=K:=fun {K}=>Aw m.entries (Eo _) h3 (.refl _)
 have fin:∀ {t:Shard} {x:Msg},x.entries=[]/\x.chain=[]/\x.views=[]/\x.image.log=[]/\x.image.seen=[]->Am (eDo oJ) 9 CS (SW (s,m))=some (xB s t x)->Aa PG CS (SW (s,m)) [] (oSM (t,x)) []:=by
  intro t x hx e
  refine(BQ afK e).res (AR.tup (.cons (afJ s t) (.cons (.agg (Ty x hx)) (.refl _))))
 unfold LZ
 rcases hk with hk | hk
 ·have e:=akV s m
  rw[jK hk hsh,q1 h1,q1 h2,q2]at e
  rw[decide_eq_true hk,cond_true]
  dsimp only
  unfold xD flM
  cases hd:decide (m.epoch=s.fence)with
  | false=>
   rw[hd,cond_false]at e
   exact fin ⟨rfl,rfl,rfl,rfl,rfl⟩ e
  | true=>
   rw[hd,cond_true]at e
   have hm:=Au.max h4 h1
   obtain⟨a1,a2⟩:=VS (v:=BB s.floor m.floor) m.entries s.rows h6 h3.2
   have hl:=h3.1
   have q3:∀ {K:Ver × Ver->Option AV},gC DA V2 Dz [eV s.floor,eV m.floor] K=K (s.floor,m.floor):=fun {K}=>Aw (s.floor,m.floor) rfl ⟨h4,h1⟩ (.refl _)
   have q4:∀ {K:RVE->Option AV},gC oG oH bG [Bo s.rows,eV (BB s.floor m.floor),Ae m.entries] K=K (s.rows,BB s.floor m.floor,m.entries):=fun {K}=>Aw (s.rows,BB s.floor m.floor,m.entries) (afI (s.rows,BB s.floor m.floor,m.entries)) ⟨by show s.rows.length<=_;omega,by show m.entries.length<=_;omega,hm,h6,h3.2⟩ (.refl _)
   have q5:∀ {K:RV2->Option AV},gC oE oF bD [Bo (G0 s.rows (BB s.floor m.floor) m.entries),eV (BB s.floor m.floor)] K=K (G0 s.rows (BB s.floor m.floor) m.entries,BB s.floor m.floor):=fun {K}=>Aw (G0 s.rows (BB s.floor m.floor) m.entries,BB s.floor m.floor) (afE (G0 s.rows (BB s.floor m.floor) m.entries,BB s.floor m.floor)) ⟨by show(G0 s.rows (BB s.floor m.floor) m.entries).length<=_;omega,hm,a2⟩ (.refl _)
   rw[q3]at e
   dsimp only at e
   rw[q4]at e
   dsimp only at e
   rw[q5]at e
   exact fin ⟨rfl,rfl,rfl,rfl,rfl⟩ e
 ·have e:=akW s m
  have q3:∀ {K:RK->Option AV},gC jA (fun p=>p.1.length<=100000) bC [Bo s.rows,.str m.key] K=K (s.rows,m.key):=fun {K}=>Aw (s.rows,m.key) (wU (s.rows,m.key)) (by show s.rows.length<=_;omega) (.refl _)
  rw[jK hk hsh,q1 h1,q1 h2,q2,q3]at e
  rw[decide_eq_false (show ¬ m.kind=15 by omega),cond_false]
  dsimp only at e ⊢
  unfold jI
  cases hf:(Cu s.rows m.key).2 with
  | true=>rw[hf]at e;exact fin ⟨rfl,rfl,rfl,rfl,rfl⟩ e
  | false=>rw[hf]at e;exact fin ⟨rfl,rfl,rfl,rfl,rfl⟩ e
def aiD:Known:=.spec CS jJ Oa SW (fun p=>oSM (LZ p))
theorem afL:aiD.Ok PG:=Known.spec_ok aiC
def al7(l:List Known):Env:=BU [] [(DR,0),(CS,0)] [] l
theorem akX(s:Shard)(m:Msg):Am (al7 [aiD]) 9 DR [Hj s,.agg (Ac m)]=gC jJ Oa SW [Hj s,.agg (Ac m)] fun y=>some (.tup [Hj (LZ y).1,.trl 31 [Ac (LZ y).2]]):=by kernel_rfl
def oRS(p:SM1):AV:=.tup [Hj p.1,.trl 31 [Ac p.2]]
theorem xF(p:SM1)(h:Oa p):Aa PG DR (SW p) [] (oRS (LZ p)) []:=
 BQ (ak afL AL) ((akX p.1 p.2).trans (Aw p (xE p) h (.refl _)))
def jL:Known:=.spec DR jJ Oa SW (fun p=>oRS (LZ p))
theorem oL:jL.Ok PG:=Known.spec_ok xF
end Go.Hd
end
noncomputable section
namespace Go.AM
theorem Az.block_n{P:Program}{nt base:Nat}{x:Code}{id:Nat}{s s1:St}(h:Az (fun Q=>x.wp P Q) nt base s .normal s1):Az (fun Q=>(Code.block id x).wp P Q) nt base s .normal s1:=by
 intro hb
 obtain⟨b1,g1⟩:=h hb
 exact⟨b1,fun w I φ a hs ha Q hQ=>wp_block (g1 w I φ a hs ha _ hQ)⟩
theorem Az.seq_exit{P:Program}{nt base:Nat}{x y:Code}{id:Nat}{s s1:St}(h:Az (fun Q=>x.wp P Q) nt base s (.exit id) s1):Az (fun Q=>(Code.seq x y).wp P Q) nt base s (.exit id) s1:=by
 intro hb
 obtain⟨b1,g1⟩:=h hb
 exact⟨b1,fun w I φ a hs ha Q hQ=>wp_seq (g1 w I φ a hs ha _ hQ)⟩
end Go.AM
end
noncomputable section
set_option linter.unusedVariables false
set_option linter.unusedSimpArgs false
namespace Go.AM
def Gn(s:St)(l:List Nat):Heap:=KY s.hp (l.map fun b=>(b,frozen (Ab s.hp b)))
theorem afM{w:World}{I:Nat->Prop}{φ:Phi}{s:St}{a:Act}{b j sz:Nat}{cs:List AV}{m:Bool}{c v:AV}{l:List Nat}(hs:Cc w I φ s a)(hb:Ab s.hp b=.arr m sz [cs])(hc:cs[j]? = some c)
  (h:IF depth (Ab s.hp) c=some (v,l,true)) (hb2:Ab (Gn s l) b=.arr m sz [cs]) :
  ∃ I' φ',Cc w I' φ' {fr:=s.fr,hp:=Ed (Gn s l) b (.arr m sz [cs.set j v])} a /\
   ∀ base,base<=s.hp.length->Step base (Ab s.hp) φ I w (Ab (Ed (Gn s l) b (.arr m sz [cs.set j v]))) φ' I' w:=by
 obtain⟨hl,hv⟩:=(KJ hs.hh depth).1 _ _ _ h fun _ _=>rfl
 have hlt:∀ B,(I B\/F5 φ l B)->B<w.heap.size:=fun B hB=>hB.elim (hs.hh.lt B) (Oh hs.hh hl)
 obtain⟨φ2,_,le,hh2,st⟩:=hs.hh.merge (w':=w) (I2:=fun B=>I B\/F5 φ l B) (φ':=Phi.no) (bs:=[]) (nx:=s.hp.length) (t:=true) (rch:=l) hl (fun i hi=>by simp at hi) (Ext.refl _ _)
  (fun B hB=>.inl hB) (fun B hB=>hB.elim .inl fun h=>.inr (.inl ⟨rfl,h⟩)) (fun _ B hB=>.inr hB) (RH.empty w _ hlt) (fun B hB=>(D6 hB).elim) (Ab s.hp) (fun _ _=>rfl)
 have e:B3 (Ab s.hp) ((bif true then l.map fun b=>(b,frozen (Ab s.hp b))else [])++imports s.hp.length 0 (([]:Heap).map (BD (shift s.hp.length ([]:Heap).length))))=Ab (Gn s l):=by
  unfold Gn
  rw[OU]
  show B3 (Ab s.hp) ((l.map fun b=>(b,frozen (Ab s.hp b)))++[])=_
  rw[List.append_nil]
 rw[e]at hh2
 have hstep:=st 0 (Nat.zero_le _)
 rw[e]at hstep
 have old:FrOk w (fun B=>I B\/F5 φ l B) φ2 (A3 s.fr) a:=hs.fr.step hs.hh hstep le
 have hlive:live (Ab s.hp b)=true:=by rw[hb];rfl
 obtain⟨B1,o1,s1,e1,r1⟩:∃ B o z,φ b=some (B,o,z)/\RB w I φ B o z (.arr m sz [cs]):=by
  rcases hs.hh.blk b hlive with ⟨B,o,z,e,r⟩ | ⟨_,hp⟩
  ·rw[hb]at r;exact⟨B,o,z,e,r⟩
  ·rw[hb]at hp;exact hp.elim
 obtain⟨_,_,_,q4⟩:=r1
 obtain⟨u0,u1,u2,u3⟩:=q4 0 cs j c rfl hc
 have hu:=hv (fun B=>I B\/F5 φ l B) (fun B hB=>.inl hB) (fun B hB=>.inr hB) _ u3
 have e2:=le _ _ e1
 have one:∀ {c':List AV} {i:Nat} {cs':List AV},[c'][i]? = some cs'->i=0/\cs'=c':=by
  intro c' i cs' e
  cases i with
  | zero=>simp at e;exact⟨rfl,e.symm⟩
  | succ i=>simp at e
 have hlx:live (BS.arr m sz [cs.set j v])=true:=rfl
 have key:RH w (fun B=>I B\/F5 φ l B) φ2 (AZ (Ab (Gn s l)) b (.arr m sz [cs.set j v])) /\ ∀ base,Step base (Ab (Gn s l)) φ2 (fun B=>I B\/F5 φ l B) w (AZ (Ab (Gn s l)) b (.arr m sz [cs.set j v])) φ2 (fun B=>I B\/F5 φ l B) w:=by
  have hw:=hh2
  have hmu:∀ b',An (AZ (Ab (Gn s l)) b (.arr m sz [cs.set j v]) b')=An (Ab (Gn s l) b'):=fun b'=>by
   by_cases e:b'=b
   ·subst e;rw[AS,hb2];rfl
   ·rw[AQ _ _ e]
  have hlv:∀ b',live (AZ (Ab (Gn s l)) b (.arr m sz [cs.set j v]) b')=live (Ab (Gn s l) b'):=fun b'=>by
   by_cases e:b'=b
   ·subst e;rw[AS,hb2];rfl
   ·rw[AQ _ _ e]
  refine⟨⟨fun b' e=>?_,fun b' e=>?_,fun b1 b2 B o s o' s' h1 h2=>hw.inj b1 b2 B o s o' s' (hmu b1 ▸ h1) (hmu b2 ▸ h2),fun b' B o s h1=>hw.disj b' B o s (hmu b' ▸ h1),fun b' B o s h1 h2=>hw.imm b' B o s (hlv b' ▸ h1) (hmu b' ▸ h2),hw.lt⟩,
   fun base=>⟨fun _ _ _ e=>e,fun _ hB=>hB,fun _ hB=>.inl hB,fun B ⟨b',o,s,h1,e⟩=>.inl ⟨b',o,s,hmu b' ▸ h1,e⟩,Ext.refl _ _⟩⟩
  ·by_cases e':b'=b
   ·subst e';rw[AS]at e;cases e
   ·rw[AQ _ _ e']at e;exact hw.none b' e
  ·by_cases e':b'=b
   ·subst e'
    rw[AS]
    rcases hw.blk b' (by rw[hb2];rfl)with ⟨B,o,z,g1,r⟩ | ⟨_,hph⟩
    ·refine .inl ⟨B,o,z,g1,?_⟩
     rw[e2]at g1
     cases g1
     rw[hb2]at r
     obtain⟨r1,r2,r3,r4⟩:=r
     refine⟨r1,r2,fun i cs' e=>?_,fun i cs' k c1 e e'=>?_⟩
     ·obtain⟨rfl,rfl⟩:=one e
      rw[List.length_set];exact r3 0 cs rfl
     ·obtain⟨rfl,rfl⟩:=one e
      rw[List.getElem?_set]at e'
      split at e'
      ·rename_i hk
       subst hk
       split at e'
       ·cases e'
        exact⟨u0,u1,u2,hu.mono (fun B hB=>⟨hB,rfl⟩) (fun _=>Nat.le_refl _) (Phi.no_le _)⟩
       ·cases e'
      ·exact r4 0 cs k c1 rfl e'
    ·rw[hb2]at hph;exact hph.elim
   ·rw[AQ _ _ e']at e ⊢;exact hw.blk b' e
 have hg:Ab (Ed (Gn s l) b (.arr m sz [cs.set j v]))=AZ (Ab (Gn s l)) b (.arr m sz [cs.set j v]):=funext fun b'=>JF _ _ _ _
 refine⟨_,φ2,⟨by rw[hg];exact key.1,old⟩,fun base hb=>?_⟩
 have t:=st base hb
 rw[e]at t
 rw[hg]
 exact t.trans (key.2 base)
theorem Az.frzC{P:Program}{nt base:Nat}{x:Code}{s s1:St}{e:AX}(h:Az (fun Q=>x.wp P Q) nt base s e s1){b j sz:Nat}{cs:List AV}{m:Bool}{c v:AV}{l:List Nat}(hb:Ab s1.hp b=.arr m sz [cs])(hc:cs[j]? = some c)
  (hv:IF depth (Ab s1.hp) c=some (v,l,true)) (hb2:Ab (Gn s1 l) b=.arr m sz [cs]):Az (fun Q=>x.wp P Q) nt base s e {fr:=s1.fr,hp:=Ed (Gn s1 l) b (.arr m sz [cs.set j v])}:=by
 intro hbase
 obtain⟨b1,g1⟩:=h hbase
 have hlen:s1.hp.length<=(Ed (Gn s1 l) b (.arr m sz [cs.set j v])).length:=Nat.le_trans (EN _ _) (Gt _ _ _)
 refine⟨Nat.le_trans b1 hlen,fun w I φ a hs ha Q hQ=>g1 w I φ a hs ha _ fun a' w' φ' I' c1 c2 c3 c4=>?_⟩
 obtain⟨I2,φ2,n1,n2⟩:=afM c3 hb hc hv hb2
 exact hQ a' w' φ2 I2 c1 c2 n1 (c4.trans (n2 base b1))
end Go.AM
end
noncomputable section
set_option linter.unusedVariables false
namespace Go.AM
theorem Az.hsub{P:Program}{nt base:Nat}{x:Code}{s s1:St}{e:AX}(h:Az (fun Q=>x.wp P Q) nt base s e s1){h':Heap}(hs:HSub s1.hp h'):Az (fun Q=>x.wp P Q) nt base s e {fr:=s1.fr,hp:=h'}:=by
 intro hb
 obtain⟨b1,g1⟩:=h hb
 refine⟨by rw[<- hs.1];exact b1,fun w I φ a ho ha Q hQ=>g1 w I φ a ho ha _ fun a' w' φ' I' c1 c2 c3 c4=>?_⟩
 exact hQ a' w' φ' I' c1 c2 ⟨hs.rh c3.hh,c3.fr⟩ ⟨c4.le,c4.Ile,c4.Inew,fun B hB=>c4.mt B (hs.mut hB),c4.ext⟩
theorem bI{P:Program}{env:Env}{fn nt n base:Nat}{run:DI St}(henv:C2 P env)(hrun:Ew P run)(hm:P.follows .mixedOrders=true){c:Code}{cur:Nat}{l:List Nat}{s s':St}(hok:Ak c=true)
  (h:PV env run fn nt n base cur c (Cm .ret (norm base l)) s=some s'):Az (fun Q=>c.wp P Q) nt base s .ret s':=by
 obtain⟨e,s1,h1,h2⟩:=Ol henv hrun hm hok h
 cases e with
 | ret=>
  cases h1
  intro hb
  obtain⟨b1,g1⟩:=h2 hb
  refine⟨JI b1,fun w I φ a hs ha Q hQ=>g1 w I φ a hs ha _ fun a' w' φ' I' c1 c2 c3 c4=>?_⟩
  obtain⟨n1,φ1,n2,n3⟩:=JH base l c3 b1
  exact hQ a' w' φ1 I' c1 c2 n2 (c4.trans n3)
 | exit id=>cases h1
 | goto l=>cases h1
 | normal=>cases h1
end Go.AM
end
noncomputable section
set_option linter.unusedVariables false
set_option linter.unusedSimpArgs false
namespace Go.AM
def Ky(hp:Heap):Heap:=List.replicate hp.length .dead++hp.map (BD (up 0 hp.length))
theorem up0(k i:Nat):up 0 k i=some (i+k):=rfl
theorem abT(hp:Heap)(b:Nat):Ab (Ky hp) b=if b<hp.length then .dead else BD (up 0 hp.length) (Ab hp (b - hp.length)):=by
 unfold Ky
 simp only[Ab,List.getD]
 by_cases h:b<hp.length
 ·rw[if_pos h,List.getElem?_append_left (by simpa using h),List.getElem?_replicate,if_pos h];rfl
 ·rw[if_neg h,List.getElem?_append_right (by simp;omega)]
  simp only[List.getElem?_map,List.length_replicate]
  cases hp[b - hp.length]? with
  | none=>rfl
  | some x=>rfl
theorem aiE{w:World}{I:Nat->Prop}{φ:Phi}{s:St}{a:Act}(hs:Cc w I φ s a){fr:Fr}(hfr:∀ t,A3 fr t=ren (up 0 s.hp.length) (A3 s.fr t)) :
  ∃ φ3,Cc w I φ3 {fr:=fr,hp:=Ky s.hp} a/\Step s.hp.length (Ab s.hp) φ I w (Ab (Ky s.hp)) φ3 I w:=by
 obtain⟨k,hk⟩:∃ k,s.hp.length=k:=⟨_,rfl⟩
 have hg:=abT s.hp
 rw[hk]at hg hfr ⊢
 let φ3:Phi:=fun b=>if b<k then φ b else φ (b - k)
 have hρ:∀ i b',up 0 k i=some b'->φ3 b'=φ i:=by
  intro i b' e
  rw[up0]at e
  cases e
  simp only[φ3,if_neg (by omega:¬ i+k<k),Nat.add_sub_cancel]
 have key:∀ b,live (Ab (Ky s.hp) b)=true -> ∃ i,b=i+k/\Ab (Ky s.hp) b=BD (up 0 k) (Ab s.hp i)/\φ3 b=φ i/\live (Ab s.hp i)=true:=by
  intro b hl
  rw[hg b]at hl ⊢
  by_cases h1:b<k
  ·rw[if_pos h1]at hl;cases hl
  ·rw[if_neg h1]at hl ⊢
   exact⟨b - k,by omega,rfl,by simp only[φ3,if_neg h1],(Bb _ _).1 hl⟩
 have hmut:∀ b,An (Ab (Ky s.hp) b)=true -> ∃ i,b=i+k/\φ3 b=φ i/\An (Ab s.hp i)=true:=by
  intro b hm
  obtain⟨i,h1,h2,h3,h4⟩:=key b (A5 hm)
  rw[h2]at hm
  exact⟨i,h1,h3,(Bb _ _).2.1 hm⟩
 refine⟨φ3,⟨⟨fun b e=>?_,fun b hl=>?_,fun b b' B o sz o' sz' hm hm' e e'=>?_,fun b B o sz hm e=>?_,fun b B o sz hl hm e=>?_,hs.hh.lt⟩,fun t=>?_⟩,⟨fun b p hb e=>?_,fun B hB=>hB,fun B hB=>.inl hB,fun B hB=>?_,Ext.refl _ _⟩⟩
 ·rw[hg b]at e
  by_cases h1:b<k
  ·rw[if_pos h1]at e;cases e
  ·rw[if_neg h1]at e
   simp only[φ3,if_neg h1]
   exact hs.hh.none _ ((Bb _ _).2.2.1 e)
 ·obtain⟨i,h1,h2,h3,h4⟩:=key b hl
  rcases hs.hh.blk i h4 with ⟨B,o,sz,e,r⟩ | ⟨e,hp⟩
  ·exact .inl ⟨B,o,sz,h3.trans e,by rw[h2];exact r.ren hρ⟩
  ·exact .inr ⟨h3.trans e,by rw[h2];exact Fi _ hp⟩
 ·obtain⟨i,h1,h3,h4⟩:=hmut b hm
  obtain⟨i',h1',h3',h4'⟩:=hmut b' hm'
  have:=hs.hh.inj i i' B o sz o' sz' h4 h4' (h3 ▸ e) (h3' ▸ e')
  omega
 ·obtain⟨i,h1,h3,h4⟩:=hmut b hm
  exact hs.hh.disj i B o sz h4 (h3 ▸ e)
 ·obtain⟨i,h1,h2,h3,h4⟩:=key b hl
  rw[h2]at hl hm
  exact hs.hh.imm i B o sz h4 (by rw[<- (Bb (up 0 k) _).2.2.2 hl];exact hm) (h3 ▸ e)
 ·rw[hfr t]
  exact(hs.fr t).ren hρ
 ·simp only[φ3,if_pos hb];exact e
 ·obtain⟨b,o,sz,hm,e⟩:=hB
  obtain⟨i,h1,h3,h4⟩:=hmut b hm
  exact .inl ⟨i,o,sz,h4,h3 ▸ e⟩
theorem abU(hp:Heap):(Ky hp).length=hp.length+hp.length:=by unfold Ky;simp
theorem Az.moved{nt:Nat}{X:(Exit->Act->World->Prop)->Act->World->Prop}{s T:St}{e:AX}{fr:Fr}(hfr:∀ t,A3 fr t=ren (up 0 s.hp.length) (A3 s.fr t))
  (h:Az X nt s.hp.length {fr:=fr,hp:=Ky s.hp} e T):Az X nt s.hp.length s e T:=by
 intro _
 obtain⟨b1,g1⟩:=h (by show s.hp.length<=(Ky s.hp).length;rw[abU];omega)
 refine⟨b1,fun w I φ a hs ha Q hQ=>?_⟩
 obtain⟨φ3,h1,h2⟩:=aiE hs hfr
 exact g1 w I φ3 a h1 ha Q fun a' w' φ' I' c1 c2 c3 c4=>hQ a' w' φ' I' c1 c2 c3 (h2.trans c4)
theorem UT{ρ:Nat->Option Nat}(args:List AV):∀ (i t:Nat),A3 (Ce i (args.map (ren ρ))) t=ren ρ (A3 (Ce i args) t):=by
 induction args with
 | nil=>intro i t;rfl
 | cons x r ih=>
  intro i t
  simp only[List.map_cons,Ce,A3]
  cases Nat.beq i t with
  | true=>rfl
  | false=>exact ih (i+1) t
def X4(env:Env)(n f:Nat)(args:List AV)(hp:Heap):Option (AV × Heap):=pt env n hp.length f (Cr 0 hp.length) [] {fr:=Ce 0 (args.map (ren (up 0 hp.length))),hp:=Ky hp}
theorem bJ{P:Program}{env:Env}(henv:C2 P env)(hcode:F8 P env)(hm:P.follows .mixedOrders=true){n f:Nat}{args:List AV}{hp:Heap}{r:AV}{h:Heap}
  (e:X4 env n f args hp=some (r,h)):Aa P f args hp r h/\hp.length<=h.length:=by
 unfold X4 pt at e
 cases hf:env.code f with
 | none=>
  have hb:CM env f=.skip:=by unfold CM;rw[hf]
  rw[hb]at e
  have:QE env f (Cr 0 hp.length) .normal {fr:=Ce 0 (args.map (ren (up 0 hp.length))),hp:=Ky hp}=some (r,h):=e
  unfold QE at this
  rw[hf]at this
  cases this
 | some fn=>
  obtain⟨hfn,hbody,hname,hok⟩:=hcode f fn hf
  have hb:fn.body=some (CM env f):=by
   unfold CM
   rw[hf]
   dsimp only
   cases h:fn.body with
   | none=>rw[h]at hbody;cases hbody
   | some c=>rfl
  have hnt:Ig env f=fn.ntmps:=by unfold Ig;rw[hf]
  have hok2:Ak (CM env f)=true:=by
   exact hok _ hb
  obtain⟨ex,T,k1,k2⟩:=Ol (fn:=f) (nt:=Ig env f) (n:=n) (base:=hp.length) henv (K5 henv hcode hm n) hm (cur:=0) (c:=CM env f) (k:=QE env f (Cr 0 hp.length)) (s:={fr:=Ce 0 (args.map (ren (up 0 hp.length))),hp:=Ky hp}) hok2 (by
   unfold PV
   have e0:∀ (c:Code) (jump:Code->Nat->Jn (AV × Heap)) (k:AX->St->Option (AV × Heap)),Ie env (D2 env n) f (Ig env f) n hp.length jump 0 c [] k=k:=fun c _ _=>by cases c <;> rfl
   have e1:∀ c:Code,sub c []=c:=fun c=>by cases c <;> rfl
   have e2:∀ c:Code,IH 0 c []=0:=fun c=>by cases c <;> rfl
   rw[e0,e1,e2]at e
   exact e)
  rw[hnt]at k2
  have k3:Az (fun Q=>(CM env f).wp P Q) fn.ntmps hp.length {fr:=Ce 0 args,hp:=hp} ex T:=Az.moved (s:={fr:=Ce 0 args,hp:=hp}) (fun t=>UT args 0 t) k2
  have k4:ex=.normal\/ex=.ret:=by
   unfold QE yU at k1
   rw[hf]at k1
   cases ex with
   | normal=>exact .inl rfl
   | ret=>exact .inr rfl
   | exit i=>cases k1
   | goto l=>cases k1
  refine GX henv hcode hf hb k4 k3 (c0:=0) (Nat.zero_le _) ?_
  unfold QE yU at k1
  rw[hf]at k1
  rcases k4 with rfl | rfl
  ·exact k1
  ·exact k1
end Go.AM
end
noncomputable section
open Go Go.AM Go.Md
namespace Go.Hd
open Go.Wk
set_option maxRecDepth 100000
set_option maxHeartbeats 400000
structure Play where
 d:Md.Desk
 st:Shard
 way:List Msg
 n1:Int
 n2:Int
 n3:Int
 ops:List Msg
 log:List Entry
 busy:List Bool
 said:List Msg
def Rr(P:Play)(a b c e f:AV):List AV:=AP P.d++[Hj P.st,a,.int .i64 0,.int .i64 P.n1,.int .i64 P.n2,.int .i64 P.n3,b,c,e,f]
def Ff(k:Nat)(P:Play):List AV:=Rr P (.sn 31 k P.way.length) (.sn 31 (k+1) P.ops.length) (.sn 11 (k+2) P.log.length) (.sn 1 (k+3) P.busy.length) (.sn 31 (k+4) P.said.length)
def HS(P:Play):Heap:=[Bc 31 Ac default P.way,Bc 31 Ac default P.ops,Bc 11 Ai default P.log,Bc 1 Hz default P.busy,Bc 31 Ac default P.said]
def eNt(l:List Known):Env:=BU [(CA,0,[2,3,4,5,8,9,10]),(CA,2,[2,4,5,8,11])] [(EJ,0)] [] l
def abV:List Known:=[Fz]
def zDq:List AV:=[.int .i64 0,.int .i64 0,.int .i64 0,.int .i64 0,.int .i64 0,.int .i64 0,.int .i64 0,.nils,.int .i64 0,.cplx .f64 0 0,.cplx .f64 0 0,.nils,.nils,.cplx .f64 0 0,.nils,.int .i64 0,.nils,.nils,.nils,.bool false,.nils,.nils,.int .i64 0]
def OM:List AV:=zDq++[.nils,.nils,.int .i64 0,.int .i64 0,.int .i64 0,.int .i64 0,.nils,.nils,.nils,.nils]
def xH(P:Play)(nw no nl nb ns:Nat)(w o l b s:BS)(more:Heap):Heap:=.dead :: .dead :: .dead :: .dead :: .dead :: .arr true 33 [Rr P (.sn 31 6 nw) (.sn 31 7 no) (.sn 11 8 nl) (.sn 1 9 nb) (.sn 31 10 ns)]::w::o::l::b::s::more
def Fj(P:Play)(more:Heap):Heap:=xH P P.way.length P.ops.length P.log.length P.busy.length P.said.length (Bc 31 Ac default P.way) (Bc 31 Ac default P.ops) (Bc 11 Ai default P.log) (Bc 1 Hz default P.busy) (Bc 31 Ac default P.said) more
def VU(l:List Msg)(was:Bool)(last:Ver)(i:Int):Fr:=[(2,AG l),(3,.bool was),(4,.ptr 5 0 0),(5,.ptr 11 0 0),(8,.ptr 12 0 0),(9,eV last),(10,.int .i64 i)]
def M8(d:Md.Desk):Heap:=[.arr true 23 [AP d],.arr true 33 [OM]]
def jM(N m:Nat)(s:St):Option (AV × Heap):=LP (eNt abV) N 5 CA (Cr 0 5) 0 [] m s
theorem akY(N:Nat)(P:Play)(d:Md.Desk)(l:List Msg)(was:Bool):X4 (eNt abV) N CA [.agg (Ff 0 P),.agg (AP d),AG l,.bool was] (HS P) =
 bif decide ((0:Int)<(P.log.length:Int))then rg (IntKind.i64.wrap ((P.log.length:Int) - 1)) P.log.length (bif(IntKind.i64.wrap ((P.log.length:Int) - 1)).toNat.blt P.log.length then
  jM N N {fr:=VU l was (P.log.getD (IntKind.i64.wrap ((P.log.length:Int) - 1)).toNat default).ver 0,hp:=Fj P (M8 d)}else none)else jM N N {fr:=VU l was ⟨0,0⟩ 0,hp:=Fj P (M8 d)}:=by kernel_rfl
def bK{R:Type}(n b:Nat)(K:Option R):Option R:=bif n.ble n then bif((n+1)*b).ble 140737488355328&&(n+1).ble 140737488355328 then K else none else none
theorem Rs{R:Type}{n b:Nat}(h:n<=1000000)(hb:b<=1000){K:Option R}:bK n b K=K:=by
 unfold bK
 have h1:(n+1)*b<=1000001*1000:=Nat.mul_le_mul (by omega) hb
 rw[Aq (Nat.le_refl _),Aq (show(n+1)*b<=140737488355328 by omega),Aq (show n+1<=140737488355328 by omega)];rfl
def Rt{X:Type}(sz:Nat)(e:X->List AV)(z:X)(l:List X)(x:X):BS:=.seq true sz (l.length+1) (Be l.length (fun i=>e (l.getD i z)) (View.list [e x]))
theorem ON{X:Type}(sz:Nat)(e:X->List AV)(z:X)(l:List X)(x:X):Rt sz e z l x=Bc sz e z (l++[x]):=Vt sz e z l x
def abW(P:Play)(e:Entry)(b:Bool)(more:Heap):Heap:=xH P P.way.length P.ops.length (P.log.length+1) (P.busy.length+1) P.said.length (Bc 31 Ac default P.way) (Bc 31 Ac default P.ops) (Rt 11 Ai default P.log e) (Rt 1 Hz default P.busy b) (Bc 31 Ac default P.said) more
def UU(P:Play)(e:Entry)(b:Bool):Play:={P with log:=P.log++[e],busy:=P.busy++[b]}
theorem afN(P:Play)(e:Entry)(b:Bool)(more:Heap):abW P e b more=Fj (UU P e b) more:=by
 unfold abW Fj UU
 simp only[ON,List.length_append,List.length_singleton];rfl
def abX(P:Play)(x:Msg)(more:Heap):Heap:=xH P P.way.length P.ops.length P.log.length P.busy.length (P.said.length+1) (Bc 31 Ac default P.way) (Bc 31 Ac default P.ops) (Bc 11 Ai default P.log) (Bc 1 Hz default P.busy) (Rt 31 Ac default P.said x) more
def UW(P:Play)(x:Msg):Play:={P with said:=P.said++[x]}
theorem afO(P:Play)(x:Msg)(more:Heap):abX P x more=Fj (UW P x) more:=by
 unfold abX Fj UW
 simp only[ON,List.length_append,List.length_singleton];rfl
def abY(P:Play)(x:Msg)(more:Heap):Heap:=xH P (P.way.length+1) P.ops.length P.log.length P.busy.length P.said.length (Rt 31 Ac default P.way x) (Bc 31 Ac default P.ops) (Bc 11 Ai default P.log) (Bc 1 Hz default P.busy) (Bc 31 Ac default P.said) more
def Lm(P:Play)(x:Msg):Play:={P with way:=P.way++[x]}
theorem afP(P:Play)(x:Msg)(more:Heap):abY P x more=Fj (Lm P x) more:=by
 unfold abY Fj Lm
 simp only[ON,List.length_append,List.length_singleton];rfl
def bL(l:List Msg)(i:Int):Fr:=[(2,AG l),(4,.ptr 5 0 0),(5,.ptr 11 0 0),(8,.ptr 12 0 0),(11,.int .i64 i)]
def xI(N m:Nat)(s:St):Option (AV × Heap):=LP (eNt abV) N 5 CA (Cr 0 5) 2 [] m s
theorem adL(N m:Nat)(P:Play)(d:Md.Desk)(l:List Msg)(was:Bool)(last:Ver)(i:Int):jM N (m+1) {fr:=VU l was last i,hp:=Fj P (M8 d)} =
 bif decide (i<(d.rep.tail.log.length:Int))then rg i d.rep.tail.log.length (QM last (d.rep.tail.log.getD i.toNat default).ver fun y=>bif AH y.1 y.2 then
  rg i d.rep.tail.log.length (bK P.log.length 112 (bK P.busy.length 1 (jM N m {fr:=VU l was last (IntKind.i64.wrap (i+1)),hp:=abW P (d.rep.tail.log.getD i.toNat default) was (M8 d)})))
  else jM N m {fr:=VU l was last (IntKind.i64.wrap (i+1)),hp:=Fj P (M8 d)})
 else xI N N {fr:=bL l 0,hp:=Fj P (M8 d)}:=by kernel_rfl
def oM(P:Play):Heap:=.dead :: .dead :: .dead :: .dead :: .dead::HS P
def Ss(P:Play)(d:Md.Desk):Play:={P with d:=d}
theorem adM(N m:Nat)(P:Play)(d:Md.Desk)(l:List Msg)(i:Int):xI N (m+1) {fr:=bL l i,hp:=Fj P (M8 d)} =
 bif decide (i<(l.length:Int))then rg i l.length (bif decide ((l.getD i.toNat default).kind=6)then
  rg i l.length (bK P.said.length 392 (xI N m {fr:=bL l (IntKind.i64.wrap (i+1)),hp:=abX P (l.getD i.toNat default) (M8 d)}))
  else rg i l.length (bK P.way.length 392 (xI N m {fr:=bL l (IntKind.i64.wrap (i+1)),hp:=abY P (l.getD i.toNat default) (M8 d)})))
 else some (.agg (Ff 5 (Ss P d)),oM (Ss P d)):=by kernel_rfl
def Kz(last:Ver)(was:Bool)(P:Play)(e:Entry):Play:=bif AH last e.ver then UU P e was else P
def KA(P:Play)(x:Msg):Play:=bif decide (x.kind=6)then UW P x else Lm P x
def H0(l:List Entry):Ver:=if l.length=0 then⟨0,0⟩else(l.getD (l.length - 1) default).ver
structure NtA where
 P:Play
 d:Md.Desk
 l:List Msg
 was:Bool
def KB(x:NtA):Play:=Ss (x.l.foldl KA (x.d.rep.tail.log.foldl (Kz (H0 x.P.log) x.was) x.P)) x.d
def Xv(P:Play)(n:Nat):Prop:=P.way.length<=n/\P.ops.length<=n/\P.log.length<=n/\P.busy.length<=n/\P.said.length<=n
structure VV(x:NtA):Prop where
 sz:Xv x.P 600000
 log:x.d.rep.tail.log.length<=1000
 l:x.l.length<=100000
 last:Au (H0 x.P.log)
 ver:∀ e ∈ x.d.rep.tail.log,Au e.ver
def VW(x:NtA):List AV × Heap:=([.agg (Ff 0 x.P),.agg (AP x.d),AG x.l,.bool x.was],HS x.P)
def KG(P:Play):AV × Heap:=(.agg (Ff 5 P),oM P)
theorem abZ(x:NtA)(h:VV x):Aa PG CA (VW x).1 (VW x).2 (KG (KB x)).1 (KG (KB x)).2/\(VW x).2.length<=(KG (KB x)).2.length:=by
 obtain⟨P0,d,l,was⟩:=x
 obtain⟨h1,h2,h3,h4,h5⟩:=h
 dsimp only at h1 h2 h3 h4 h5
 obtain⟨N,hN⟩:∃ N,N=200000:=⟨_,rfl⟩
 have QZ:∀ k i m P,i+k=l.length->k<m->Xv P (610000+i)->xI N m {fr:=bL l (i:Nat),hp:=Fj P (M8 d)}=some (KG (Ss ((l.drop i).foldl KA P) d)):=by
  intro k
  induction k with
  | zero=>
   intro i m P hi hm hP
   obtain⟨m,rfl⟩:∃ k,m=k+1:=⟨m - 1,by omega⟩
   rw[adM,decide_eq_false (by omega),cond_false,List.drop_eq_nil_of_le (by omega)];rfl
  | succ k ih=>
   intro i m P hi hm hP
   obtain⟨m,rfl⟩:∃ k,m=k+1:=⟨m - 1,by omega⟩
   have hil:i<l.length:=by omega
   obtain⟨p1,p2,p3,p4,p5⟩:=hP
   have hw:IntKind.i64.wrap ((i:Int)+1)=((i+1:Nat):Int):=Bz (by omega)
   rw[adM,decide_eq_true (show((i:Nat):Int)<(l.length:Int) by omega),cond_true,Bq hil,Bq hil,Bq hil,Int.toNat_natCast,hw,Rs (by omega) (by omega),Rs (by omega) (by omega),drop_cons (z:=(default:Msg)) hil,List.foldl_cons,afO,afP]
   unfold KA
   cases decide ((l.getD i default).kind=6)with
   | true=>exact ih (i+1) m _ (by omega) (by omega) ⟨by show P.way.length<=_;omega,by show P.ops.length<=_;omega,by show P.log.length<=_;omega,by show P.busy.length<=_;omega,by show(P.said++[_]).length<=_;rw[List.length_append,List.length_singleton];omega⟩
   | false=>exact ih (i+1) m _ (by omega) (by omega) ⟨by show(P.way++[_]).length<=_;rw[List.length_append,List.length_singleton];omega,by show P.ops.length<=_;omega,by show P.log.length<=_;omega,by show P.busy.length<=_;omega,by show P.said.length<=_;omega⟩
 have run1:∀ k i m P,i+k=d.rep.tail.log.length->k<m->Xv P (600000+i)->jM N m {fr:=VU l was (H0 P0.log) (i:Nat),hp:=Fj P (M8 d)}=some (KG (Ss (l.foldl KA ((d.rep.tail.log.drop i).foldl (Kz (H0 P0.log) was) P)) d)):=by
  intro k
  induction k with
  | zero=>
   intro i m P hi hm hP
   obtain⟨m,rfl⟩:∃ k,m=k+1:=⟨m - 1,by omega⟩
   rw[adL,decide_eq_false (by omega),cond_false,List.drop_eq_nil_of_le (by omega)]
   obtain⟨p1,p2,p3,p4,p5⟩:=hP
   have:=QZ l.length 0 N P (by omega) (by omega) ⟨by omega,by omega,by omega,by omega,by omega⟩
   rw[List.drop_zero]at this
   exact this
  | succ k ih=>
   intro i m P hi hm hP
   obtain⟨m,rfl⟩:∃ k,m=k+1:=⟨m - 1,by omega⟩
   have hil:i<d.rep.tail.log.length:=by omega
   obtain⟨p1,p2,p3,p4,p5⟩:=hP
   have hw:IntKind.i64.wrap ((i:Int)+1)=((i+1:Nat):Int):=Bz (by omega)
   have hv:=h5 _ (getD_mem (z:=(default:Entry)) hil)
   rw[adL,decide_eq_true (show((i:Nat):Int)<(d.rep.tail.log.length:Int) by omega),cond_true,Bq hil,Bq hil,Int.toNat_natCast,hw,Nr h4 hv,Rs (by omega) (by omega),Rs (by omega) (by omega),drop_cons (z:=(default:Entry)) hil,List.foldl_cons,afN]
   unfold Kz at ih ⊢
   dsimp only
   cases AH (H0 P0.log) (d.rep.tail.log.getD i default).ver with
   | true=>exact ih (i+1) m _ (by omega) (by omega) ⟨by show P.way.length<=_;omega,by show P.ops.length<=_;omega,by show(P.log++[_]).length<=_;rw[List.length_append,List.length_singleton];omega,by show(P.busy++[_]).length<=_;rw[List.length_append,List.length_singleton];omega,by show P.said.length<=_;omega⟩
   | false=>exact ih (i+1) m _ (by omega) (by omega) ⟨by omega,by omega,by omega,by omega,by omega⟩
 have r1:=run1 d.rep.tail.log.length 0 N P0 (by omega) (by omega) h1
 rw[List.drop_zero]at r1
 refine bJ (Fo (ak DW AL)) Dm mixed (n:=N) ((akY N P0 d l was).trans ?_)
 by_cases h0:P0.log.length=0
 ·rw[decide_eq_false (by omega),cond_false]
  have e:H0 P0.log=⟨0,0⟩:=if_pos h0
  rw[e]at r1
  rw[show KB ⟨P0,d,l,was⟩=Ss (l.foldl KA (d.rep.tail.log.foldl (Kz ⟨0,0⟩ was) P0)) d by unfold KB;dsimp only;rw[e]]
  exact r1
 ·obtain⟨p1,p2,p3,p4,p5⟩:=h1
  have hw:IntKind.i64.wrap ((P0.log.length:Int) - 1)=((P0.log.length - 1:Nat):Int):=by rw[IntKind.wrap_i64];omega
  have e:H0 P0.log=(P0.log.getD (P0.log.length - 1) default).ver:=if_neg h0
  rw[decide_eq_true (by omega),cond_true,hw,Bq (by omega),Int.toNat_natCast,AB (by omega),cond_true,<- e]
  exact r1
def OO(p:DCM):Wrk:=if p.2.2.kind=18 then nU p else DZ p
def jN(p:DCM):Prop:=(p.2.2.kind=18->abz p)/\(p.2.2.kind ≠ 18->E4 p)
theorem afQ(p:DCM)(h:jN p):Aa PG Bi (Ku p) [] (P9 (OO p)) []:=by
 unfold OO
 by_cases hk:p.2.2.kind=18
 ·rw[if_pos hk];exact wJ p (h.1 hk)
 ·rw[if_neg hk];exact Xo p (h.2 hk)
def aiF:Known:=.spec Bi Rm jN Ku (fun p=>P9 (OO p))
theorem afR:aiF.Ok PG:=Known.spec_ok afQ
def xJ(x:NtA):Known:=.specG CA (fun _ _=>()) (fun _=>VV x) (fun _=>VW x) (fun _=>KG (KB x))
theorem xK(x:NtA):(xJ x).Ok PG:=Known.specG_ok fun _ h=>abZ x h
def Xw(P:Play)(m:Msg):NtA:=⟨P,(OO (P.d,K1,m)).d,(OO (P.d,K1,m)).out,P.d.busy⟩
def eGv(l:List Known):Env:=BU [] [(DR,0),(Ha,0),(Bi,0),(CA,5)] [] l
def aiG(P:Play)(m:Msg):List Known:=[jL,aiF,xJ (Xw P m)]
def ab0(P:Play)(x:Msg):AV × Heap:=(.agg (Rr P (.sn 31 5 (P.way.length+1)) (.sn 31 6 P.ops.length) (.sn 11 7 P.log.length) (.sn 1 8 P.busy.length) (.sn 31 9 P.said.length)),
 [.dead,.dead,.dead,.dead,.dead,Rt 31 Ac default P.way x,Bc 31 Ac default P.ops,Bc 11 Ai default P.log,Bc 1 Hz default P.busy,Bc 31 Ac default P.said])
theorem afS(P:Play)(x:Msg):ab0 P x=KG (Lm P x):=by
 unfold ab0 KG Lm oM HS Ff
 simp only[ON,List.length_append,List.length_singleton];rfl
def oN(P:Play)(s:Shard):Play:={P with st:=s}
theorem akZ(P:Play)(m:Msg):X4 (eGv (aiG P m)) 9 E9 [.agg (Ff 0 P),.agg (Ac m)] (HS P) =
 bif decide (m.dst=0)then gC jJ Oa SW [Hj P.st,.agg (Ac m)] fun y=>bK P.way.length 392 (some (ab0 (oN P (LZ y).1) (LZ y).2))
 else gC Rm jN Ku [.agg (AP P.d),.agg (CG K1),.agg (Ac m)] fun y=>BF (fun _ _=>()) (fun _=>VV (Xw P m)) (fun _=>VW (Xw P m)) [.agg (Ff 0 P),.agg (AP (OO y).d),AG (OO y).out,.bool P.d.busy] (HS P) fun _=>
  some (KG (KB (Xw P m))):=by kernel_rfl
def KW(P:Play)(m:Msg):Play:=bif decide (m.dst=0)then Lm (oN P (LZ (P.st,m)).1) (LZ (P.st,m)).2 else KB (Xw P m)
structure Ru(P:Play)(m:Msg):Prop where
 sz:P.way.length<=100000
 st:m.dst=0->Oa (P.st,m)
 hd:m.dst ≠ 0->jN (P.d,K1,m)/\VV (Xw P m)
def VX(P:Play)(m:Msg):List AV × Heap:=([.agg (Ff 0 P),.agg (Ac m)],HS P)
theorem ab1(P:Play)(m:Msg)(h:Ru P m):Aa PG E9 (VX P m).1 (VX P m).2 (KG (KW P m)).1 (KG (KW P m)).2/\(VX P m).2.length<=(KG (KW P m)).2.length:=by
 refine bJ (Fo (l:=aiG P m) (ak oL (ak afR (ak (xK _) AL)))) Dm mixed (n:=9) ((akZ P m).trans ?_)
 unfold KW
 by_cases hd:m.dst=0
 ·have q:∀ {K:SM1->Option (AV × Heap)},gC jJ Oa SW [Hj P.st,.agg (Ac m)] K=K (P.st,m):=fun {K}=>Aw (P.st,m) (xE (P.st,m)) (h.st hd) (.refl _)
  rw[decide_eq_true hd,cond_true,cond_true,q,Rs (by have:=h.sz;omega) (by omega),afS]
 ·obtain⟨h1,h2⟩:=h.hd hd
  have q1:∀ {K:DCM->Option (AV × Heap)},gC Rm jN Ku [.agg (AP P.d),.agg (CG K1),.agg (Ac m)] K=K (P.d,K1,m):=fun {K}=>Aw (P.d,K1,m) (afr (P.d,K1,m)) h1 (.refl _)
  have q2:∀ {K:Unit->Option (AV × Heap)},BF (fun _ _=>()) (fun _=>VV (Xw P m)) (fun _=>VW (Xw P m)) [.agg (Ff 0 P),.agg (AP (OO (P.d,K1,m)).d),AG (OO (P.d,K1,m)).out,.bool P.d.busy] (HS P) K=K ():=fun {K}=>BT () rfl h2 (.refl _) (.refl _)
  rw[decide_eq_false hd,cond_false,cond_false,q1,q2]
def xL(P:Play)(m:Msg):Known:=.specG E9 (fun _ _=>()) (fun _=>Ru P m) (fun _=>VX P m) (fun _=>KG (KW P m))
theorem xM(P:Play)(m:Msg):(xL P m).Ok PG:=Known.specG_ok fun _ h=>ab1 P m h
end Go.Hd
end
noncomputable section
namespace Go.AM
theorem Az.cond{P:Program}{nt base:Nat}{x y:Code}{c:Operand}{b:Bool}{s s1:St}{e:AX}(hc:G3 (A3 s.fr) c=.bool b)(h:Az (fun Q=>(bif b then x else y).wp P Q) nt base s e s1):Az (fun Q=>(Code.cond c x y).wp P Q) nt base s e s1:=by
 have hev:∀ {w I φ a},Cc w I φ s a->a.eval c=.bool b:=by
  intro w I φ a hs
  have:=hs.fr.eval c
  rw[hc]at this
  generalize a.eval c=u at this
  cases this;rfl
 intro hb
 obtain⟨b1,g1⟩:=h hb
 refine⟨b1,fun w I φ a hs ha Q hQ=>?_⟩
 have:=g1 w I φ a hs ha Q hQ
 cases b with
 | true=>exact wp_cond (hev hs) this
 | false=>exact wp_cond (hev hs) this
theorem Az.skip{P:Program}{nt base:Nat}(s:St):Az (fun Q=>Code.skip.wp P Q) nt base s .normal s:=
 fun hb=>⟨hb,fun w I φ a hs ha Q hQ=>wp_skip (hQ a w φ I ha rfl hs (Step.refl _ _ _ _ _))⟩
end Go.AM
end
noncomputable section
open Go Go.AM Go.Md
namespace Go.Hd
open Go.Wk
set_option maxRecDepth 100000
set_option maxHeartbeats 400000
structure HStp where
 k:Int
 s:Int
 n:Int
 o:Md.Op
instance:Inhabited HStp:=⟨⟨0,0,0,default⟩⟩
def KX(x:HStp):List AV:=[.int .u8 x.k,.int .u8 x.s,.int .u8 x.n,.int .i64 x.o.kind,.str x.o.key,.str x.o.val,.str x.o.old,.bool x.o.hasOld]
def bM(l:List Known):Env:=BU [] [(BJ,0),(E9,5),(Hb,0)] [] l
def EU(l:List Known)(x:Code)(K:AX->St->Option St)(s:St):Option St:=PV (bM l) (D2 (bM l) 9) DP 154 9 5 0 x K s
def Rv:Code:=CM (bM []) DP
def cQ0:Code:=sub Rv [.L]
def cQ1:Code:=sub Rv [.R,.L]
def xN:Code:=sub Rv [.R,.R,.L]
def Xx:Code:=sub Rv [.R,.R,.R,.L,.L]
def cA:Code:=sub Rv [.R,.R,.R,.L,.R,.L]
def cR:Code:=sub Rv [.R,.R,.R,.R]
theorem xO:Rv=.seq cQ0 (.seq cQ1 (.seq xN (.seq (.seq Xx (.cond (.tmp 20) cA .skip)) cR))):=by kernel_rfl
def jO(s:HStp):Heap:=[.arr true 8 [KX s],.arr true 33 [OM]]
def S0D(P:Play)(s:HStp):St:={fr:=Ce 0 [.agg (Ff 5 P),.agg (KX s)],hp:=oM P}
def S1D(P:Play)(s:HStp):St:={fr:=[(2,.ptr 5 0 0),(3,.ptr 11 0 0),(4,.ptr 12 0 0)],hp:=Fj P (jO s)}
def kD(s:HStp):Int:=s.k.tmod 9
def S2D(P:Play)(s:HStp):St:={fr:=[(2,.ptr 5 0 0),(3,.ptr 11 0 0),(4,.ptr 12 0 0),(5,.int .u8 (kD s))],hp:=Fj P (jO s)}
def KH(P:Play)(s:HStp):St:={fr:=[(2,.ptr 5 0 0),(3,.ptr 11 0 0),(4,.ptr 12 0 0),(5,.int .u8 (kD s)),(6,.int .i64 P.way.length)],hp:=Fj P (jO s)}
def S4D(P:Play)(s:HStp)(b:Bool):St:={fr:=[(2,.ptr 5 0 0),(3,.ptr 11 0 0),(4,.ptr 12 0 0),(5,.int .u8 (kD s)),(6,.int .i64 P.way.length),(20,.bool b)],hp:=Fj P (jO s)}
theorem al8(P:Play)(s:HStp):EU [] cQ0 (Cm .normal (norm 5 [2,3,4])) (S0D P s)=some (S1D P s):=by kernel_rfl
theorem al9(P:Play)(s:HStp):EU [] cQ1 (Cm .normal (norm 5 [2,3,4,5])) (S1D P s)=some (S2D P s):=by kernel_rfl
theorem ama(P:Play)(s:HStp):EU [] xN (Cm .normal (norm 5 [2,3,4,5,6])) (S2D P s)=some (KH P s):=by kernel_rfl
theorem amb(P:Play)(s:HStp):EU [] Xx (Cm .normal (norm 5 [2,3,4,5,6,20])) (KH P s)=some (S4D P s (decide (kD s<=3))):=by kernel_rfl
def VY:Code:=sub cR [.L]
def VZ:Code:=sub cR [.R,.L]
def jP:Code:=sub cR [.R,.R,.L]
def bN:Code:=sub cR [.R,.R,.R,.L]
def Ob:Code:=sub cR [.R,.R,.R,.R,.L]
def Rw:Code:=sub cR [.R,.R,.R,.R,.R,.L]
def Oc:Code:=sub cR [.R,.R,.R,.R,.R,.R,.L]
def UX:Code:=sub cR [.R,.R,.R,.R,.R,.R,.R]
theorem ak0:cR=.seq VY (.seq VZ (.seq jP (.seq bN (.seq Ob (.seq Rw (.seq Oc UX)))))):=by kernel_rfl
def TD(P:Play):St:={fr:=[(4,.ptr 5 0 0)],hp:=Fj P []}
def hpV(P:Play)(v:AV)(x:BS)(more:Heap):Heap:=.dead :: .dead :: .dead :: .dead :: .dead :: .arr true 33 [Rr P v (.sn 31 7 P.ops.length) (.sn 11 8 P.log.length) (.sn 1 9 P.busy.length) (.sn 31 10 P.said.length)]::x::Bc 31 Ac default P.ops::Bc 11 Ai default P.log::Bc 1 Hz default P.busy::Bc 31 Ac default P.said::more
def TV(P:Play)(v:AV)(x:BS):St:={fr:=[(4,.ptr 5 0 0)],hp:=hpV P v x []}
def oO(l k:List Msg):BS:=.seq true 31 (l.length+k.length) (Be l.length (fun i=>Ac (l.getD i default)) (View.fn k.length fun i=>Ac (k.getD i default)))
theorem aiH(P:Play)(s:HStp):EU [Uw] VY (Cm .ret (norm 5 [4])) (KH P s)=bif decide (kD s=8)then gC (fun a=>IP (AA a 0)) Tj (fun d=>[.agg (AP d)]) [.agg (AP P.d)] fun y=>
  bif P.way.length.ble P.way.length then bif((P.way.length+(Ex y).length)*392).ble 140737488355328&&(P.way.length+(Ex y).length).ble 140737488355328 then some (TV P (.sn 31 6 (P.way.length+(Ex y).length)) (oO P.way (Ex y)))else none else none
 else none:=by kernel_rfl
def gTk(d:Md.Desk)(n:Nat):Option St:=gC (fun a=>IP (AA a 0)) Tj (fun d=>[.agg (AP d)]) [.agg (AP d)] fun y=>bif n.ble n then bif((n+(Ex y).length)*392).ble 140737488355328&&(n+(Ex y).length).ble 140737488355328 then none else none else none
theorem aiI(P:Play)(s:HStp):EU [Uw] VY (Cm .normal (norm 5 [2,3,4,5,6])) (KH P s)=bif decide (kD s=8)then gTk P.d P.way.length else some (KH P s):=by kernel_rfl
theorem aiJ(P:Play)(s:HStp):EU [] VZ (Cm .ret (norm 5 [4])) (KH P s)=bif decide ((P.way.length:Int)=0)then some (TD P)else none:=by kernel_rfl
theorem aiK(P:Play)(s:HStp):EU [] VZ (Cm .normal (norm 5 [2,3,4,5,6])) (KH P s)=bif decide ((P.way.length:Int)=0)then none else some (KH P s):=by kernel_rfl
def S5D(P:Play)(s:HStp)(j:Int):St:={fr:=[(2,.ptr 5 0 0),(4,.ptr 11 0 0),(5,.int .u8 (kD s)),(11,.int .i64 j)],hp:=Fj P [.arr true 33 [OM]]}
theorem ak2(P:Play)(s:HStp):EU [] jP (Cm .normal (norm 5 [2,4,5,11])) (KH P s)=bif decide ((P.way.length:Int)=0)then none else some (S5D P s ((IntKind.i64.wrap s.n).tmod P.way.length)):=by kernel_rfl
def jQ(m:Msg):Heap:=[.arr true 33 [OM],.arr true 31 [Ac m]]
def Qd(P:Play)(s:HStp)(j:Int)(m:Msg):St:={fr:=[(2,.ptr 5 0 0),(4,.ptr 11 0 0),(5,.int .u8 (kD s)),(11,.int .i64 j),(12,.ptr 12 0 0)],hp:=Fj P (jQ m)}
theorem ak4(P:Play)(s:HStp)(j:Int):EU [] bN (Cm .normal (norm 5 [2,4,5,11,12])) (S5D P s j)=rg j P.way.length (bif j.toNat.blt P.way.length then some (Qd P s j (P.way.getD j.toNat default))else none):=by kernel_rfl
def aiL(l:List Msg)(m:Msg):BS:=.seq true 31 (l.length+1) fun i=>bif i.blt l.length then Ac (l.getD i default)else bif i.blt (l.length+1)then [Ac m].getD (i - l.length) []else Ac (l.getD l.length default)
def gDb(n:Nat)(x y:Option St):Option St:=bif n.ble n then bif((0+n)*392).ble 140737488355328&&(0+n).ble 140737488355328 then bif n.beq 0 then x else bif n.beq 0||n.ble n then bif((n+1)*392).ble 140737488355328&&(n+1).ble 140737488355328 then y else none else none else none else none
theorem aiM(P:Play)(s:HStp)(j:Int)(m:Msg):EU [] Ob (Cm .ret (norm 5 [4])) (Qd P s j m)=bif decide (kD s=7)then gDb P.way.length (some (TV P (.sl 31 6 0 1 1) (.arr true 31 [Ac m]))) (some (TV P (.sl 31 6 0 (P.way.length+1) 0) (aiL P.way m)))else none:=by kernel_rfl
theorem aiN(P:Play)(s:HStp)(j:Int)(m:Msg):EU [] Ob (Cm .normal (norm 5 [2,4,5,11,12])) (Qd P s j m)=bif decide (kD s=7)then gDb P.way.length none none else some (Qd P s j m):=by kernel_rfl
def xP(P:Play)(v:AV)(x:BS)(s:HStp)(m:Msg):St:={fr:=[(2,.ptr 5 0 0),(4,.ptr 11 0 0),(5,.int .u8 (kD s)),(12,.ptr 12 0 0)],hp:=hpV P v x (jQ m)}
def S7D(P:Play)(s:HStp)(m:Msg):St:={fr:=[(2,.ptr 5 0 0),(4,.ptr 11 0 0),(5,.int .u8 (kD s)),(12,.ptr 12 0 0)],hp:=Fj P (jQ m)}
def bO(n:Nat)(K:Option St):Option St:=bif(n*392).ble 140737488355328&&n.ble 140737488355328 then K else none
def rsF(l:List Msg)(K:Nat):Nat->List AV:=fun i=>Ac (l.getD (i+K) default)
def aiO(l:List Msg)(j K:Nat):Nat->List AV:=fun i=>bif i.blt j then Ac (l.getD i default)else bif i.blt (j+(l.length - K))then Ac (l.getD (i - j+K) default)else Ac (l.getD j default)
def oP(n K:Nat)(k:Int)(X:Option St):Option St:=bif decide (0<=k)&&decide (k<=(n:Int))then bif Nat.blt 0 n then X else none else none
theorem ak5(P:Play)(s:HStp)(j:Int)(m:Msg):EU [] Rw (Cm .normal (norm 5 [2,4,5,12])) (Qd P s j m) =
 bif decide (0<=j)&&decide (j<=(P.way.length:Int))then bif j.toNat.ble P.way.length then bO (0+j.toNat) (bif j.toNat.beq 0 then
  oP P.way.length 0 (IntKind.i64.wrap (j+1)) (bif(P.way.length - (IntKind.i64.wrap (j+1)).toNat).beq 0||(P.way.length - (IntKind.i64.wrap (j+1)).toNat+(IntKind.i64.wrap (j+1)).toNat).ble P.way.length then bO (0+(P.way.length - (IntKind.i64.wrap (j+1)).toNat))
   (bif(P.way.length - (IntKind.i64.wrap (j+1)).toNat).beq 0 then some (xP P (.sl 31 6 0 0 0) (.arr true 31 []) s m)else some (xP P (.sl 31 6 0 (P.way.length - (IntKind.i64.wrap (j+1)).toNat) 0) (.seq true 31 (P.way.length - (IntKind.i64.wrap (j+1)).toNat) (rsF P.way (IntKind.i64.wrap (j+1)).toNat)) s m))else none)
  else oP P.way.length 0 (IntKind.i64.wrap (j+1)) (bif j.toNat.beq 0||j.toNat.ble j.toNat then bif(P.way.length - (IntKind.i64.wrap (j+1)).toNat).beq 0||(P.way.length - (IntKind.i64.wrap (j+1)).toNat+(IntKind.i64.wrap (j+1)).toNat).ble P.way.length then bO (j.toNat+(P.way.length - (IntKind.i64.wrap (j+1)).toNat))
   (bif(P.way.length - (IntKind.i64.wrap (j+1)).toNat).beq 0 then some (xP P (.sl 31 6 0 j.toNat 0) (.seq true 31 j.toNat fun i=>Ac (P.way.getD i default)) s m)else some (xP P (.sl 31 6 0 (j.toNat+(P.way.length - (IntKind.i64.wrap (j+1)).toNat)) 0) (.seq true 31 (j.toNat+(P.way.length - (IntKind.i64.wrap (j+1)).toNat)) (aiO P.way j.toNat (IntKind.i64.wrap (j+1)).toNat)) s m))else none else none))else none else none:=by kernel_rfl
theorem aiP(P:Play)(s:HStp)(m:Msg):EU [] Oc (Cm .ret (norm 5 [4])) (S7D P s m)=bif decide (kD s=6)then some (TD P)else none:=by kernel_rfl
theorem aiQ(P:Play)(s:HStp)(m:Msg):EU [] Oc (Cm .normal (norm 5 [2,4,12])) (S7D P s m)=bif decide (kD s=6)then none else some {fr:=[(2,.ptr 5 0 0),(4,.ptr 11 0 0),(12,.ptr 12 0 0)],hp:=Fj P (jQ m)}:=by kernel_rfl
theorem ak6(P:Play)(m:Msg):EU [xL P m] UX (Cm .ret (norm 5 [4])) {fr:=[(2,.ptr 5 0 0),(4,.ptr 11 0 0),(12,.ptr 12 0 0)],hp:=Fj P (jQ m)} =
 BF (fun _ _=>()) (fun _=>Ru P m) (fun _=>VX P m) [.agg (Ff 0 P),.agg (Ac m)] (HS P) fun _=>some (TD (KW P m)):=by kernel_rfl
def cA4:Code:=sub cA [.L]
def bP:Code:=sub cA [.R,.L]
def Xy:Code:=sub cA [.R,.R,.L]
def bQ:Code:=sub cA [.R,.R,.R,.L]
def Rx:Code:=sub cA [.R,.R,.R,.R,.L]
def Od:Code:=sub cA [.R,.R,.R,.R,.R,.L,.L]
def NM:Code:=sub cA [.R,.R,.R,.R,.R,.L,.R,.L,.lp 0]
def xQ:Code:=sub NM [.L]
def xR:Code:=sub NM [.R,.L,.L]
def xS:Code:=sub NM [.R,.R]
def PQ:Code:=sub cA [.R,.R,.R,.R,.R,.R]
theorem ak7:cA=.seq cA4 (.seq bP (.seq Xy (.seq bQ (.seq Rx (.seq (.seq Od (.block 0 (.loop NM))) PQ))))):=by kernel_rfl
theorem bR:NM=.seq xQ (.seq (.block 1 xR) xS):=by kernel_rfl
def PR(P:Play)(w:Nat):Int:=match w with
 | 1=>P.n1
 | 2=>P.n2
 | _=>P.n3
def Ry(P:Play)(w:Nat):Play:=match w with
 | 1=>{P with n1:=IntKind.i64.wrap (P.n1+1)}
 | 2=>{P with n2:=IntKind.i64.wrap (P.n2+1)}
 | _=>{P with n3:=IntKind.i64.wrap (P.n3+1)}
def Lw(P:Play)(s:HStp)(w:Int):St:={fr:=[(2,.ptr 5 0 0),(3,.ptr 11 0 0),(4,.ptr 12 0 0),(7,.int .i64 w)],hp:=Fj P (jO s)}
def Qe(P:Play)(s:HStp)(w num:Int):St:={fr:=[(2,.ptr 5 0 0),(3,.ptr 11 0 0),(4,.ptr 12 0 0),(7,.int .i64 w),(8,.int .i64 num)],hp:=Fj P (jO s)}
theorem amc(P:Play)(s:HStp)(b:Bool):EU [] cA4 (Cm .normal (norm 5 [2,3,4,7])) (S4D P s b)=some (Lw P s (IntKind.i64.wrap (1+IntKind.i64.wrap (s.s.tmod 3)))):=by kernel_rfl
theorem ak8(P:Play)(s:HStp):EU [] bP (Cm .normal (norm 5 [2,3,4,7])) (Lw P s 1)=bif decide (s.n=0)then some (Lw (Ry P 1) s 1)else some (Lw P s 1):=by kernel_rfl
theorem ak9(P:Play)(s:HStp):EU [] bP (Cm .normal (norm 5 [2,3,4,7])) (Lw P s 2)=bif decide (s.n=0)then some (Lw (Ry P 2) s 2)else some (Lw P s 2):=by kernel_rfl
theorem ala(P:Play)(s:HStp):EU [] bP (Cm .normal (norm 5 [2,3,4,7])) (Lw P s 3)=bif decide (s.n=0)then some (Lw (Ry P 3) s 3)else some (Lw P s 3):=by kernel_rfl
theorem alb(P:Play)(s:HStp):EU [] Xy (Cm .normal (norm 5 [2,3,4,7,8])) (Lw P s 1)=some (Qe P s 1 P.n1):=by kernel_rfl
theorem alc(P:Play)(s:HStp):EU [] Xy (Cm .normal (norm 5 [2,3,4,7,8])) (Lw P s 2)=some (Qe P s 2 P.n2):=by kernel_rfl
theorem ald(P:Play)(s:HStp):EU [] Xy (Cm .normal (norm 5 [2,3,4,7,8])) (Lw P s 3)=some (Qe P s 3 P.n3):=by kernel_rfl
theorem amd(P:Play)(s:HStp)(w num:Int):EU [] bQ (Cm .normal (norm 5 [2,3,4,7,8])) (Qe P s w num)=bif decide (0<s.n)then bif decide (IntKind.i64.wrap s.n<num)then some (Qe P s w (IntKind.i64.wrap s.n))else some (Qe P s w num)else some (Qe P s w num):=by kernel_rfl
def DC(w num:Int)(o:Md.Op):Msg:={(default:Msg)with kind:=5,src:=IntKind.i64.wrap (100+w),dst:=2,sess:=w,num:=num,op:=o}
def jR(P:Play)(w num:Int)(m:List AV):St:={fr:=[(2,.ptr 5 0 0),(4,.ptr 11 0 0),(7,.int .i64 w),(8,.int .i64 num),(9,.ptr 12 0 0)],hp:=Fj P [.arr true 33 [OM],.arr true 31 [m]]}
theorem ale(P:Play)(s:HStp)(w num:Int):EU [] Rx (Cm .normal (norm 5 [2,4,7,8,9])) (Qe P s w num)=some (jR P w num (LR (DC w num s.o))):=by kernel_rfl
def Ia(P:Play)(w num:Int)(m:Msg)(i:Int):St:={fr:=[(2,.ptr 5 0 0),(4,.ptr 11 0 0),(7,.int .i64 w),(8,.int .i64 num),(9,.ptr 12 0 0),(10,.int .i64 i)],hp:=Fj P (jQ m)}
theorem alf(P:Play)(w num:Int)(m:Msg):EU [] Od (Cm .normal (norm 5 [2,4,7,8,9,10])) (jR P w num (Ac m))=some (Ia P w num m 0):=by kernel_rfl
theorem ame(P:Play)(w num:Int)(m:Msg)(i:Int):EU [] xQ (Cm .normal (norm 5 [2,4,7,8,9,10])) (Ia P w num m i)=bif decide (i<(P.ops.length:Int))then some (Ia P w num m i)else none:=by kernel_rfl
theorem amf(P:Play)(w num:Int)(m:Msg)(i:Int):EU [] xQ (Cm (.exit 0) (MZ [2,4,7,8,9,10])) (Ia P w num m i)=bif decide (i<(P.ops.length:Int))then none else some (Ia P w num m i):=by kernel_rfl
def xT(i:Int)(n:Nat)(K:Option St):Option St:=rg i n (bif i.toNat.blt n then K else none)
theorem amg(P:Play)(w num:Int)(m:Msg)(i:Int):EU [] xR (Cm .normal (norm 5 [2,4,7,8,9,10])) (Ia P w num m i) =
 xT i P.ops.length (bif decide ((P.ops.getD i.toNat default).sess=w)then xT i P.ops.length (bif decide ((P.ops.getD i.toNat default).num=num)then xT i P.ops.length (some (Ia P w num (P.ops.getD i.toNat default) i))else some (Ia P w num m i))else some (Ia P w num m i)):=by kernel_rfl
theorem amh(P:Play)(w num:Int)(m:Msg)(i:Int):EU [] xS (Cm .normal (norm 5 [2,4,7,8,9,10])) (Ia P w num m i)=some (Ia P w num m (IntKind.i64.wrap (i+1))):=by kernel_rfl
def ab2(P:Play)(x:Msg):Heap:=xH P (P.way.length+1) (P.ops.length+1) P.log.length P.busy.length P.said.length (Rt 31 Ac default P.way x) (Rt 31 Ac default P.ops x) (Bc 11 Ai default P.log) (Bc 1 Hz default P.busy) (Bc 31 Ac default P.said) []
def UY(P:Play)(x:Msg):Play:={P with way:=P.way++[x],ops:=P.ops++[x]}
theorem afT(P:Play)(x:Msg):ab2 P x=Fj (UY P x) []:=by
 unfold ab2 Fj UY
 simp only[ON,List.length_append,List.length_singleton];rfl
def oQ(n:Nat)(K:Option St):Option St:=bif n.ble n then bif((n+1)*392).ble 140737488355328&&(n+1).ble 140737488355328 then K else none else none
theorem alg(P:Play)(w num:Int)(m:Msg)(i:Int):EU [] PQ (Cm .ret (norm 5 [4])) (Ia P w num m i)=oQ P.ops.length (oQ P.way.length (some {fr:=[(4,.ptr 5 0 0)],hp:=ab2 P m})):=by kernel_rfl
abbrev GB(c:Code)(s:St)(e:AX)(s':St):Prop:=Az (fun Q=>c.wp PG Q) 154 5 s e s'
theorem bS{l:List Known}(h:∀ k ∈ l,k.Ok PG):C2 PG (bM l):=Fo h
theorem ab3{l:List Known}(h:∀ k ∈ l,k.Ok PG):Ew PG (D2 (R:=St) (bM l) 9):=K5 (bS h) Dm mixed 9
theorem JN{l:List Known}(h:∀ k ∈ l,k.Ok PG){c:Code}{L:List Nat}{s s':St}(hok:Ak c=true)(e:EU l c (Cm .normal (norm 5 L)) s=some s'):GB c s .normal s':=Gl (bS h) (ab3 h) mixed hok e
theorem jS{l:List Known}(h:∀ k ∈ l,k.Ok PG){c:Code}{L:List Nat}{s s':St}(hok:Ak c=true)(e:EU l c (Cm .ret (norm 5 L)) s=some s'):GB c s .ret s':=bI (bS h) (ab3 h) mixed hok e
theorem ldX{l:List Known}(h:∀ k ∈ l,k.Ok PG){c:Code}{L:List Nat}{s s':St}(hok:Ak c=true)(e:EU l c (Cm (.exit 0) (MZ L)) s=some s'):GB c s (.exit 0) s':=E3 (e0:=.exit 0) (bS h) (ab3 h) mixed hok e
theorem okQ:Ak Rv=true:=by kernel_rfl
theorem Rz{a b:List AV}(h:DB a b):∀ l:List AV,DB (l++a) (l++b)
 | []=>h
 | x::l=>.cons (.refl _) (Rz h l)
def setW(P:Play)(l:List Msg):Play:={P with way:=l}
theorem V0{P:Play}{v:AV}{x:BS}{more:Heap}{l:List Msg}(hv:D4 v (.sn 31 6 l.length))(hx:Gx x (Bc 31 Ac default l)):HSub (hpV P v x more) (Fj (setW P l) more):=by
 refine .cons (.refl _) (.cons (.refl _) (.cons (.refl _) (.cons (.refl _) (.cons (.refl _) (.cons (.arr _ _ _ _ rfl fun i cs cs' e e'=>?_) (.cons hx (.refl _)))))))
 cases i with
 | zero=>
  simp only[List.getElem?_cons_zero,Option.some.injEq]at e e'
  subst e e'
  exact Rz (.cons (.refl _) (.cons hv (.refl _))) (AP P.d)
 | succ i=>simp at e
theorem Su{n:Nat}{F:Nat->List AV}{l:List Msg}(hn:n=l.length)(h:∀ i,i<n->F i=Ac (l.getD i default)):Gx (.seq true 31 n F) (Bc 31 Ac default l):=by
 subst hn
 exact .seq true 31 _ _ _ _ (Nat.le_refl _) fun i hi=>by rw[h i hi];exact .refl _
def jD(P:Play)(s:HStp):Nat:=s.n.toNat % P.way.length
def X5(P:Play)(s:HStp):Play:=
 if kD s=8 then setW P (P.way++Ex P.d)else if P.way.length=0 then P else if kD s=7 then Lm P (P.way.getD (jD P s) default)else
 if kD s=6 then setW P (P.way.eraseIdx (jD P s))else KW (setW P (P.way.eraseIdx (jD P s))) (P.way.getD (jD P s) default)
structure adN(P:Play)(s:HStp):Prop where
 n:0<=s.n/\s.n<=255
 sz:P.way.length<=100000
 tick:kD s=8->Tj P.d/\(Ex P.d).length<=100000
 give:kD s ≠ 8->kD s ≠ 7->kD s ≠ 6->P.way.length ≠ 0->Ru (setW P (P.way.eraseIdx (jD P s))) (P.way.getD (jD P s) default)
theorem ab4(l k:List Msg):oO l k=Bc 31 Ac default (l++k):=aeB 31 Ac default l k
theorem LS{l:List Msg}{j i:Nat}:(l.eraseIdx j).getD i default=if i<j then l.getD i default else l.getD (i+1) default:=by
 simp only[List.getD,List.getElem?_eraseIdx]
 split <;> rfl
theorem aiR{P:Play}{s:HStp}(h:adN P s):GB cR (KH P s) .ret (TD (X5 P s)):=by
 have ok:Ak cR=true:=by kernel_rfl
 rw[ak0]at ok ⊢
 obtain⟨k19,ok⟩:=Ad (show(Ak VY&&Ak (.seq VZ (.seq jP (.seq bN (.seq Ob (.seq Rw (.seq Oc UX)))))))=true from ok)
 obtain⟨k22,ok⟩:=Ad (show(Ak VZ&&Ak (.seq jP (.seq bN (.seq Ob (.seq Rw (.seq Oc UX))))))=true from ok)
 obtain⟨k24,ok⟩:=Ad (show(Ak jP&&Ak (.seq bN (.seq Ob (.seq Rw (.seq Oc UX)))))=true from ok)
 obtain⟨k25,ok⟩:=Ad (show(Ak bN&&Ak (.seq Ob (.seq Rw (.seq Oc UX))))=true from ok)
 obtain⟨k26,ok⟩:=Ad (show(Ak Ob&&Ak (.seq Rw (.seq Oc UX)))=true from ok)
 obtain⟨k29,ok⟩:=Ad (show(Ak Rw&&Ak (.seq Oc UX))=true from ok)
 obtain⟨k30,k32⟩:=Ad (show(Ak Oc&&Ak UX)=true from ok)
 have hsz:=h.sz
 have kt:∀ k ∈ [Uw],k.Ok PG:=ak tZ AL
 unfold X5
 by_cases h8:kD s=8
 ·obtain⟨t1,t2⟩:=h.tick h8
  rw[if_pos h8]
  refine Az.seq_ret ?_
  have q:∀ {K:Md.Desk->Option St},gC (fun a=>IP (AA a 0)) Tj (fun d=>[.agg (AP d)]) [.agg (AP P.d)] K=K P.d:=fun {K}=>Aw P.d (Jk P.d) t1 (.refl _)
  have L:GB VY (KH P s) .ret (TV P (.sn 31 6 (P.way.length+(Ex P.d).length)) (oO P.way (Ex P.d))):=jS kt k19 ((aiH P s).trans (by
   rw[decide_eq_true h8,cond_true,q,Aq (Nat.le_refl _),Aq (show(P.way.length+(Ex P.d).length)*392<=140737488355328 by omega),Aq (show P.way.length+(Ex P.d).length<=140737488355328 by omega)];rfl))
  exact L.hsub (V0 (by rw[List.length_append];exact .refl _) (by rw[ab4];exact .refl _))
 rw[if_neg h8]
 have L19:GB VY (KH P s) .normal (KH P s):=JN kt k19 ((aiI P s).trans (by rw[decide_eq_false h8];rfl))
 refine L19.seq ?_
 by_cases h0:P.way.length=0
 ·rw[if_pos h0]
  exact Az.seq_ret (jS AL k22 ((aiJ P s).trans (by rw[decide_eq_true (by omega)];rfl)))
 rw[if_neg h0]
 have hn:=h.n
 obtain⟨j,hj⟩:∃ j,jD P s=j:=⟨_,rfl⟩
 have hjl:j<P.way.length:=by rw[<- hj];exact Nat.mod_lt _ (by omega)
 have hji:(IntKind.i64.wrap s.n).tmod (P.way.length:Int)=(j:Int):=by
  have e1:IntKind.i64.wrap s.n=((s.n.toNat:Nat):Int):=by rw[IntKind.wrap_i64];omega
  rw[e1,<- hj]
  unfold jD
  rfl
 rw[hj]
 have L22:GB VZ (KH P s) .normal (KH P s):=JN AL k22 ((aiK P s).trans (by rw[decide_eq_false (by omega)];rfl))
 have L24:GB jP (KH P s) .normal (S5D P s (j:Int)):=JN AL k24 ((ak2 P s).trans (by rw[decide_eq_false (by omega),hji];rfl))
 obtain⟨m,hm⟩:∃ m,P.way.getD j default=m:=⟨_,rfl⟩
 have L25:GB bN (S5D P s (j:Int)) .normal (Qd P s (j:Int) m):=JN AL k25 ((ak4 P s (j:Int)).trans (by rw[Bq hjl,Int.toNat_natCast,AB hjl,hm];rfl))
 refine L22.seq (L24.seq (L25.seq ?_))
 rw[hm]
 by_cases h7:kD s=7
 ·rw[if_pos h7]
  refine Az.seq_ret ?_
  have L:GB Ob (Qd P s (j:Int) m) .ret (TV P (.sl 31 6 0 (P.way.length+1) 0) (aiL P.way m)):=jS AL k26 ((aiM P s (j:Int) m).trans (by
   unfold gDb
   rw[decide_eq_true h7,cond_true,Aq (Nat.le_refl _),Aq (show(0+P.way.length)*392<=140737488355328 by omega),Aq (show 0+P.way.length<=140737488355328 by omega),AM.beq_false h0,Aq (show(P.way.length+1)*392<=140737488355328 by omega),Aq (show P.way.length+1<=140737488355328 by omega)];rfl))
  refine L.hsub (V0 (l:=P.way++[m]) (by rw[List.length_append,List.length_singleton];exact D4.sn) (Su (by rw[List.length_append,List.length_singleton]) fun i hi=>?_))
  by_cases h1:i<P.way.length
  ·rw[AB h1,cond_true]
   simp only[List.getD]
   rw[List.getElem?_append_left h1]
  ·have:i=P.way.length:=by omega
   subst this
   rw[CI (Nat.le_refl _),cond_false,AB (by omega),cond_true,Nat.sub_self]
   simp[List.getD]
 rw[if_neg h7]
 have L26:GB Ob (Qd P s (j:Int) m) .normal (Qd P s (j:Int) m):=JN AL k26 ((aiN P s (j:Int) m).trans (by rw[decide_eq_false h7];rfl))
 have L29:GB Rw (Qd P s (j:Int) m) .normal (S7D (setW P (P.way.eraseIdx j)) s m):=by
  have hw:IntKind.i64.wrap ((j:Int)+1)=((j+1:Nat):Int):=Bz (by omega)
  have e:=ak5 P s (j:Int) m
  have hl:(P.way.eraseIdx j).length=P.way.length - 1:=by rw[List.length_eraseIdx_of_lt hjl]
  have r2:∀ {n:Nat} {K:Option St},n<=200000->bO n K=K:=fun {n K} hn=>by
   unfold bO
   rw[Aq (show n*392<=140737488355328 by omega),Aq (show n<=140737488355328 by omega)];rfl
  have rc:∀ {K:Option St},oP P.way.length 0 ((j+1:Nat):Int) K=K:=fun {K}=>by
   unfold oP
   rw[decide_eq_true (by omega),decide_eq_true (by omega),AB (by omega)];rfl
  have hor:(Nat.beq (P.way.length - (j+1)) 0||(P.way.length - (j+1)+(j+1)).ble P.way.length)=true:=by
   rw[Aq (show P.way.length - (j+1)+(j+1)<=P.way.length by omega)];simp
  rw[hw,Int.toNat_natCast,Int.toNat_natCast,decide_eq_true (by omega),decide_eq_true (by omega),Bool.and_true,cond_true,Aq (show j<=P.way.length by omega),cond_true,r2 (by omega),rc,rc,hor,cond_true,cond_true,r2 (by omega),r2 (by omega),Aq (Nat.le_refl j),Bool.or_true,cond_true]at e
  have fin:∀ {v:AV} {x:BS},EU [] Rw (Cm .normal (norm 5 [2,4,5,12])) (Qd P s (j:Int) m)=some (xP P v x s m)->D4 v (.sn 31 6 (P.way.eraseIdx j).length)->Gx x (Bc 31 Ac default (P.way.eraseIdx j))->GB Rw (Qd P s (j:Int) m) .normal (S7D (setW P (P.way.eraseIdx j)) s m):=fun e hv hx=>(JN AL k29 e).hsub (V0 hv hx)
  by_cases hj0:j=0
  ·rw[AM.beq_true hj0,cond_true]at e
   by_cases hr:P.way.length - (j+1)=0
   ·rw[AM.beq_true hr,cond_true]at e
    refine fin e (by rw[hl,show P.way.length - 1=0 by omega];exact D4.sn) ?_
    have:P.way.eraseIdx j=[]:=List.eq_nil_of_length_eq_zero (by omega)
    rw[this]
    exact .zero true 31 _
   ·rw[AM.beq_false hr,cond_false]at e
    refine fin e (by rw[hl,show P.way.length - (j+1)=P.way.length - 1 by omega];exact D4.sn) (Su (by omega) fun i hi=>?_)
    rw[LS,if_neg (by omega)]
    unfold rsF
    rw[show i+(j+1)=i+1 by omega]
  ·rw[AM.beq_false hj0,cond_false]at e
   by_cases hr:P.way.length - (j+1)=0
   ·rw[AM.beq_true hr,cond_true]at e
    refine fin e (by rw[hl,show j=P.way.length - 1 by omega];exact D4.sn) (Su (by omega) fun i hi=>?_)
    rw[LS,if_pos hi]
   ·rw[AM.beq_false hr,cond_false]at e
    refine fin e (by rw[hl,show j+(P.way.length - (j+1))=P.way.length - 1 by omega];exact D4.sn) (Su (by omega) fun i hi=>?_)
    rw[LS]
    unfold aiO
    by_cases h1:i<j
    ·rw[AB h1,cond_true,if_pos h1]
    ·rw[CI (by omega),cond_false,AB hi,cond_true,if_neg h1,show i - j+(j+1)=i+1 by omega]
 refine L26.seq (L29.seq ?_)
 by_cases h6:kD s=6
 ·rw[if_pos h6]
  exact Az.seq_ret (jS AL k30 ((aiP _ s m).trans (by rw[decide_eq_true h6];rfl)))
 rw[if_neg h6]
 have hg:=h.give h8 h7 h6 h0
 rw[hj,hm]at hg
 have L30:=JN AL k30 ((aiQ (setW P (P.way.eraseIdx j)) s m).trans (by rw[decide_eq_false h6];rfl))
 have q2:∀ {K:Unit->Option St},BF (fun _ _=>()) (fun _=>Ru (setW P (P.way.eraseIdx j)) m) (fun _=>VX (setW P (P.way.eraseIdx j)) m) [.agg (Ff 0 (setW P (P.way.eraseIdx j))),.agg (Ac m)] (HS (setW P (P.way.eraseIdx j))) K=K ():=fun {K}=>BT () rfl hg (.refl _) (.refl _)
 exact L30.seq (jS (ak (xM _ _) AL) k32 ((ak6 _ m).trans q2))
def ab5(w num:Int)(q:Msg):Bool:=decide (q.sess=w)&&decide (q.num=num)
def D1(w num:Int)(m q:Msg):Msg:=bif ab5 w num q then q else m
def wS(s:HStp):Nat:=1+s.s.toNat % 3
def HT(P:Play)(s:HStp):Play:=bif decide (s.n=0)then Ry P (wS s)else P
def M9(P:Play)(s:HStp):Int:=bif decide (0<s.n)then bif decide (s.n<PR P (wS s))then s.n else PR P (wS s)else PR P (wS s)
def bT(P:Play)(s:HStp):Msg:=P.ops.foldl (D1 (wS s) (M9 P s)) (DC (wS s) (M9 P s) s.o)
def UZ(P:Play)(s:HStp):Play:=UY (HT P s) (bT (HT P s) s)
structure adO(P:Play)(s:HStp):Prop where
 n:0<=s.n/\s.n<=255
 s:0<=s.s/\s.s<=255
 way:P.way.length<=100000
 ops:P.ops.length<=600000
theorem ab6(P:Play)(w:Nat):(Ry P w).ops=P.ops/\(Ry P w).way=P.way:=by
 unfold Ry
 split <;> exact⟨rfl,rfl⟩
theorem afU(P:Play)(w num:Int)(o:Md.Op):HSub (jR P w num (LR (DC w num o))).hp (jR P w num (Ac (DC w num o))).hp:=by
 have key:∀ (a:List AV) (b:BS) (l:Heap),Gx (.arr true 31 [LR (DC w num o)]) b->HSub (l++[.arr true 31 [LR (DC w num o)]]) (l++[b]):=fun _ b l hb=>by
  induction l with
  | nil=>exact .cons hb .nil
  | cons x l ih=>exact .cons (.refl _) ih
 have hb:Gx (.arr true 31 [LR (DC w num o)]) (.arr true 31 [Ac (DC w num o)]):=by
  refine .arr _ _ _ _ rfl fun i cs cs' e e'=>?_
  cases i with
  | zero=>
   simp only[List.getElem?_cons_zero,Option.some.injEq]at e e'
   subst e e'
   have hs:=Ty (DC w num o) ⟨rfl,rfl,rfl,rfl,rfl⟩
   have hf:(LR (DC w num o)).all BP=true:=by rfl
   exact⟨hs.1,fun k c c' e e'=>D4.of (hs.2 k c c' e e') (List.all_eq_true.1 hf c (List.mem_of_getElem? e))⟩
  | succ i=>simp at e
 exact key [] _ ((Fj P [.arr true 33 [OM]])) hb
theorem aiS{P:Play}{s:HStp}(h:adO P s)(b:Bool):GB cA (S4D P s b) .ret (TD (UZ P s)):=by
 have ok:Ak cA=true:=by kernel_rfl
 rw[ak7]at ok ⊢
 obtain⟨k4,ok⟩:=Ad (show(Ak cA4&&Ak (.seq bP (.seq Xy (.seq bQ (.seq Rx (.seq (.seq Od (.block 0 (.loop NM))) PQ))))))=true from ok)
 obtain⟨k5,ok⟩:=Ad (show(Ak bP&&Ak (.seq Xy (.seq bQ (.seq Rx (.seq (.seq Od (.block 0 (.loop NM))) PQ)))))=true from ok)
 obtain⟨k7,ok⟩:=Ad (show(Ak Xy&&Ak (.seq bQ (.seq Rx (.seq (.seq Od (.block 0 (.loop NM))) PQ))))=true from ok)
 obtain⟨k8,ok⟩:=Ad (show(Ak bQ&&Ak (.seq Rx (.seq (.seq Od (.block 0 (.loop NM))) PQ)))=true from ok)
 obtain⟨k10,ok⟩:=Ad (show(Ak Rx&&Ak (.seq (.seq Od (.block 0 (.loop NM))) PQ))=true from ok)
 obtain⟨ok,k16⟩:=Ad (show(Ak (.seq Od (.block 0 (.loop NM)))&&Ak PQ)=true from ok)
 obtain⟨k11,ok⟩:=Ad (show(Ak Od&&Ak NM)=true from ok)
 rw[bR]at ok
 obtain⟨kp,ok⟩:=Ad (show(Ak xQ&&Ak (.seq (.block 1 xR) xS))=true from ok)
 obtain⟨kb,ki⟩:=Ad (show(Ak xR&&Ak xS)=true from ok)
 obtain⟨hn,hs,hw1,ho1⟩:=h
 have hwi:IntKind.i64.wrap (1+IntKind.i64.wrap (s.s.tmod 3))=((wS s:Nat):Int):=by
  have e1:s.s=((s.s.toNat:Nat):Int):=by omega
  have e2:s.s.tmod 3=((s.s.toNat % 3:Nat):Int):=by
   conv=>lhs;rw[e1]
   rfl
  rw[e2]
  unfold wS
  rw[IntKind.wrap_i64,IntKind.wrap_i64];omega
 have L4:GB cA4 (S4D P s b) .normal (Lw P s (wS s:Nat)):=JN AL k4 ((amc P s b).trans (by rw[hwi]))
 have hw3:wS s=1\/wS s=2\/wS s=3:=by unfold wS;omega
 have L5:GB bP (Lw P s (wS s:Nat)) .normal (Lw (HT P s) s (wS s:Nat)):=by
  refine JN (L:=[2,3,4,7]) AL k5 ?_
  unfold HT
  rcases hw3 with e | e | e
  ·rw[e]
   refine(ak8 P s).trans ?_
   cases decide (s.n=0) <;> rfl
  ·rw[e]
   refine(ak9 P s).trans ?_
   cases decide (s.n=0) <;> rfl
  ·rw[e]
   refine(ala P s).trans ?_
   cases decide (s.n=0) <;> rfl
 obtain⟨P1,hP1⟩:∃ P1,HT P s=P1:=⟨_,rfl⟩
 have hsz:P1.ops.length<=600000/\P1.way.length<=100000:=by
  rw[<- hP1]
  unfold HT
  cases decide (s.n=0)with
  | true=>
   obtain⟨e1,e2⟩:=ab6 P (wS s)
   exact⟨by rw[cond_true,e1];exact ho1,by rw[cond_true,e2];exact hw1⟩
  | false=>exact⟨ho1,hw1⟩
 obtain⟨so,sw⟩:=hsz
 rw[hP1]at L5
 have L7:GB Xy (Lw P1 s (wS s:Nat)) .normal (Qe P1 s (wS s:Nat) (PR P1 (wS s))):=by
  refine JN (L:=[2,3,4,7,8]) AL k7 ?_
  rcases hw3 with e | e | e
  ·rw[e];exact alb P1 s
  ·rw[e];exact alc P1 s
  ·rw[e];exact ald P1 s
 have L8:GB bQ (Qe P1 s (wS s:Nat) (PR P1 (wS s))) .normal (Qe P1 s (wS s:Nat) (M9 P1 s)):=by
  refine JN AL k8 ((amd P1 s _ _).trans ?_)
  have e1:IntKind.i64.wrap s.n=s.n:=by rw[IntKind.wrap_i64];omega
  rw[e1]
  unfold M9
  cases decide (0<s.n)with
  | false=>rfl
  | true=>cases decide (s.n<PR P1 (wS s)) <;> rfl
 obtain⟨w,hw⟩:∃ w:Int,((wS s:Nat):Int)=w:=⟨_,rfl⟩
 obtain⟨num,hnum⟩:∃ num,M9 P1 s=num:=⟨_,rfl⟩
 have hms:bT P1 s=P1.ops.foldl (D1 w num) (DC w num s.o):=by unfold bT;rw[hw,hnum]
 unfold UZ
 rw[hP1,hms]
 rw[hw]at L4 L5 L7 L8
 rw[hnum]at L8
 have L10:GB Rx (Qe P1 s w num) .normal (jR P1 w num (Ac (DC w num s.o))):=(JN AL k10 (ale P1 s w num)).hsub (afU P1 w num s.o)
 have L11:GB Od (jR P1 w num (Ac (DC w num s.o))) .normal (Ia P1 w num (DC w num s.o) ((0:Nat):Int)):=JN AL k11 (alf P1 w num _)
 have LL:GB (.loop NM) (Ia P1 w num (DC w num s.o) ((0:Nat):Int)) (.exit 0) (Ia P1 w num (P1.ops.foldl (D1 w num) (DC w num s.o)) (P1.ops.length:Nat)):=by
  have:=Az.loop (P:=PG) (nt:=154) (base:=5) (x:=NM) (e0:=.exit 0) (by simp) (n:=P1.ops.length) (fun i=>Ia P1 w num ((P1.ops.take i).foldl (D1 w num) (DC w num s.o)) (i:Nat)) (T:=Ia P1 w num (P1.ops.foldl (D1 w num) (DC w num s.o)) (P1.ops.length:Nat)) (fun i hi=>?_) ?_
  ·rw[List.take_zero]at this;exact this
  ·obtain⟨m,hm⟩:∃ m,(P1.ops.take i).foldl (D1 w num) (DC w num s.o)=m:=⟨_,rfl⟩
   have hwr:IntKind.i64.wrap ((i:Int)+1)=((i+1:Nat):Int):=Bz (by omega)
   have et:P1.ops.take (i+1)=P1.ops.take i++[P1.ops.getD i default]:=by
    rw[List.take_add_one]
    simp[List.getD,hi]
   rw[hm,et,List.foldl_append,hm]
   have gx:∀ {K:Option St},xT (i:Int) P1.ops.length K=K:=fun {K}=>by
    unfold xT
    rw[Bq hi,Int.toNat_natCast,AB hi];rfl
   have Lp:GB xQ (Ia P1 w num m (i:Nat)) .normal (Ia P1 w num m (i:Nat)):=JN AL kp ((ame P1 w num m _).trans (by rw[decide_eq_true (by omega)];rfl))
   have Lb:GB xR (Ia P1 w num m (i:Nat)) .normal (Ia P1 w num (D1 w num m (P1.ops.getD i default)) (i:Nat)):=JN AL kb ((amg P1 w num m _).trans (by
    rw[gx,gx,gx,Int.toNat_natCast]
    unfold D1 ab5
    cases decide ((P1.ops.getD i default).sess=w)with
    | false=>rfl
    | true=>cases decide ((P1.ops.getD i default).num=num) <;> rfl))
   have Li:GB xS (Ia P1 w num (D1 w num m (P1.ops.getD i default)) (i:Nat)) .normal (Ia P1 w num (D1 w num m (P1.ops.getD i default)) ((i+1:Nat):Int)):=JN AL ki ((amh P1 w num _ _).trans (by rw[hwr]))
   rw[bR]
   exact Lp.seq ((Az.block_n Lb).seq Li)
  ·rw[List.take_of_length_le (Nat.le_refl _),bR]
   exact Az.seq_exit (ldX AL kp ((amf P1 w num _ _).trans (by rw[decide_eq_false (by omega)];rfl)))
 have L16:GB PQ (Ia P1 w num (P1.ops.foldl (D1 w num) (DC w num s.o)) (P1.ops.length:Nat)) .ret (TD (UY P1 (P1.ops.foldl (D1 w num) (DC w num s.o)))):=jS AL k16 ((alg P1 w num _ _).trans (by
  have g:∀ {n:Nat} {K:Option St},n<=700000->oQ n K=K:=fun {n K} hn=>by
   unfold oQ
   rw[Aq (Nat.le_refl _),Aq (show(n+1)*392<=140737488355328 by omega),Aq (show n+1<=140737488355328 by omega)];rfl
  rw[g (by omega),g (by omega),afT];rfl))
 exact L4.seq (L5.seq (L7.seq (L8.seq (L10.seq ((L11.seq LL.block).seq L16)))))
def GG(P:Play)(s:HStp):Play:=if kD s<=3 then UZ P s else X5 P s
structure Sv(P:Play)(s:HStp):Prop where
 a:kD s<=3->adO P s
 r:¬ kD s<=3->adN P s
def RA(P:Play)(s:HStp):List AV × Heap:=([.agg (Ff 0 P),.agg (KX s)],HS P)
theorem aiT(P:Play):Ef (bM []).tt (TD P) [.cell 4 49] (fun vs=>Cr 0 5 (F0 vs) (TD P).hp)=some (KG P):=by kernel_rfl
theorem afV(P:Play)(s:HStp)(h:Sv P s):Aa PG DP (RA P s).1 (RA P s).2 (KG (GG P s)).1 (KG (GG P s)).2/\(RA P s).2.length<=(KG (GG P s)).2.length:=by
 have ok:=okQ
 rw[xO]at ok
 obtain⟨k0,ok⟩:=Ad (show(Ak cQ0&&Ak (.seq cQ1 (.seq xN (.seq (.seq Xx (.cond (.tmp 20) cA .skip)) cR))))=true from ok)
 obtain⟨k1,ok⟩:=Ad (show(Ak cQ1&&Ak (.seq xN (.seq (.seq Xx (.cond (.tmp 20) cA .skip)) cR)))=true from ok)
 obtain⟨k2,ok⟩:=Ad (show(Ak xN&&Ak (.seq (.seq Xx (.cond (.tmp 20) cA .skip)) cR))=true from ok)
 obtain⟨ok,_⟩:=Ad (show(Ak (.seq Xx (.cond (.tmp 20) cA .skip))&&Ak cR)=true from ok)
 obtain⟨k3,_⟩:=Ad (show(Ak Xx&&Ak (.cond (.tmp 20) cA .skip))=true from ok)
 have L0:=JN AL k0 (al8 P s)
 have L1:=JN AL k1 (al9 P s)
 have L2:=JN AL k2 (ama P s)
 have L3:=JN AL k3 (amb P s)
 have main:GB Rv (S0D P s) .ret (TD (GG P s)):=by
  rw[xO]
  refine L0.seq (L1.seq (L2.seq ?_))
  unfold GG
  by_cases hk:kD s<=3
  ·rw[if_pos hk]
   rw[decide_eq_true hk]at L3
   exact Az.seq_ret (L3.seq (Az.cond (b:=true) rfl (aiS (h.a hk) true)))
  ·rw[if_neg hk]
   rw[decide_eq_false hk]at L3
   have L:GB (.seq Xx (.cond (.tmp 20) cA .skip)) (KH P s) .normal (KH P s):=Az.sel (P:=PG) (L3.seq (Az.cond (b:=false) rfl (Az.skip _))) [2,3,4,5,6]
   exact L.seq (aiR (h.r hk))
 obtain⟨fn,hf,hb,hnt,hres⟩:∃ fn,(bM []).code DP=some fn/\fn.body=some Rv/\fn.ntmps=154/\fn.results.toList=[.cell 4 49]:=⟨_,rfl,by kernel_rfl,by kernel_rfl,by kernel_rfl⟩
 have mv:GB Rv {fr:=Ce 0 (RA P s).1,hp:=HS P} .ret (TD (GG P s)):=Az.moved (s:={fr:=Ce 0 (RA P s).1,hp:=HS P}) (fun t=>UT (RA P s).1 0 t) main
 exact GX (bS AL) Dm hf hb (.inr rfl) (by rw[hnt];exact mv) (c0:=0) (Nat.zero_le _) (by rw[hres];exact aiT _)
def aiU(P:Play)(s:HStp):Known:=.specG DP (fun _ _=>()) (fun _=>Sv P s) (fun _=>RA P s) (fun _=>KG (GG P s))
theorem afW(P:Play)(s:HStp):(aiU P s).Ok PG:=Known.specG_ok fun _ h=>afV P s h
end Go.Hd
end
noncomputable section
open Go Go.AM Go.Md
namespace Go.Hd
open Go.Wk
set_option maxRecDepth 100000
theorem RD:∀ a:Txt,strLt a a=false
 | []=>rfl
 | x::l=>by
  simp only[strLt,RD l,CI (Nat.le_refl x.toNat),Bool.and_false,Bool.or_false]
theorem PS:∀ {a b c:Txt},strLt a b=true->strLt b c=true->strLt a c=true
 | _,[],_,h,_=>by cases ‹Txt› <;> simp[strLt]at h
 | _,_::_,[],_,h=>by simp[strLt]at h
 | [],_::_,_::_,_,_=>rfl
 | x::a,y::b,z::c,h,h'=>by
  simp only[strLt,Bool.or_eq_true,Bool.and_eq_true,Nat.blt_eq,Nat.beq_eq]at h h' ⊢
  rcases h with h | ⟨h1,h2⟩
  ·rcases h' with h' | ⟨h1',h2'⟩
   ·left;omega
   ·left;omega
  ·rcases h' with h' | ⟨h1',h2'⟩
   ·left;omega
   ·right;exact⟨by omega,PS h2 h2'⟩
theorem RF:∀ a b:Txt,strLt a b=true\/a=b\/strLt b a=true
 | [],[]=>.inr (.inl rfl)
 | [],_::_=>.inl rfl
 | _::_,[]=>.inr (.inr rfl)
 | x::a,y::b=>by
  simp only[strLt,Bool.or_eq_true,Bool.and_eq_true,Nat.blt_eq,Nat.beq_eq]
  rcases Nat.lt_trichotomy x.toNat y.toNat with h | h | h
  ·exact .inl (.inl h)
  ·rcases RF a b with k | k | k
   ·exact .inl (.inr ⟨h,k⟩)
   ·have:x=y:=UInt8.toNat_inj.1 h
    exact .inr (.inl (by rw[this,k]))
   ·exact .inr (.inr (.inr ⟨h.symm,k⟩))
  ·exact .inr (.inr (.inl h))
theorem Hl{a b:Txt}:Ah a b=true ↔ a=b:=by rw[A7];simp
theorem Tz{a b:Txt}(h:strLt a b=true):a ≠ b:=fun e=>by rw[e,RD]at h;cases h
def xU(l:List Row):Prop:=l.Pairwise fun a b=>strLt a.key b.key=true
theorem Sw{r x:Row}:Qc r x=true ↔ strLt r.key x.key=true:=by
 unfold Qc
 constructor
 ·intro h
  have h:(strLt x.key r.key||Ah x.key r.key)=false:=by simpa using h
  rw[Bool.or_eq_false_iff]at h
  rcases RF x.key r.key with k | k | k
  ·rw[h.1]at k;cases k
  ·rw[Hl.2 k]at h;exact absurd h.2 (by simp)
  ·exact k
 ·intro h
  have h1:strLt x.key r.key=false:=by
   cases hc:strLt x.key r.key with
   | false=>rfl
   | true=>have:=PS h hc;rw[RD]at this;cases this
  have h2:Ah x.key r.key=false:=by
   cases hc:Ah x.key r.key with
   | false=>rfl
   | true=>exact absurd (Hl.1 hc).symm (Tz h)
  rw[h1,h2];rfl
theorem oR{l:List Row}{k:Txt}{x:Row}(h:x ∈ l.takeWhile fun x=>strLt x.key k):strLt x.key k=true:=by
 have:=List.all_takeWhile (p:=fun x:Row=>strLt x.key k) (l:=l)
 exact List.all_eq_true.1 this x h
theorem ab7{l:List Row}(h:xU l)(r:Row):xU (I9 l r):=by
 unfold I9 xU
 refine List.pairwise_append.2 ⟨h.sublist (List.takeWhile_sublist _),List.pairwise_cons.2 ⟨fun x hx=>Sw.1 (List.mem_filter.1 hx).2,h.sublist List.filter_sublist⟩,fun x hx y hy=>?_⟩
 rcases List.mem_cons.1 hy with rfl | hy
 ·exact oR hx
 ·exact PS (oR hx) (Sw.1 (List.mem_filter.1 hy).2)
theorem TB{l:List Row}{k:Txt}:(Cu l k).2=false ↔ ∀ x ∈ l,x.key ≠ k:=by
 unfold Cu
 cases hf:l.find? (fun r=>Ah r.key k)with
 | some y=>
  constructor
  ·intro h;cases h
  ·intro h
   have h1:=List.find?_some hf
   exact absurd (Hl.1 (by simpa using h1)) (h y (List.mem_of_find?_eq_some hf))
 | none=>
  constructor
  ·intro _ x hx hk
   have:=List.find?_eq_none.1 hf x hx
   exact this (Hl.2 hk)
  ·intro _;rfl
theorem TC{l:List Row}(h:xU l){r x:Row}:x ∈ I9 l r ↔ x=r\/(x ∈ l/\x.key ≠ r.key):=by
 unfold I9
 rw[List.mem_append,List.mem_cons,List.mem_filter]
 constructor
 ·rintro(hx | rfl | ⟨hx,ha⟩)
  ·exact .inr ⟨(List.takeWhile_sublist _).subset hx,Tz (oR hx)⟩
  ·exact .inl rfl
  ·exact .inr ⟨hx,fun e=>Tz (Sw.1 ha) e.symm⟩
 ·rintro(rfl | ⟨hx,hk⟩)
  ·exact .inr (.inl rfl)
  ·rcases RF x.key r.key with k | k | k
   ·left
    clear hk
    induction l with
    | nil=>cases hx
    | cons y l ih=>
     obtain⟨h1,h2⟩:=List.pairwise_cons.1 h
     rcases List.mem_cons.1 hx with rfl | hx
     ·rw[List.takeWhile_cons_of_pos (by simpa using k)];exact List.mem_cons_self
     ·rw[List.takeWhile_cons_of_pos (by simpa using PS (h1 x hx) k)]
      exact List.mem_cons_of_mem _ (ih h2 hx)
   ·exact absurd k hk
   ·exact .inr (.inr ⟨hx,Sw.2 k⟩)
def KC(A:Txt->Option Entry)(e:Entry):Txt->Option Entry:=fun k=>if e.key=k then(match A k with
 | some y=>if AH y.ver e.ver=true then some e else some y
 | none=>some e)else A k
structure Qf(A:Txt->Option Entry)(v:Ver)(l:List Row):Prop where
 srt:xU l
 row:∀ x ∈ l,∃ y,A x.key=some y/\x=LQ y
 no:∀ k y,A k=some y->(∀ x ∈ l,x.key ≠ k)->y.del=true/\Fy y.ver v
def OP(A A':Txt->Option Entry):Prop:=∀ k y,A k=some y -> ∃ z,A' k=some z/\Fy y.ver z.ver
theorem OP.refl(A:Txt->Option Entry):OP A A:=fun _ y h=>⟨y,h,Fy.refl _⟩
theorem OP.trans{A B D:Txt->Option Entry}(h:OP A B)(h':OP B D):OP A D:=fun k y hy=>by
 obtain⟨z,z1,z2⟩:=h k y hy
 obtain⟨u,u1,u2⟩:=h' k z z1
 exact⟨u,u1,z2.trans u2⟩
theorem xV(A:Txt->Option Entry)(e:Entry):OP A (KC A e):=fun k y hy=>by
 unfold KC
 by_cases hk:e.key=k
 ·rw[if_pos hk,hy]
  dsimp only
  by_cases hv:AH y.ver e.ver=true
  ·rw[if_pos hv];exact⟨e,rfl,WA hv⟩
  ·rw[if_neg hv];exact⟨y,rfl,Fy.refl _⟩
 ·rw[if_neg hk];exact⟨y,hy,Fy.refl _⟩
theorem afX(A:Txt->Option Entry)(e:Entry):∃ z,KC A e e.key=some z/\Fy e.ver z.ver:=by
 unfold KC
 rw[if_pos rfl]
 cases hA:A e.key with
 | none=>exact⟨e,rfl,Fy.refl _⟩
 | some y=>
  dsimp only
  by_cases hv:AH y.ver e.ver=true
  ·rw[if_pos hv];exact⟨e,rfl,Fy.refl _⟩
  ·rw[if_neg hv];exact⟨y,rfl,by simpa [Fy] using hv⟩
theorem bU{A:Txt->Option Entry}{e y:Entry}(hA:A e.key=some y)(hv:Fy e.ver y.ver):KC A e=A:=by
 funext k
 unfold KC
 by_cases hk:e.key=k
 ·subst hk
  rw[if_pos rfl,hA]
  dsimp only
  rw[if_neg (by rw[show AH y.ver e.ver=false from hv];simp)]
 ·rw[if_neg hk]
def U0(H:List Entry)(A:Txt->Option Entry):Prop:=∀ k y,A k=some y->y ∈ H/\y.write=true/\y.key=k
theorem U0.up{H:List Entry}{A:Txt->Option Entry}(h:U0 H A){e:Entry}(he:e ∈ H)(hw:e.write=true):U0 H (KC A e):=fun k y hy=>by
 unfold KC at hy
 by_cases hk:e.key=k
 ·rw[if_pos hk]at hy
  cases hA:A k with
  | none=>rw[hA]at hy;cases hy;exact⟨he,hw,hk⟩
  | some z=>
   rw[hA]at hy
   dsimp only at hy
   by_cases hv:AH z.ver e.ver=true
   ·rw[if_pos hv]at hy;cases hy;exact⟨he,hw,hk⟩
   ·rw[if_neg hv]at hy;cases hy;exact h k _ hA
 ·rw[if_neg hk]at hy;exact h k y hy
theorem aiV{A:Txt->Option Entry}{v:Ver}{l:List Row}(h:Qf A v l){e:Entry}(hw:e.write=true)
  (hold:AH v e.ver=false -> ∃ y,A e.key=some y/\Fy e.ver y.ver):Qf (KC A e) v (NL v l e):=by
 unfold NL
 rw[hw]
 cases hv:AH v e.ver with
 | false=>
  obtain⟨y,y1,y2⟩:=hold hv
  rw[bU y1 y2];exact h
 | true=>
  show Qf (KC A e) v (bif(Cu l e.key).2 && !AH (Cu l e.key).1.ver e.ver then l else I9 l (LQ e))
  cases hc:(Cu l e.key).2 && !AH (Cu l e.key).1.ver e.ver with
  | true=>
   obtain⟨c1,c2⟩:=Ad hc
   obtain⟨m1,m2⟩:=Lv c1
   obtain⟨y,y1,y2⟩:=h.row _ m1
   rw[m2]at y1
   have hle:Fy e.ver y.ver:=by
    have:AH (Cu l e.key).1.ver e.ver=false:=by simpa using c2
    rw[y2]at this;exact this
   rw[bU y1 hle];exact h
  | false=>
   have hup:KC A e e.key=some e:=by
    unfold KC
    rw[if_pos rfl]
    cases hA1:A e.key with
    | none=>rfl
    | some y=>
     dsimp only
     refine if_pos ?_
     cases hf:(Cu l e.key).2 with
     | true=>
      rw[hf,Bool.true_and]at hc
      obtain⟨m1,m2⟩:=Lv hf
      obtain⟨z,z1,z2⟩:=h.row _ m1
      rw[m2,hA1]at z1
      cases z1
      have:AH (Cu l e.key).1.ver e.ver=true:=by simpa using hc
      rw[z2]at this;exact this
     | false=>
      have:=(h.no e.key y hA1 (TB.1 hf)).2
      rw[Mw]at hv ⊢
      rw[R6]at this
      omega
   refine⟨ab7 h.srt _,fun x hx=>?_,fun k y hy hno=>?_⟩
   ·rcases(TC h.srt).1 hx with rfl | ⟨hx,hk⟩
    ·exact⟨e,hup,rfl⟩
    ·obtain⟨y,y1,y2⟩:=h.row x hx
     refine⟨y,?_,y2⟩
     unfold KC
     rw[if_neg (fun e'=>hk e'.symm)];exact y1
   ·by_cases hk:e.key=k
    ·exact absurd hk (hno (LQ e) ((TC h.srt).2 (.inl rfl)))
    ·unfold KC at hy
     rw[if_neg hk]at hy
     exact h.no k y hy fun x hx hxk=>hno x ((TC h.srt).2 (.inr ⟨hx,fun h'=>hk (h'.symm.trans hxk)⟩)) hxk
theorem aiW{A:Txt->Option Entry}{v:Ver}{l:List Row}(h:Qf A v l):Qf A v (Rq l v):=by
 unfold Rq
 refine⟨h.srt.sublist List.filter_sublist,fun x hx=>h.row x (List.mem_filter.1 hx).1,fun k y hy hno=>?_⟩
 by_cases hex:∃ x ∈ l,x.key=k
 ·obtain⟨x,hx,rfl⟩:=hex
  have hst:stays v x=false:=by
   cases hs:stays v x with
   | false=>rfl
   | true=>exact absurd rfl (hno x (List.mem_filter.2 ⟨hx,hs⟩))
  unfold stays at hst
  rw[Bool.or_eq_false_iff]at hst
  obtain⟨z,z1,z2⟩:=h.row x hx
  rw[hy]at z1
  cases z1
  rw[z2]at hst
  exact⟨by simpa [LQ] using hst.1,hst.2⟩
 ·exact h.no k y hy fun x hx hk=>hex ⟨x,hx,hk⟩
theorem Qf.mono{A:Txt->Option Entry}{v w:Ver}{l:List Row}(h:Qf A v l)(hv:Fy v w):Qf A w l:=⟨h.srt,h.row,fun k y hy hno=>⟨(h.no k y hy hno).1,(h.no k y hy hno).2.trans hv⟩⟩
def V1(A:Txt->Option Entry)(es:List Entry):Txt->Option Entry:=es.foldl KC A
theorem V3:∀ (es:List Entry) (A:Txt->Option Entry),OP A (V1 A es)
 | [],A=>.refl A
 | e::es,A=>(xV A e).trans (V3 es (KC A e))
theorem bV:∀ (es:List Entry) (A:Txt->Option Entry),∀ e ∈ es,∃ z,V1 A es e.key=some z/\Fy e.ver z.ver
 | [],_,e,he=>by cases he
 | x::es,A,e,he=>by
  rcases List.mem_cons.1 he with rfl | he
  ·obtain⟨y,y1,y2⟩:=afX A e
   obtain⟨z,z1,z2⟩:=V3 es (KC A e) _ _ y1
   exact⟨z,z1,y2.trans z2⟩
  ·exact bV es (KC A x) e he
theorem bW{H:List Entry}{v:Ver}:∀ (es:List Entry) (A:Txt->Option Entry) (l:List Row),U0 H A->Qf A v l->(∀ e ∈ es,e ∈ H/\e.write=true)->(∀ e ∈ es,AH v e.ver=false -> ∃ y,A e.key=some y/\Fy e.ver y.ver) ->
  Qf (V1 A es) v (G0 l v es)/\U0 H (V1 A es)
 | [],_,_,hA,h,_,_=>⟨h,hA⟩
 | e::es,A,l,hA,h,hes,hold=>by
  obtain⟨e1,e2⟩:=hes e (by simp)
  refine bW es (KC A e) (NL v l e) (hA.up e1 e2) (aiV h e2 (hold e (by simp))) (fun x hx=>hes x (List.mem_cons_of_mem _ hx)) fun x hx hv=>?_
  obtain⟨y,y1,y2⟩:=hold x (List.mem_cons_of_mem _ hx) hv
  obtain⟨z,z1,z2⟩:=xV A e _ _ y1
  exact⟨z,z1,y2.trans z2⟩
end Go.Hd
end
noncomputable section
open Go Go.AM Go.Md
namespace Go.Hd
open Go.Wk
set_option maxRecDepth 100000
variable {C:Ctx} {A:Txt->Option Entry} {B:Nat} {H:List Entry} {f:Nat}
def cx(A:Txt->Option Entry)(ops:List Msg)(d:Md.Desk):Ctx:=⟨ops,A,d.next,fun n k=>∃ a ∈ d.asks,a.num=n/\a.key=k,d.pump⟩
theorem bX{k:Txt}{e:Entry}:∀ {H:List Entry},LW H k=some e -> ∃ a b,H=a++e::b/\LY b k
 | [],h=>by cases h
 | x::r,h=>by
  unfold LW Da at h
  cases hr:Da r k with
  | some y=>
   rw[hr]at h
   dsimp only at h
   cases h
   obtain⟨a,b,e1,e2⟩:=bX (H:=r) hr
   exact⟨x::a,b,by rw[e1];rfl,e2⟩
  | none=>
   rw[hr]at h
   dsimp only at h
   cases hc:x.write&&Ah x.key k with
   | true=>rw[hc,cond_true]at h;cases h;exact⟨[],r,rfl,hr⟩
   | false=>rw[hc,cond_false]at h;cases h
theorem FP.lt{a b:List Entry}{e y:Entry}(h:FP C (a++e::b))(hy:y ∈ a):AH y.ver e.ver=true:=by
 obtain⟨i,hi,rfl⟩:=List.getElem_of_mem hy
 have h30:=h.len
 rw[List.length_append,List.length_cons]at h30
 have h1:=h.ver i (by rw[List.length_append];omega)
 have h2:=h.ver a.length (by rw[List.length_append,List.length_cons];omega)
 rw[List.getElem_append_left hi]at h1
 rw[List.getElem_append_right (Nat.le_refl _)]at h2
 simp only[Nat.sub_self,List.getElem_cons_zero]at h2
 rw[h1,h2,Mt (by omega) (by omega)]
 exact decide_eq_true (by omega)
theorem oS{k:Txt}(hh:FP C H)(hA:U0 H C.A)(hap:∀ e ∈ H.take f,e.write=true->Ap C e)(hn:LY (H.drop f) k):C.A k=LW H k:=by
 cases hl:LW H k with
 | none=>
  cases hk:C.A k with
  | none=>rfl
  | some y=>
   obtain⟨y1,y2,y3⟩:=hA k y hk
   have hl:LY H k:=hl
   exact absurd y3 (KV.1 hl y y1 y2)
 | some e=>
  obtain⟨e1,e2,e3⟩:=iT hl
  obtain⟨a,b,hs,hb⟩:=bX hl
  have ht:e ∈ H.take f:=by
   rw[<- List.take_append_drop f H]at e1
   rcases List.mem_append.1 e1 with h | h
   ·exact h
   ·exact absurd e3 (KV.1 hn e h e2)
  obtain⟨y,y1,y2⟩:=hap e ht e2
  rw[e3]at y1
  obtain⟨z1,z2,z3⟩:=hA k y y1
  rw[y1]
  rw[hs]at z1 hh
  rcases List.mem_append.1 z1 with h | h
  ·have:=hh.lt h
   rw[show AH y.ver e.ver=false from y2]at this;cases this
  ·rcases List.mem_cons.1 h with rfl | h
   ·rfl
   ·exact absurd z3 (KV.1 hb y h z2)
theorem Ap.mono{C D:Ctx}{e:Entry}(h:Ap C e)(hA:OP C.A D.A):Ap D e:=by
 obtain⟨y,y1,y2⟩:=h
 obtain⟨z,z1,z2⟩:=hA _ _ y1
 exact⟨z,z1,y2.trans z2⟩
theorem DS.re{d:Md.Desk}(h:DS C X0 B H f d){A':Txt->Option Entry}{ops':List Msg}(hA:OP C.A A')(ho:Mv (cx A' ops' d))(hsub:∀ q ∈ C.ops,q ∈ ops'):DS (cx A' ops' d) X0 B H f d:=
 {ops:=ho
  h:=⟨h.h.len,h.h.ver,h.h.ent,h.h.rise,fun e he=>by obtain⟨q,q1,q2⟩:=h.h.call e he;exact⟨q,hsub q q1,q2⟩⟩
  rep:=h.rep,fl:=h.fl,log:=h.log
  ap:=fun e he hw=>(h.ap e he hw).mono (D:=cx A' ops' d) hA
  pnum:=h.pnum,pout:=h.pout
  pdone:=⟨h.pdone.1,fun x hx=>by obtain⟨e,e1,e2,e3,e4⟩:=h.pdone.2 x hx;exact⟨e,e1,e2,e3,e4.mono (D:=cx A' ops' d) hA⟩⟩
  clean:=h.clean,waits:=h.waits,asks:=h.asks,keys:=h.keys
  ask:=fun a ha=>by
   have h0:=h.ask a ha
   exact⟨h0.num,h0.key,h0.len,fun q hq=>⟨hsub q (h0.calls q hq).1,(h0.calls q hq).2⟩,h0.now,.inr ⟨a,ha,rfl,rfl⟩⟩
  next:=h.next,n0:=Int.le_refl _,pu:=SV.refl _}
structure NN(A:Txt->Option Entry)(B:Nat)(H:List Entry)(f:Nat)(s:Shard):Prop where
 fence:s.fence=1
 fl:s.floor=⟨0,0⟩ \/ ∃ g,g<=f/\s.floor=v1 g
 rw:Qf A s.floor s.rows
 a:U0 H A
 len:s.rows.length<=B
def RG(A:Txt->Option Entry)(H:List Entry)(f:Nat)(ops:List Msg)(d:Md.Desk)(x:Msg):Prop:=x ∈ ops\/UP H f d.pump x\/PL d.next x\/FdI (cx A ops d) d x\/VaI H d x
structure KD(A:Txt->Option Entry)(B S:Nat)(H:List Entry)(f:Nat)(P:Play):Prop where
 ds:DS (cx A P.ops P.d) X0 B H f P.d
 st:NN A B H f P.st
 way:∀ x ∈ P.way,RG A H f P.ops P.d x
 said:∀ x ∈ P.said,LO (cx A P.ops P.d) H x
 log:∀ e ∈ P.log,e ∈ H
 wlog:∀ e ∈ H,e.write=true->e ∈ P.log
 n1:GL P.n1
 n2:GL P.n2
 n3:GL P.n3
 sz:Xv P S
theorem Xv.mono{P:Play}{n m:Nat}(h:Xv P n)(hm:n<=m):Xv P m:=by
 obtain⟨a,b,c,d,e⟩:=h
 exact⟨by omega,by omega,by omega,by omega,by omega⟩
theorem NN.mono{s:Shard}{D:Nat}(h:NN A B H f s)(hB:B<=D):NN A D H f s:={h with len:=Nat.le_trans h.len hB}
theorem NN.grow{s:Shard}{H':List Entry}{f':Nat}(h:NN A B H f s)(hg:Gr H H')(hf:f<=f'):NN A B H' f' s:=by
 obtain⟨K,rfl⟩:=hg
 exact {h with fl:=h.fl.imp id fun⟨g,g1,g2⟩=>⟨g,by omega,g2⟩,a:=fun k y hy=>⟨List.mem_append_left _ (h.a k y hy).1,(h.a k y hy).2⟩}
theorem LO.ops{D:Ctx}{x:Msg}(h:LO C H x)(hs:∀ q ∈ C.ops,q ∈ D.ops):LO D H x:=⟨h.kd,h.dst,by obtain⟨q,q1,q2⟩:=h.of;exact⟨q,hs q q1,q2⟩⟩
theorem UP.next{p q:Pump}{x:Msg}{H':List Entry}{f':Nat}(h:UP H f p x)(hp:SV p q)(hg:Gr H H')(hf:f<=f'):UP H' f' q x:=by
 obtain⟨K,rfl⟩:=hg
 obtain⟨g,g1,g2⟩:=h.floor
 have hn:=h.num
 refine {h with num:=?_,now:=fun he=>?_,ents:=⟨h.ents.1,fun e he=>⟨List.mem_append_left _ (h.ents.2 e he).1,(h.ents.2 e he).2⟩⟩,floor:=⟨g,by omega,g2⟩}
 ·rcases hp with h1 | ⟨h1,_⟩ <;> omega
 ·rcases hp with h1 | ⟨h1,h2 | h2⟩
  ·omega
  ·exact .inl h2
  ·rcases h.now (he.trans h1)with h3 | h3
   ·exact .inl (h2.trans h3)
   ·exact .inr (h3.trans h2.symm)
theorem afY{ops:List Msg}{d d':Md.Desk}{D:Nat}{H':List Entry}{f':Nat}{x:Msg}(hd:DS (cx A ops d) X0 B H f d)(hA:U0 H A)(h:RG A H f ops d x)(hg:Gr H H')(hf:f<=f')(hd':DS (cx A ops d) X0 D H' f' d'):RG A H' f' ops d' x:=by
 have hn:d.next<=d'.next:=hd'.n0
 have hp:SV d.pump d'.pump:=hd'.pu
 rcases h with h | h | h | h | h
 ·exact .inl h
 ·exact .inr (.inl (h.next hp hg hf))
 ·exact .inr (.inr (.inl (h.mono hn)))
 ·refine .inr (.inr (.inr (.inl ⟨h.kd,h.dst,h.code,?_,fun he e hm=>?_⟩)))
  ·have:=h.num
   rcases hp with h1 | ⟨h1,_⟩ <;> omega
  ·have:=h.num
   rcases hp with h1 | ⟨h1,h2 | h2⟩
   ·omega
   ·rw[h2]at hm;cases hm
   ·rw[h2]at hm
    exact h.now (he.trans h1) e hm
 ·refine .inr (.inr (.inr (.inr ⟨h.kd,h.dst,Int.le_trans h.num hn,h.itm,fun a ha h1 h2=>?_⟩)))
  have ha':=hd'.ask a ha
  rcases ha'.old with ho | ⟨b,hb,b1,b2⟩
  ·have:=h.num
   have ho:d.next<a.num:=ho
   omega
  ·have hcl:=h.now b hb (b1.trans h1) (b2.trans h2)
   have hb0:=hd.ask b hb
   have e1:=oS (C:=cx A ops d) hd.h hA hd.ap (hb0.now (fun h=>h))
   have hA':U0 H' A:=by
    obtain⟨K,rfl⟩:=hg
    exact fun k y hy=>⟨List.mem_append_left _ (hA k y hy).1,(hA k y hy).2⟩
   have e2:=oS (C:=cx A ops d) hd'.h hA' hd'.ap (ha'.now (fun h=>h))
   have e3:LW H' x.key=LW H x.key:=by
    have k1:b.key=x.key:=b2.trans h2
    rw[k1]at e1
    rw[h2]at e2
    exact e2.symm.trans e1
   unfold Cl at hcl ⊢
   show match LW H' x.key with | none=>_ | some e=>_
   rw[e3];exact hcl
theorem Xz(last:Ver)(was:Bool):∀ (l:List Entry) (P:Play),∃ k b,k ⊆ l/\k.length<=l.length/\b.length<=l.length/\(∀ e ∈ l,AH last e.ver=true->e ∈ k)/\l.foldl (Kz last was) P={P with log:=P.log++k,busy:=P.busy++b}
 | [],P=>⟨[],[],by simp,by simp,by simp,by simp,by simp⟩
 | e::l,P=>by
  rw[List.foldl_cons]
  obtain⟨k,b,h1,h2,h3,h4,h5⟩:=Xz last was l (Kz last was P e)
  cases hv:AH last e.ver with
  | false=>
   have en:Kz last was P e=P:=by unfold Kz;rw[hv];rfl
   rw[en]at h5 ⊢
   refine⟨k,b,fun x hx=>List.mem_cons_of_mem _ (h1 hx),by rw[List.length_cons];omega,by rw[List.length_cons];omega,fun x hx hx2=>?_,h5⟩
   rcases List.mem_cons.1 hx with rfl | hx
   ·rw[hv]at hx2;cases hx2
   ·exact h4 x hx hx2
  | true=>
   have en:Kz last was P e=UU P e was:=by unfold Kz;rw[hv];rfl
   rw[en]at h5 ⊢
   refine⟨e::k,was::b,fun x hx=>?_,by rw[List.length_cons,List.length_cons];omega,by rw[List.length_cons,List.length_cons];omega,fun x hx hx2=>?_,h5.trans ?_⟩
   ·rcases List.mem_cons.1 hx with rfl | hx
    ·simp
    ·exact List.mem_cons_of_mem _ (h1 hx)
   ·rcases List.mem_cons.1 hx with rfl | hx
    ·simp
    ·exact List.mem_cons_of_mem _ (h4 x hx hx2)
   ·unfold UU;simp
theorem XA:∀ (l:List Msg) (P:Play),∃ w s,w.length<=l.length/\s.length<=l.length/\(∀ x ∈ w,x ∈ l/\x.kind ≠ 6)/\(∀ x ∈ s,x ∈ l/\x.kind=6)/\l.foldl KA P={P with way:=P.way++w,said:=P.said++s}
 | [],P=>⟨[],[],by simp,by simp,by simp,by simp,by simp⟩
 | x::l,P=>by
  rw[List.foldl_cons]
  obtain⟨w,s,h1,h2,h3,h4,h5⟩:=XA l (KA P x)
  by_cases hk:x.kind=6
  ·have en:KA P x=UW P x:=by unfold KA;rw[decide_eq_true hk];rfl
   rw[en]at h5 ⊢
   refine⟨w,x::s,by rw[List.length_cons];omega,by rw[List.length_cons,List.length_cons];omega,fun y hy=>⟨List.mem_cons_of_mem _ (h3 y hy).1,(h3 y hy).2⟩,fun y hy=>?_,h5.trans (by unfold UW;simp)⟩
   rcases List.mem_cons.1 hy with rfl | hy
   ·exact⟨by simp,hk⟩
   ·exact⟨List.mem_cons_of_mem _ (h4 y hy).1,(h4 y hy).2⟩
  ·have en:KA P x=Lm P x:=by unfold KA;rw[decide_eq_false hk];rfl
   rw[en]at h5 ⊢
   refine⟨x::w,s,by rw[List.length_cons,List.length_cons];omega,by rw[List.length_cons];omega,fun y hy=>?_,fun y hy=>⟨List.mem_cons_of_mem _ (h4 y hy).1,(h4 y hy).2⟩,h5.trans (by unfold Lm;simp)⟩
   rcases List.mem_cons.1 hy with rfl | hy
   ·exact⟨by simp,hk⟩
   ·exact⟨List.mem_cons_of_mem _ (h3 y hy).1,(h3 y hy).2⟩
theorem ab8(x:NtA):∃ k b w s,k ⊆ x.d.rep.tail.log/\k.length<=x.d.rep.tail.log.length/\b.length<=x.d.rep.tail.log.length/\(∀ e ∈ x.d.rep.tail.log,AH (H0 x.P.log) e.ver=true->e ∈ k)/\w.length<=x.l.length/\s.length<=x.l.length/\(∀ y ∈ w,y ∈ x.l/\y.kind ≠ 6)/\(∀ y ∈ s,y ∈ x.l/\y.kind=6) /\
  KB x={x.P with d:=x.d,log:=x.P.log++k,busy:=x.P.busy++b,way:=x.P.way++w,said:=x.P.said++s}:=by
 obtain⟨k,b,h1,h2,h3,h4,h5⟩:=Xz (H0 x.P.log) x.was x.d.rep.tail.log x.P
 obtain⟨w,s,g1,g2,g3,g4,g5⟩:=XA x.l (x.d.rep.tail.log.foldl (Kz (H0 x.P.log) x.was) x.P)
 refine⟨k,b,w,s,h1,h2,h3,h4,g1,g2,g3,g4,?_⟩
 unfold KB
 rw[g5,h5];rfl
theorem ab9{l:List Entry}(hh:FP C H)(hl:∀ e ∈ l,e ∈ H):H0 l=⟨0,0⟩ \/ ∃ n,n<=H.length/\H0 l=v1 n:=by
 unfold H0
 by_cases h0:l.length=0
 ·rw[if_pos h0];exact .inl rfl
 ·rw[if_neg h0]
  obtain⟨n,n1,n2,n3,_⟩:=hh.vi (hl _ (getD_mem (z:=(default:Entry)) (show l.length - 1<l.length by omega)))
  exact .inr ⟨n,n2,n3⟩
theorem adP{n:Nat}(h:n<=1000):AH ⟨0,0⟩ (v1 n)=true:=by
 rw[zA]
 unfold v1
 rw[YI (by omega) (by omega) (by omega) (by omega),decide_eq_false (by omega)];rfl
theorem afZ{P:Play}{S:Nat}(h:KD A B S H f P)(hS:S+7000<=600000)(hB:B+30<=3000){w:Wrk}(hL:Qb (cx A P.ops P.d) (B+30) H f w) :
  VV ⟨P,w.d,w.out,P.d.busy⟩ /\ ∃ H' f',KD A (B+30) (S+7000) H' f' (KB ⟨P,w.d,w.out,P.d.busy⟩):=by
 obtain⟨H',f',hg,hf,hl⟩:=hL
 have hd:=hl.d
 have h30:=hd.h.len
 have hlog:w.d.rep.tail.log=H'.drop f':=by rw[hd.rep];rfl
 have hll:=hd.loglen.2
 have hlast:=ab9 h.ds.h h.log
 have hH:=h.ds.h.len
 have hout:=hl.out
 refine⟨⟨h.sz.mono (by omega),by show w.d.rep.tail.log.length<=1000;omega,by show w.out.length<=100000;omega,?_,fun e he=>hd.h.num (hd.vlog e he)⟩,H',f',?_⟩
 ·show Au (H0 P.log)
  rcases hlast with e | ⟨n,n1,e⟩
  ·rw[e,zA];exact⟨0,0,by omega,by omega,rfl⟩
  ·rw[e];exact Hu (by omega)
 obtain⟨k,b,ws,ss,k1,k2,k3,k4,w1,w2,w3,w4,he⟩:=ab8 ⟨P,w.d,w.out,P.d.busy⟩
 dsimp only at k1 k2 k3 k4 w1 w2 w3 w4 he
 rw[he]
 have hsub:∀ q ∈ (cx A P.ops P.d).ops,q ∈ P.ops:=fun q hq=>hq
 obtain⟨s1,s2,s3,s4,s5⟩:=h.sz
 obtain⟨K,hK⟩:=hg
 refine⟨?_,(h.st.mono (by omega)).grow ⟨K,hK⟩ hf,fun x hx=>?_,fun x hx=>?_,fun e he=>?_,fun e he hw=>?_,h.n1,h.n2,h.n3,?_⟩
 ·exact hd.re (OP.refl _) ⟨hd.ops.op,hd.ops.fn⟩ hsub
 ·rcases List.mem_append.1 (show x ∈ P.way++ws from hx)with hx | hx
  ·exact afY h.ds h.st.a (h.way x hx) ⟨K,hK⟩ hf hd
  ·obtain⟨x1,x2⟩:=w3 x hx
   rcases hl.said x x1 with (h1 | h1) | h1
   ·exact absurd h1.kd x2
   ·exact .inr (.inr (.inl h1))
   ·exact .inr (.inl h1)
 ·rcases List.mem_append.1 (show x ∈ P.said++ss from hx)with hx | hx
  ·exact((h.said x hx).grow ⟨K,hK⟩ h30).ops (D:=cx A P.ops w.d) hsub
  ·obtain⟨x1,x2⟩:=w4 x hx
   rcases hl.said x x1 with (h1 | h1) | h1
   ·exact h1.ops (D:=cx A P.ops w.d) hsub
   ·exact absurd (h1.kd.symm.trans x2) (by decide)
   ·exact absurd (h1.kd.symm.trans x2) (by decide)
 ·rcases List.mem_append.1 (show e ∈ P.log++k from he)with he | he
  ·rw[hK];exact List.mem_append_left _ (h.log e he)
  ·exact hd.vlog e (k1 he)
 ·show e ∈ P.log++k
  rw[hK]at he
  rcases List.mem_append.1 he with he | he
  ·exact List.mem_append_left _ (h.wlog e he hw)
  ·refine List.mem_append_right _ (k4 e ?_ ?_)
   ·rw[hlog]
    have hm:e ∈ H':=by rw[hK];exact List.mem_append_right _ he
    rw[<- List.take_append_drop f' H']at hm
    rcases List.mem_append.1 hm with hm | hm
    ·exfalso
     obtain⟨y,y1,y2⟩:=hd.ap e hm hw
     obtain⟨z1,_,_⟩:=h.st.a _ _ y1
     obtain⟨a,b',e1⟩:=List.append_of_mem he
     have hh:=hd.h
     rw[hK,e1,<- List.append_assoc]at hh
     have:=hh.lt (List.mem_append_left a z1)
     rw[show AH y.ver e.ver=false from y2]at this
     cases this
    ·exact hm
   ·obtain⟨n,n1,n2,n3,n4⟩:=hd.h.vi (show e ∈ H' by rw[hK];exact List.mem_append_right _ he)
    rw[n3]
    rcases hlast with e1 | ⟨j,j1,e1⟩
    ·rw[e1];exact adP (by omega)
    ·rw[e1,Mt (by omega) (by omega)]
     refine decide_eq_true ?_
     obtain⟨a,b',e2⟩:=List.append_of_mem he
     have hh:=hd.h
     have h2:=hh.ver (H.length+a.length) (by rw[hK,e2];simp)
     have h3:H'[H.length+a.length]'(by rw[hK,e2];simp)=e:=by simp[hK,e2]
     rw[h3,n3]at h2
     have h4:H.length+a.length+1<=30:=by
      have:=hh.len
      rw[hK,e2]at this
      simp at this
      omega
     have:=aip (by omega) (by omega) h2
     omega
 ·exact⟨by show(P.way++ws).length<=_;rw[List.length_append];omega,by show P.ops.length<=_;omega,by show(P.log++k).length<=_;rw[List.length_append];omega,by show(P.busy++b).length<=_;rw[List.length_append];omega,by show(P.said++ss).length<=_;rw[List.length_append];omega⟩
end Go.Hd
end
noncomputable section
open Go Go.AM Go.Md
namespace Go.Hd
open Go.Wk
set_option maxRecDepth 100000
variable {C:Ctx} {A:Txt->Option Entry} {B S:Nat} {H:List Entry} {f:Nat}
theorem aca{P:Play}(h:KD A B S H f P)(hB:B<=3000):Tj P.d/\(Ex P.d).length<=7000 /\ ∀ x ∈ Ex P.d,RG A H f P.ops P.d x:=by
 have ha:AD P.d.rep=[]:=by rw[h.ds.rep];exact Mu _ _
 have hal:=h.ds.asks
 have hfl:(A8 (P.d.pump,P.d.rep)).length<=1:=by unfold A8;cases P.d.pump.out.isEmpty <;> simp
 refine⟨⟨h.ds.ag,by have:=h.ds.pout.1;omega,by omega,by rw[ha];exact Nat.zero_le _⟩,?_,fun x hx=>?_⟩
 ·unfold Ex
  rw[ha,List.nil_append,List.length_append,List.length_map];omega
 ·unfold Ex at hx
  rw[ha,List.nil_append]at hx
  rcases List.mem_append.1 hx with hx | hx
  ·exact .inr (.inl (wR h.ds h.ds.pout x hx))
  ·obtain⟨a,ha,rfl⟩:=List.mem_map.1 hx
   have h0:=h.ds.ask a ha
   refine .inr (.inr (.inl ?_))
   rw[h.ds.rep]
   exact⟨rfl,rfl,rfl,rfl,rfl,rfl,rfl,rfl,rfl,h0.num,h0.key⟩
theorem RG.leA{A':Txt->Option Entry}{ops:List Msg}{d:Md.Desk}{x:Msg}(h:RG A H f ops d x)(hA:OP A A'):RG A' H f ops d x:=by
 rcases h with h | h | h | h | h
 ·exact .inl h
 ·exact .inr (.inl h)
 ·exact .inr (.inr (.inl h))
 ·exact .inr (.inr (.inr (.inl ⟨h.kd,h.dst,h.code,h.num,fun he e hm=>(h.now he e hm).mono (C:=cx A ops d) (D:=cx A' ops d) hA⟩)))
 ·exact .inr (.inr (.inr (.inr h)))
theorem RG.ops'{ops ops':List Msg}{d:Md.Desk}{x:Msg}(h:RG A H f ops d x)(hs:∀ q ∈ ops,q ∈ ops'):RG A H f ops' d x:=by
 rcases h with h | h | h | h | h
 ·exact .inl (hs x h)
 ·exact .inr (.inl h)
 ·exact .inr (.inr (.inl h))
 ·exact .inr (.inr (.inr (.inl ⟨h.kd,h.dst,h.code,h.num,h.now⟩)))
 ·exact .inr (.inr (.inr (.inr h)))
theorem V4{s:Shard}(h:NN A B H f s)(hh:FP C H):∀ x ∈ s.rows,Au x.ver:=fun x hx=>by
 obtain⟨y,y1,rfl⟩:=h.rw.row x hx
 exact hh.num (h.a _ _ y1).1
theorem v00:Au ⟨0,0⟩:=by rw[zA];exact⟨0,0,by omega,by omega,rfl⟩
theorem bY{s:Shard}(h:NN A B H f s)(hh:FP C H)(hf:f<=H.length):Au s.floor:=by
 have:=hh.len
 rcases h.fl with e | ⟨g,g1,g2⟩
 ·rw[e];exact v00
 ·rw[g2];exact Hu (by omega)
theorem alh{s:Shard}{p:Pump}{m:Msg}(h:NN A B H f s)(hh:FP C H)(hf:f<=H.length)(hm:UP H f p m)(hB:B<=3000):Oa (s,m):=by
 obtain⟨g,g1,g2⟩:=hm.floor
 have:=hh.len
 refine⟨.inl hm.kd,hm.shard,?_,?_,⟨by have:=hm.ents.1;show m.entries.length<=60;omega,fun e he=>hh.num (hm.ents.2 e he).1⟩,bY h hh hf,by have:=h.len;show s.rows.length<=10000;omega,V4 h hh⟩
 ·show Au m.floor;rw[g2];exact Hu (by omega)
 ·show Au m.ver;rw[hm.ver];exact v00
theorem ali{s:Shard}{nx:Int}{m:Msg}(h:NN A B H f s)(hh:FP C H)(hf:f<=H.length)(hm:PL nx m)(hB:B<=3000):Oa (s,m):=by
 refine⟨.inr hm.kd,hm.shard,?_,?_,?_,bY h hh hf,by have:=h.len;show s.rows.length<=10000;omega,V4 h hh⟩
 ·show Au m.floor;rw[hm.floor];exact v00
 ·show Au m.ver;rw[hm.ver];exact v00
 ·show wX m.entries;rw[hm.ents];exact⟨by simp,fun e he=>by cases he⟩
theorem af0{s:Shard}{p:Pump}{m:Msg}(h:NN A B H f s)(hh:FP C H)(hf:f<=H.length)(hap:∀ e ∈ H.take f,e.write=true->Ap C e)(hC:C.A=A)(hm:UP H f p m) :
  NN (V1 A m.entries) (B+30) H f (xD s m)/\flM s m=PO m 0:=by
 obtain⟨g,g1,g2⟩:=hm.floor
 have h30:=hh.len
 have he:decide (m.epoch=s.fence)=true:=decide_eq_true (by rw[hm.epoch,h.fence])
 unfold xD flM
 rw[he,cond_true,cond_true]
 refine⟨?_,rfl⟩
 obtain⟨j,j1,hv⟩:∃ j,j<=f/\BB s.floor m.floor=v1 (max j g):=by
  rcases h.fl with e | ⟨j,j1,j2⟩
  ·refine⟨0,by omega,?_⟩
   rw[g2,e]
   unfold BB
   rw[adP (by omega),cond_true,Nat.zero_max]
  ·exact⟨j,j1,by rw[g2,j2,VM (by omega) (by omega)]⟩
 have hmx:max j g<=f:=by omega
 have hr0:Qf A (BB s.floor m.floor) s.rows:=h.rw.mono (agu _ _)
 obtain⟨r1,r2⟩:=bW (v:=BB s.floor m.floor) m.entries A s.rows h.a hr0 hm.ents.2 fun e he hvl=>by
  obtain⟨n,n1,n2,n3,n4⟩:=hh.vi (hm.ents.2 e he).1
  rw[hv,n3,Mt (by omega) (by omega)]at hvl
  have hvl:=of_decide_eq_false hvl
  have ht:e ∈ H.take f:=by
   refine List.mem_of_getElem? (i:=n - 1) ?_
   rw[List.getElem?_take,if_pos (by omega)];exact n4
  obtain⟨y,y1,y2⟩:=hap e ht (hm.ents.2 e he).2
  rw[hC]at y1
  exact⟨y,y1,y2⟩
 refine⟨h.fence,.inr ⟨max j g,hmx,hv⟩,aiW r1,r2,?_⟩
 show(Rq (G0 s.rows (BB s.floor m.floor) m.entries) (BB s.floor m.floor)).length<=B+30
 have e1:=List.length_filter_le (stays (BB s.floor m.floor)) (G0 s.rows (BB s.floor m.floor) m.entries)
 have e2:=(VS (v:=BB s.floor m.floor) m.entries s.rows (V4 h hh) fun e he=>hh.num (hm.ents.2 e he).1).1
 have e3:=hm.ents.1
 have e4:=h.len
 unfold Rq
 omega
theorem af1{s:Shard}{d:Md.Desk}{m:Msg}(h:NN A B H f s)(hd:DS C X0 B H f d)(hC:C.A=A)(hm:PL d.next m):VaI H d (jI s m):=by
 have hnow:∀ a ∈ d.asks,a.num=m.num->a.key=m.key->A m.key=LW H m.key:=fun a ha _ hk=>by
  have:=oS (C:=C) hd.h (by rw[hC];exact h.a) hd.ap ((hd.ask a ha).now (fun h=>h))
  rw[hk,hC]at this;exact this
 unfold jI
 cases hf:(Cu s.rows m.key).2 with
 | true=>
  rw[cond_true]
  obtain⟨m1,m2⟩:=Lv hf
  obtain⟨y,y1,y2⟩:=h.rw.row _ m1
  rw[m2]at y1
  have hE:=hd.h.ent y (h.a _ _ y1).1
  rw[y2]
  refine⟨rfl,hm.src,hm.num.2,⟨hm.key,?_⟩,fun a ha h1 h2=>?_⟩
  ·show(bif !y.del then y.val else []).length<=2000
   cases y.del with
   | true=>exact Nat.zero_le _
   | false=>exact hE.val
  ·have hA:=hnow a ha h1 h2
   rw[y1]at hA
   unfold Cl
   show match LW H m.key with | none=>_ | some e=>_
   rw[<- hA]
   show(!y.del)=!y.del/\(y.del=false->(bif !y.del then y.val else [])=y.val)
   exact⟨rfl,fun hd=>by rw[hd];rfl⟩
 | false=>
  rw[cond_false]
  refine⟨rfl,hm.src,hm.num.2,⟨hm.key,Nat.zero_le _⟩,fun a ha h1 h2=>?_⟩
  have hA:=hnow a ha h1 h2
  unfold Cl
  show match LW H m.key with | none=>_ | some e=>_
  rw[<- hA]
  cases hy:A m.key with
  | none=>rfl
  | some y=>
   have hdel:=(h.rw.no m.key y hy (TB.1 hf)).1
   show false=!y.del/\(y.del=false->_)
   rw[hdel]
   exact⟨rfl,fun h=>by cases h⟩
theorem KD.way'{P:Play}(h:KD A B S H f P){l:List Msg}(hl:∀ x ∈ l,x ∈ P.way)(hn:l.length<=P.way.length):KD A B S H f (setW P l):=by
 obtain⟨a,b,c,d,e⟩:=h.sz
 exact⟨h.ds,h.st,fun x hx=>h.way x (hl x hx),h.said,h.log,h.wlog,h.n1,h.n2,h.n3,⟨by show l.length<=S;omega,b,c,d,e⟩⟩
theorem KD.mono{P:Play}{D T:Nat}(h:KD A B S H f P)(hB:B<=D)(hS:S<=T):KD A D T H f P:=⟨h.ds.mono hB,h.st.mono hB,h.way,h.said,h.log,h.wlog,h.n1,h.n2,h.n3,h.sz.mono hS⟩
theorem af2{P:Play}(h:KD A B S H f P)(hw:P.way.length<=100000){m:Msg}(hm:RG A H f P.ops P.d m)(hB:B+30<=3000)(hS:S+7000<=600000):Ru P m /\ ∃ A' H' f',KD A' (B+30) (S+7000) H' f' (KW P m):=by
 have hh:=h.ds.h
 have hf:=h.ds.fl
 have hon:∀ x:Shard × Msg,Lm (oN P x.1) x.2={P with st:=x.1,way:=P.way++[x.2]}:=fun x=>rfl
 have hl1:(P.way++[(LZ (P.st,m)).2]).length=P.way.length+1:=by simp
 obtain⟨s1,s2,s3,s4,s5⟩:=h.sz
 have desk:m.dst=2->jN (P.d,K1,m)->Qb (cx A P.ops P.d) (B+30) H f (OO (P.d,K1,m))->Ru P m /\ ∃ A' H' f',KD A' (B+30) (S+7000) H' f' (KW P m):=by
  intro h2 g1 g2
  obtain⟨n1,H',f',n2⟩:=afZ h hS hB g2
  refine⟨⟨hw,fun h0=>absurd (h2.symm.trans h0) (by decide),fun _=>⟨g1,n1⟩⟩,A,H',f',?_⟩
  unfold KW
  rw[decide_eq_false (show ¬ m.dst=0 by omega),cond_false]
  exact n2
 rcases hm with hm | hm | hm | hm | hm
 ·have ho:=h.ds.ops.op m hm
  obtain⟨a1,a2⟩:=Kx (m:=m) h.ds (.inl hm) (by omega)
  have hk:m.kind ≠ 18:=by rw[ho.kd];decide
  refine desk ho.dst ⟨fun h=>absurd h hk,fun _=>a1⟩ ?_
  unfold OO
  rw[if_neg hk];exact a2
 ·refine⟨⟨hw,fun _=>alh h.st hh hf hm (by omega),fun hne=>absurd hm.dst hne⟩,V1 A m.entries,H,f,?_⟩
  obtain⟨d1,d2⟩:=af0 h.st hh hf h.ds.ap rfl hm
  have hdo:LZ (P.st,m)=(xD P.st m,PO m 0):=by unfold LZ;rw[decide_eq_true hm.kd,cond_true,d2]
  unfold KW
  rw[decide_eq_true hm.dst,cond_true,hdo,hon]
  have hle:=V3 m.entries A
  refine⟨((h.ds.mono (show B<=B+30 by omega)).re (ops':=P.ops) hle ⟨h.ds.ops.op,h.ds.ops.fn⟩ fun q hq=>hq),d1,fun x hx=>?_,fun x hx=>(h.said x hx).ops fun q hq=>hq,h.log,h.wlog,h.n1,h.n2,h.n3,⟨by show(P.way++[_]).length<=_;rw[List.length_append,List.length_singleton];omega,by show P.ops.length<=_;omega,by show P.log.length<=_;omega,by show P.busy.length<=_;omega,by show P.said.length<=_;omega⟩⟩
  rcases List.mem_append.1 (show x ∈ P.way++[PO m 0] from hx)with hx | hx
  ·exact(h.way x hx).leA hle
  ·rw[List.mem_singleton.1 hx]
   refine .inr (.inr (.inr (.inl ⟨rfl,hm.src,rfl,hm.num,fun he e hm'=>?_⟩)))
   rcases hm.now he with h3 | h3
   ·rw[h3]at hm';cases hm'
   ·rw[<- h3]at hm'
    exact bV m.entries A e hm'
 ·refine⟨⟨hw,fun _=>ali h.st hh hf hm (by omega),fun hne=>absurd hm.dst hne⟩,A,H,f,?_⟩
  have hdo:LZ (P.st,m)=(P.st,jI P.st m):=by unfold LZ;rw[decide_eq_false (show ¬ m.kind=15 by rw[hm.kd];decide),cond_false]
  unfold KW
  rw[decide_eq_true hm.dst,cond_true,hdo,hon]
  refine⟨h.ds.mono (by omega),h.st.mono (by omega),fun x hx=>?_,h.said,h.log,h.wlog,h.n1,h.n2,h.n3,⟨by show(P.way++[_]).length<=_;rw[List.length_append,List.length_singleton];omega,by show P.ops.length<=_;omega,by show P.log.length<=_;omega,by show P.busy.length<=_;omega,by show P.said.length<=_;omega⟩⟩
  rcases List.mem_append.1 (show x ∈ P.way++[jI P.st m] from hx)with hx | hx
  ·exact h.way x hx
  ·rw[List.mem_singleton.1 hx]
   exact .inr (.inr (.inr (.inr (af1 h.st h.ds rfl hm))))
 ·obtain⟨a1,a2⟩:=Kx (m:=m) h.ds (.inr ⟨hm.kd,hm.dst,hm.code,hm.num,hm.now⟩) (by omega)
  have hk:m.kind ≠ 18:=by rw[hm.kd];decide
  refine desk hm.dst ⟨fun h=>absurd h hk,fun _=>a1⟩ ?_
  unfold OO
  rw[if_neg hk];exact a2
 ·obtain⟨a1,a2⟩:=abM (m:=m) h.ds hm (by omega)
  refine desk hm.dst ⟨fun _=>a1,fun h=>absurd hm.kd h⟩ ?_
  unfold OO
  rw[if_pos hm.kd];exact a2
structure acb(x:HStp):Prop where
 k:0<=x.k/\x.k<=255
 s:0<=x.s/\x.s<=255
 n:0<=x.n/\x.n<=255
 kind:GL x.o.kind
 key:x.o.key.length<=50
 val:x.o.val.length<=50
 old:x.o.old.length<=50
theorem acd(w num:Int)(m:Msg):∀ l:List Msg,(l.foldl (D1 w num) m ∈ l/\(l.foldl (D1 w num) m).sess=w/\(l.foldl (D1 w num) m).num=num)\/(l.foldl (D1 w num) m=m /\ ∀ q ∈ l,¬ (q.sess=w/\q.num=num)):=by
 intro l
 induction l using M5 with
 | h0=>exact .inr ⟨rfl,fun q hq=>by cases hq⟩
 | h1 l x ih=>
  rw[List.foldl_append]
  show((D1 w num (l.foldl (D1 w num) m) x ∈ l++[x])/\_)\/_
  have e:([x].foldl (D1 w num) (l.foldl (D1 w num) m))=D1 w num (l.foldl (D1 w num) m) x:=rfl
  rw[e]
  unfold D1 ab5 at *
  by_cases hx:x.sess=w/\x.num=num
  ·rw[decide_eq_true hx.1,decide_eq_true hx.2]
   exact .inl ⟨by simp,hx.1,hx.2⟩
  ·have hc:(decide (x.sess=w)&&decide (x.num=num))=false:=by
    cases hd:decide (x.sess=w)&&decide (x.num=num)with
    | false=>rfl
    | true=>
     obtain⟨a,b⟩:=Ad hd
     exact absurd ⟨of_decide_eq_true a,of_decide_eq_true b⟩ hx
   rw[hc,cond_false]
   rcases ih with ⟨i1,i2,i3⟩ | ⟨i1,i2⟩
   ·exact .inl ⟨List.mem_append_left _ i1,i2,i3⟩
   ·refine .inr ⟨i1,fun q hq=>?_⟩
    rcases List.mem_append.1 hq with hq | hq
    ·exact i2 q hq
    ·rw[List.mem_singleton.1 hq];exact hx
theorem TF{w:Int}{num:Int}{s:HStp}(h:acb s)(hw:1<=w/\w<=3)(hn:GL num):iU (DC w num s.o):=by
 refine⟨rfl,?_,rfl,rfl,rfl,hw,hn,⟨Nat.zero_le _,Nat.zero_le _,⟨Nat.zero_le _,fun v hv=>by cases hv⟩,Nat.zero_le _,Nat.zero_le _⟩,h.kind,?_,?_⟩
 ·show IntKind.i64.wrap (100+w)=100+w
  rw[IntKind.wrap_i64];omega
 ·have:=h.key;show s.o.key.length<=2000;omega
 ·have:=h.val;show s.o.val.length<=2000;omega
theorem ace{P:Play}{s:HStp}(h:KD A B S H f P)(hs:acb s):∃ A' H' f',KD A' (B+30) (S+7000) H' f' (UZ P s):=by
 have hb:∃ a b c,HT P s={P with n1:=a,n2:=b,n3:=c}/\GL a/\GL b/\GL c:=by
  unfold HT Ry
  cases decide (s.n=0)with
  | false=>exact⟨P.n1,P.n2,P.n3,rfl,h.n1,h.n2,h.n3⟩
  | true=>
   rw[cond_true]
   split
   ·exact⟨_,P.n2,P.n3,rfl,Tw _,h.n2,h.n3⟩
   ·exact⟨P.n1,_,P.n3,rfl,h.n1,Tw _,h.n3⟩
   ·exact⟨P.n1,P.n2,_,rfl,h.n1,h.n2,Tw _⟩
 obtain⟨a,b,c,hbe,ha,hbb,hc⟩:=hb
 unfold UZ
 have hnum:GL (M9 (HT P s) s):=by
  have hW:GL (PR (HT P s) (wS s)):=by
   rw[hbe]
   unfold PR
   split
   ·exact ha
   ·exact hbb
   ·exact hc
  unfold M9
  have:=hs.n
  cases decide (0<s.n)with
  | false=>exact hW
  | true=>
   cases decide (s.n<PR (HT P s) (wS s))with
   | true=>
    show GL s.n
    exact LN (by omega) (by omega)
   | false=>exact hW
 have hw:1<=((wS s:Nat):Int)/\((wS s:Nat):Int)<=3:=by unfold wS;omega
 have hops:(HT P s).ops=P.ops:=by rw[hbe]
 obtain⟨m,hm⟩:∃ m,bT (HT P s) s=m:=⟨_,rfl⟩
 have hpk:=acd (wS s:Nat) (M9 (HT P s) s) (DC (wS s:Nat) (M9 (HT P s) s) s.o) P.ops
 have hme:m=P.ops.foldl (D1 (wS s:Nat) (M9 (HT P s) s)) (DC (wS s:Nat) (M9 (HT P s) s) s.o):=by rw[<- hm];unfold bT;rw[hops]
 rw[<- hme]at hpk
 have hop:iU m /\ ∀ q ∈ P.ops,q.sess=m.sess->q.num=m.num->q.op=m.op:=by
  rcases hpk with ⟨p1,p2,p3⟩ | ⟨p1,p2⟩
  ·exact⟨h.ds.ops.op m p1,fun q hq h1 h2=>h.ds.ops.fn q hq m p1 h1 h2⟩
  ·rw[p1]
   exact⟨TF hs hw hnum,fun q hq h1 h2=>absurd ⟨h1,h2⟩ (p2 q hq)⟩
 rw[hm]
 obtain⟨o1,o2⟩:=hop
 have hsub:∀ q ∈ P.ops,q ∈ P.ops++[m]:=fun q hq=>List.mem_append_left _ hq
 have hpe:UY (HT P s) m={P with n1:=a,n2:=b,n3:=c,way:=P.way++[m],ops:=P.ops++[m]}:=by rw[hbe];rfl
 rw[hpe]
 obtain⟨s1,s2,s3,s4,s5⟩:=h.sz
 have hO:Mv (cx A (P.ops++[m]) P.d):=by
  refine⟨fun q hq=>?_,fun q hq p hp h1 h2=>?_⟩
  ·rcases List.mem_append.1 (show q ∈ P.ops++[m] from hq)with hq | hq
   ·exact h.ds.ops.op q hq
   ·rw[List.mem_singleton.1 hq];exact o1
  ·rcases List.mem_append.1 (show q ∈ P.ops++[m] from hq)with hq | hq
   ·rcases List.mem_append.1 (show p ∈ P.ops++[m] from hp)with hp | hp
    ·exact h.ds.ops.fn q hq p hp h1 h2
    ·rw[List.mem_singleton.1 hp]at h1 h2 ⊢;exact o2 q hq h1 h2
   ·rw[List.mem_singleton.1 hq]at h1 h2 ⊢
    rcases List.mem_append.1 (show p ∈ P.ops++[m] from hp)with hp | hp
    ·exact(o2 p hp h1.symm h2.symm).symm
    ·rw[List.mem_singleton.1 hp]
 refine⟨A,H,f,(h.ds.mono (show B<=B+30 by omega)).re (OP.refl _) hO hsub,h.st.mono (by omega),fun x hx=>?_,fun x hx=>(h.said x hx).ops hsub,h.log,h.wlog,ha,hbb,hc,⟨by show(P.way++[m]).length<=_;rw[List.length_append,List.length_singleton];omega,by show(P.ops++[m]).length<=_;rw[List.length_append,List.length_singleton];omega,by show P.log.length<=_;omega,by show P.busy.length<=_;omega,by show P.said.length<=_;omega⟩⟩
 rcases List.mem_append.1 (show x ∈ P.way++[m] from hx)with hx | hx
 ·exact(h.way x hx).ops' hsub
 ·rw[List.mem_singleton.1 hx];exact .inl (by simp)
theorem af3{P:Play}{s:HStp}(h:KD A B S H f P)(hs:acb s)(hw:P.way.length<=120)(hB:B+30<=3000)(hS:S+7000<=600000):Sv P s /\ ∃ A' H' f',KD A' (B+30) (S+7000) H' f' (GG P s):=by
 unfold GG
 by_cases hk:kD s<=3
 ·rw[if_pos hk]
  exact⟨⟨fun _=>⟨hs.n,hs.s,by omega,by have:=h.sz.2.1;omega⟩,fun h=>absurd hk h⟩,ace h hs⟩
 rw[if_neg hk]
 have hsz:Xv P S:=h.sz
 have hgive:P.way.length ≠ 0->Ru (setW P (P.way.eraseIdx (jD P s))) (P.way.getD (jD P s) default) /\ ∃ A' H' f',KD A' (B+30) (S+7000) H' f' (KW (setW P (P.way.eraseIdx (jD P s))) (P.way.getD (jD P s) default)):=fun h0=>by
  have hj:jD P s<P.way.length:=Nat.mod_lt _ (by omega)
  have h1:KD A B S H f (setW P (P.way.eraseIdx (jD P s))):=h.way' (fun x hx=>List.mem_of_mem_eraseIdx hx) (List.length_eraseIdx_le _ _)
  exact af2 h1 (by have:=List.length_eraseIdx_le P.way (jD P s);show(P.way.eraseIdx (jD P s)).length<=_;omega) (m:=P.way.getD (jD P s) default) (h.way _ (getD_mem hj)) hB hS
 obtain⟨t1,t2,t3⟩:=aca h (by omega)
 refine⟨⟨fun h=>absurd h hk,fun _=>⟨hs.n,by omega,fun _=>⟨t1,by omega⟩,fun _ _ _ h0=>(hgive h0).1⟩⟩,?_⟩
 unfold X5
 obtain⟨s1,s2,s3,s4,s5⟩:=h.sz
 by_cases h8:kD s=8
 ·rw[if_pos h8]
  refine⟨A,H,f,h.ds.mono (by omega),h.st.mono (by omega),fun x hx=>?_,h.said,h.log,h.wlog,h.n1,h.n2,h.n3,⟨by show(P.way++Ex P.d).length<=_;rw[List.length_append];omega,by show P.ops.length<=_;omega,by show P.log.length<=_;omega,by show P.busy.length<=_;omega,by show P.said.length<=_;omega⟩⟩
  rcases List.mem_append.1 (show x ∈ P.way++Ex P.d from hx)with hx | hx
  ·exact h.way x hx
  ·exact t3 x hx
 rw[if_neg h8]
 by_cases h0:P.way.length=0
 ·rw[if_pos h0];exact⟨A,H,f,h.mono (by omega) (by omega)⟩
 rw[if_neg h0]
 have hj:jD P s<P.way.length:=Nat.mod_lt _ (by omega)
 by_cases h7:kD s=7
 ·rw[if_pos h7]
  refine⟨A,H,f,h.ds.mono (by omega),h.st.mono (by omega),fun x hx=>?_,h.said,h.log,h.wlog,h.n1,h.n2,h.n3,⟨by show(P.way++[_]).length<=_;rw[List.length_append,List.length_singleton];omega,by show P.ops.length<=_;omega,by show P.log.length<=_;omega,by show P.busy.length<=_;omega,by show P.said.length<=_;omega⟩⟩
  rcases List.mem_append.1 (show x ∈ P.way++[P.way.getD (jD P s) default] from hx)with hx | hx
  ·exact h.way x hx
  ·rw[List.mem_singleton.1 hx];exact h.way _ (getD_mem hj)
 rw[if_neg h7]
 by_cases h6:kD s=6
 ·rw[if_pos h6]
  exact⟨A,H,f,(h.way' (fun x hx=>List.mem_of_mem_eraseIdx hx) (List.length_eraseIdx_le _ _)).mono (by omega) (by omega)⟩
 ·rw[if_neg h6];exact(hgive h0).2
end Go.Hd
end
noncomputable section
open Go Go.AM Go.Md
namespace Go.Hd
open Go.Wk
set_option maxRecDepth 100000
variable {C:Ctx} {H:List Entry}
structure PU(x:HStp):Prop where
 k:0<=x.k/\x.k<=255
 s:0<=x.s/\x.s<=255
 n:0<=x.n/\x.n<=255
 kind:GL x.o.kind
def Inv(i:Nat)(P:Play):Prop:=∃ A H f,KD A (500+30*i) (1000+7000*i) H f P
theorem bZ{i:Nat}{P:Play}{s:HStp}(h:Inv i P)(hi:i<80)(hs:PU s)(hc:¬ (50<s.o.key.length\/50<s.o.val.length\/50<s.o.old.length\/120<P.way.length)):Sv P s/\Inv (i+1) (GG P s):=by
 obtain⟨A,H,f,h⟩:=h
 obtain⟨a,A',H',f',b⟩:=af3 (s:=s) h ⟨hs.k,hs.s,hs.n,hs.kind,by omega,by omega,by omega⟩ (by omega) (by omega) (by omega)
 exact⟨a,A',H',f',b.mono (by omega) (by omega)⟩
end Go.Hd
end
noncomputable section
open Go Go.AM Go.Md
namespace Go.Hd
open Go.Wk
set_option maxRecDepth 100000
set_option maxHeartbeats 400000
def eBg(l:List Known):Env:=BU [] [(Dd,0),(Pd,0),(J3,0),(Ha,0),(Bi,0),(Hb,0),(Dc,0),(J4,0)] [] l
def ami:List Known:=[ade,N8]
def me:Member:=⟨2,1⟩
def mAct:Msg:={(default:Msg)with kind:=10,dst:=2,boot:=1,epoch:=1,fresh:=true,chain:=[me]}
def adQ(K:Int × Member->Option AV):Option AV:=gC (fun a=>(Ar a 0,Ca (AA a 1))) (fun _=>True) eNw [.int .i64 0,.agg (A6 me)] K
def acf:List AV:=(LR mAct).set 24 (.trl 2 [A6 me])
theorem alj:Am (eBg ami) 9 Dd []=adQ fun y=>gC Rm E4 Ku [.agg (AP (Z0 y)),.agg (CG K1),.agg acf] fun p=>some (.agg (AP (DZ p).d)):=by kernel_rfl
def dB:Md.Desk:=Z0 (0,me)
theorem jT(d:Md.Desk)(k:Conf):¬ IC (d,k,mAct):=fun h=>absurd (show(10:Int)=5 from h.kd) (by decide)
def wB:Wrk:=Fe IA (BY dB K1) mAct
theorem aiX:wB.d.rep=CQ [] 0:=by kernel_rfl
theorem amj:wB.c=K1:=by kernel_rfl
theorem xW:wB.out=[]:=by kernel_rfl
theorem V5:wB.d.asks=[]:=by kernel_rfl
theorem acg:wB.d.waits=[]:=by kernel_rfl
theorem ach:wB.d.clean=[]:=by kernel_rfl
theorem V6:wB.d.pump.num=0/\wB.d.pump.out=[]/\wB.d.pump.done=[]:=⟨by kernel_rfl,by kernel_rfl,by kernel_rfl⟩
theorem jU:wB.d.next=0:=by kernel_rfl
theorem jV:wB.just.key=[]/\wB.just.val=[]:=⟨by kernel_rfl,by kernel_rfl⟩
theorem alk{C:Ctx}(ho:Mv C)(hn:C.n0<=0)(hp:C.p0=wB.d.pump):WS C X0 0 [] 0 wB where
 c:=amj
 out:=by rw[xW];exact Nat.le_refl _
 said:=fun x hx=>by rw[xW]at hx;cases hx
 just:=by rw[jV.1,jV.2];exact⟨Nat.zero_le _,Nat.zero_le _⟩
 d:={
  ops:=ho
  h:=FP.nil C
  rep:=aiX
  fl:=Nat.le_refl _
  log:=Nat.zero_le _
  ap:=fun e he=>by cases he
  pnum:=by rw[V6.1];exact⟨Int.le_refl _,Int.le_refl _⟩
  pout:=by rw[V6.2.1];exact⟨Nat.zero_le _,fun e he=>by cases he⟩
  pdone:=by rw[V6.2.2];exact⟨Nat.zero_le _,fun e he=>by cases he⟩
  clean:=by rw[ach];exact⟨Nat.zero_le _,fun e he=>by cases he⟩
  waits:=by rw[acg];exact⟨Nat.zero_le _,fun e he=>by cases he⟩
  asks:=by rw[V5];exact Nat.zero_le _
  keys:=by rw[V5];exact .nil
  ask:=fun a ha=>by rw[V5]at ha;cases ha
  next:=by rw[jU];exact⟨Int.le_refl _,Int.le_refl _⟩
  n0:=by rw[jU];exact hn
  pu:=by rw[hp];exact SV.refl _}
def D0:Md.Desk:=(Kw IA (dB,K1,mAct)).d
theorem oT{C:Ctx}(ho:Mv C)(hn:C.n0<=0)(hp:C.p0=wB.d.pump):Jz wB mAct/\DS C X0 8 [] 0 D0:=by
 have hw:=alk ho hn hp
 obtain⟨a,f',b,c⟩:=Xu mAct hw (by omega)
 have hf:f'=0:=by
  have h:=c.d.fl
  exact Nat.le_zero.1 h
 subst hf
 refine⟨a,?_⟩
 have e:D0=(GZ wB mAct).d:=by
  show(Kv wB mAct).d=_
  unfold Kv
  rw[hw.d.head,cond_true]
 rw[e];exact c.d
theorem af4:KN dB.rep mAct=CQ [] 0:=by kernel_rfl
theorem af5:(GC dB.rep mAct).2=[]:=by kernel_rfl
theorem alm:MY dB:=⟨⟨Nat.zero_le _,Nat.zero_le _,Nat.zero_le _,Nat.zero_le _⟩,Nat.zero_le _,Nat.zero_le _,Nat.zero_le _,Nat.zero_le _,Nat.zero_le _,fun a ha=>by cases ha⟩
theorem aiY:VH (BY dB K1) mAct:=by
 refine⟨⟨⟨Nat.zero_le _,Nat.zero_le _,Nat.zero_le _,Nat.zero_le _⟩,.inr ⟨rfl,by decide,by decide,me,rfl,fun _=>?_⟩⟩,Nat.zero_le _,?_⟩
 ·show Gc (KN dB.rep mAct)
  rw[af4]
  exact VN (FP.nil (⟨[],fun _=>none,0,fun _ _=>False,wB.d.pump⟩:Ctx)) 0
 ·show(GC dB.rep mAct).2.length<=100000
  rw[af5];exact Nat.zero_le _
theorem aci:E4 (dB,K1,mAct):=by
 have h1:Rn IA (BY dB K1) mAct:=⟨.inr (.inr (.inl rfl)),fun h=>absurd (show(10:Int)=5 from h) (by decide),fun h=>absurd (show(10:Int)=16 from h) (by decide),fun _=>aiY⟩
 refine⟨fun h=>absurd h (jT dB K1),fun _=>⟨alm,h1,fun _=>?_⟩⟩
 exact(oT (C:=⟨[],fun _=>none,0,fun _ _=>False,wB.d.pump⟩) ⟨fun q hq=>(by cases hq),fun q hq=>(by cases hq)⟩ (Int.le_refl _) rfl).1
theorem acj:Cg acf (Ac mAct):=by
 refine Ei ?_
 repeat' (first | exact trivial | exact Df | exact AR.trl_of (e:=A6) [me] rfl | exact AR.refl _ | refine⟨?_,?_⟩)
theorem xX:Aa PG Dd [] [] (.agg (AP D0)) []:=by
 have q1:∀ {K:Int × Member->Option AV},adQ K=K (0,me):=fun {K}=>Aw ((0,me):Int × Member) rfl trivial (.refl _)
 have q2:∀ {K:DCM->Option AV},gC Rm E4 Ku [.agg (AP (Z0 (0,me))),.agg (CG K1),.agg acf] K=K (dB,K1,mAct):=fun {K}=>Aw (dB,K1,mAct) (by kernel_rfl) aci (.cons (.refl _) (.cons (.refl _) (.cons (.agg acj) .nil)))
 have e:=alj
 rw[q1,q2]at e
 have hh:DZ (dB,K1,mAct)=Kw IA (dB,K1,mAct):=by unfold DZ;rw[if_neg (jT dB K1)]
 rw[hh]at e
 exact BQ (ak aaY (ak OJ AL)) e
def oU(d:Md.Desk):Known:=.one Dd [] (.agg (AP d))
theorem cB:(oU D0).Ok PG:=Known.one_ok xX
def P0:Play:=⟨D0,⟨1,⟨0,0⟩,[]⟩,[],0,0,0,[],[],[],[]⟩
theorem aiZ:Inv 0 P0:=by
 have hz:Mv (⟨[],fun _=>none,0,fun _ _=>False,wB.d.pump⟩:Ctx):=⟨fun q hq=>(by cases hq),fun q hq=>(by cases hq)⟩
 have h:=((oT hz (Int.le_refl _) rfl).2.mono (show 8<=500+30*0 by omega)).re (A':=fun _=>none) (ops':=[]) (fun k y hy=>by cases hy) ⟨fun q hq=>(by cases hq),fun q hq=>(by cases hq)⟩ (fun q hq=>hq)
 exact⟨fun _=>none,[],0,h,⟨rfl,.inl rfl,⟨.nil,fun x hx=>(by cases hx),fun k y hy=>(by cases hy)⟩,fun k y hy=>(by cases hy),Nat.zero_le _⟩,fun x hx=>(by cases hx),fun x hx=>(by cases hx),fun x hx=>(by cases hx),fun x hx=>(by cases hx),LN (by decide) (by decide),LN (by decide) (by decide),LN (by decide) (by decide),⟨Nat.zero_le _,Nat.zero_le _,Nat.zero_le _,Nat.zero_le _,Nat.zero_le _⟩⟩
def cC(l:List Known):Env:=BU [] [(Dd,0),(Qg,5),(DP,5)] [(C6,2,[31001024,31001029,11001030,1001031,31001032])] l
def Ja(l:List Known)(x:Code)(K:AX->St->Option St)(s:St):Option St:=PV (cC l) (D2 (cC l) 9) C6 65 9 0 0 x K s
def RI:Code:=CM (cC []) C6
def cL0:Code:=sub RI [.L]
def xY:Code:=sub RI [.R,.L]
def jW:Code:=sub RI [.R,.R,.L]
def SX:Code:=sub RI [.R,.R,.R,.L]
def U1:Code:=sub RI [.R,.R,.R,.R,.L,.L]
def JO:Code:=sub RI [.R,.R,.R,.R,.L,.R,.L,.lp 0]
def RJ:Code:=sub RI [.R,.R,.R,.R,.R]
def V7:Code:=sub JO [.L]
def V8:Code:=sub JO [.R,.L,.L,.L]
def oV:Code:=sub JO [.R,.L,.L,.R]
def oW:Code:=sub JO [.R,.R]
theorem U2:RI=.seq cL0 (.seq xY (.seq jW (.seq SX (.seq (.seq U1 (.block 0 (.loop JO))) RJ)))):=by kernel_rfl
theorem cD:JO=.seq V7 (.seq (.block 1 (.seq V8 oV)) oW):=by kernel_rfl
def GH(l:List HStp):AV:=C5 8 KX default l
def zSt:List AV:=[.int .i64 0,.cplx .f64 0 0,.nils]
def Jb:List AV:=[.int .i64 1,.cplx .f64 0 0,.nils]
def SL0(l:List HStp):St:={fr:=[(0,GH l),(2,.ptr 0 0 0)],hp:=[.arr true 33 [OM]]}
def bPl(d:Md.Desk)(a:AV):List AV:=AP d++[a,.nils,.int .i64 0,.int .i64 0,.int .i64 0,.int .i64 0,.nils,.nils,.nils,.nils]
def RL(d:Md.Desk)(a:AV)(k:Nat):List AV:=AP d++[a,.sn 31 k 0,.int .i64 0,.int .i64 0,.int .i64 0,.int .i64 0,.sn 31 (k+1) 0,.sn 11 (k+2) 0,.sn 1 (k+3) 0,.sn 31 (k+4) 0]
def SL1(d:Md.Desk)(l:List HStp):St:={fr:=[(0,GH l),(2,.ptr 0 0 0),(4,.ptr 1 0 0)],hp:=[.arr true 33 [OM],.arr true 33 [bPl d (.sl 3 2 0 1 1)],.arr true 3 [zSt]]}
def V9:Heap:=[.seq true 31 0 fun _=>[],.seq true 31 0 fun _=>[],.seq true 11 0 fun _=>[],.seq true 1 0 fun _=>[],.seq true 31 0 fun _=>[]]
def SL2(d:Md.Desk)(l:List HStp):St:={fr:=[(0,GH l),(2,.ptr 0 0 0),(4,.ptr 1 0 0)],hp:=.arr true 33 [OM] :: .arr true 33 [RL d (.sl 3 2 0 1 1) 3] :: .arr true 3 [Jb]::V9}
def jX(d:Md.Desk)(l:List HStp):St:={fr:=[(0,GH l),(2,.ptr 0 0 0),(4,.ptr 1 0 0)],hp:=.arr true 33 [OM] :: .arr true 33 [RL d (.trl 3 [Jb]) 3] :: .arr false 3 [Jb]::V9}
def SL4(d:Md.Desk)(l:List HStp):St:={fr:=[(0,GH l),(2,.ptr 0 0 0),(4,.ptr 1 0 0)],hp:=.arr true 33 [OM] :: .arr true 33 [RL d (.trl 3 [Jb]) 2]::V9}
def TL4(d:Md.Desk)(b:Bool):St:={fr:=[(2,.ptr 0 0 0),(3,.bool b)],hp:=.arr true 33 [RL d (.trl 3 [Jb]) 1]::V9}
def SL5(d:Md.Desk)(l:List HStp):St:={fr:=[(0,GH l),(2,.ptr 0 0 0),(4,.ptr 1 0 0),(5,.int .i64 0)],hp:=.arr true 33 [OM] :: .arr true 33 [RL d (.trl 3 [Jb]) 2]::V9}
theorem amk(l:List HStp):Ja [] cL0 (Cm .normal (norm 0 [0,2])) {fr:=Ce 0 [GH l],hp:=[]}=some (SL0 l):=by kernel_rfl
theorem aml(d:Md.Desk)(l:List HStp):Ja [oU d] xY (Cm .normal (norm 0 [0,2,4])) (SL0 l)=gC (fun _=>()) (fun _=>True) (fun _=>[]) [] fun _=>some (SL1 d l):=by kernel_rfl
theorem amm(d:Md.Desk)(l:List HStp):Ja [] jW (Cm .normal (norm 0 [0,2,4])) (SL1 d l)=some (SL2 d l):=by kernel_rfl
theorem amn(d:Md.Desk)(l:List HStp):Ja [] SX (Cm .normal (norm 0 [0,2,4])) (jX d l)=bif decide (80<(l.length:Int))then none else some (SL4 d l):=by kernel_rfl
theorem aln(d:Md.Desk)(l:List HStp):Ja [] SX (Cm .ret (norm 0 [2,3])) (jX d l)=bif decide (80<(l.length:Int))then some (TL4 d false)else none:=by kernel_rfl
theorem amo(d:Md.Desk)(l:List HStp):Ja [] U1 (Cm .normal (norm 0 [0,2,4,5])) (SL4 d l)=some (SL5 d l):=by kernel_rfl
def C7(P:Play)(l:List HStp)(i:Int):St:={fr:=[(0,GH l),(2,.ptr 0 0 0),(4,.ptr 1 0 0),(5,.int .i64 i)],hp:=.arr true 33 [OM] :: .arr true 33 [Ff 2 P]::HS P}
def TA(P:Play)(b:Bool):St:={fr:=[(2,.ptr 0 0 0),(3,.bool b)],hp:=.arr true 33 [Ff 1 P]::HS P}
theorem ai0(P:Play)(l:List HStp)(i:Int):Ja [] V7 (Cm .normal (norm 0 [0,2,4,5])) (C7 P l i)=bif decide (i<(l.length:Int))then some (C7 P l i)else none:=by kernel_rfl
theorem amp(P:Play)(l:List HStp)(i:Int):Ja [] V7 (Cm (.exit 0) (MZ [0,2,4,5])) (C7 P l i)=bif decide (i<(l.length:Int))then none else some (C7 P l i):=by kernel_rfl
def jY(P:Play)(l:List HStp)(i:Int)(X Y:Option St):Option St:=
 rg i l.length (bif decide (50<((l.getD i.toNat default).o.key.length:Int))then X else rg i l.length (bif decide (50<((l.getD i.toNat default).o.val.length:Int))then X else rg i l.length (bif decide (50<((l.getD i.toNat default).o.old.length:Int))then X else bif decide (120<(P.way.length:Int))then X else Y)))
theorem amq(P:Play)(l:List HStp)(i:Int):Ja [] V8 (Cm .normal (norm 0 [0,2,4,5])) (C7 P l i)=jY P l i none (some (C7 P l i)):=by kernel_rfl
theorem alo(P:Play)(l:List HStp)(i:Int):Ja [] V8 (Cm .ret (norm 0 [2,3])) (C7 P l i)=jY P l i (some (TA P false)) none:=by kernel_rfl
def ai1(P:Play)(s:HStp)(K:Option St):Option St:=BF (fun _ _=>()) (fun _=>Sv P s) (fun _=>RA P s) [.agg (Ff 0 P),.agg (KX s)] (HS P) fun _=>K
theorem amr(P:Play)(s:HStp)(l:List HStp)(i:Int):Ja [aiU P (l.getD i.toNat default)] oV (Cm .normal (norm 0 [0,2,4,5])) (C7 P l i)=rg i l.length (ai1 P (l.getD i.toNat default) (some (C7 (GG P (l.getD i.toNat default)) l i))):=by kernel_rfl
theorem ams(P:Play)(l:List HStp)(i:Int):Ja [] oW (Cm .normal (norm 0 [0,2,4,5])) (C7 P l i)=some (C7 P l (IntKind.i64.wrap (i+1))):=by kernel_rfl
theorem alp(P:Play)(l:List HStp)(i:Int):Ja [] RJ (Cm .ret (norm 0 [2,3])) (C7 P l i)=some (TA P true):=by kernel_rfl
def U3(P:Play):List AV:=Rr P (AG P.way) (AG P.ops) (Ae P.log) (C5 1 Hz default P.busy) (AG P.said)
def ack(P:Play)(b:Bool):AV:=.tup [.agg (U3 P),.bool b]
def oX(P:Play)(b:Bool):AV × Heap:=(.tup [.agg (Ff 0 P),.bool b],HS P)
theorem ai2(P:Play)(b:Bool):Ef (cC []).tt (TA P b) [.cell 2 49,.tmp 3] (fun vs=>Cr 0 0 (F0 vs) (TA P b).hp)=some (oX P b):=by kernel_rfl
def adR(P:Play)(v:AV):Option AV:=bif(P.way.length.ble P.way.length&&(P.ops.length.ble P.ops.length&&(P.log.length.ble P.log.length&&(P.busy.length.ble P.busy.length&&(P.said.length.ble P.said.length&&true)))))&&true then some v else none
theorem alq(P:Play)(b:Bool):Bp (oX P b).1 (oX P b).2=adR P (ack P b):=by kernel_rfl
abbrev FE(c:Code)(s:St)(e:AX)(s':St):Prop:=Az (fun Q=>c.wp PG Q) 65 0 s e s'
theorem U4{l:List Known}(h:∀ k ∈ l,k.Ok PG):C2 PG (cC l):=Fo h
theorem oY{l:List Known}(h:∀ k ∈ l,k.Ok PG):Ew PG (D2 (R:=St) (cC l) 9):=K5 (U4 h) Dm mixed 9
theorem SY{l:List Known}(h:∀ k ∈ l,k.Ok PG){c:Code}{L:List Nat}{s s':St}(hok:Ak c=true)(e:Ja l c (Cm .normal (norm 0 L)) s=some s'):FE c s .normal s':=Gl (U4 h) (oY h) mixed hok e
theorem laR{l:List Known}(h:∀ k ∈ l,k.Ok PG){c:Code}{L:List Nat}{s s':St}(hok:Ak c=true)(e:Ja l c (Cm .ret (norm 0 L)) s=some s'):FE c s .ret s':=bI (U4 h) (oY h) mixed hok e
theorem laX{l:List Known}(h:∀ k ∈ l,k.Ok PG){c:Code}{L:List Nat}{s s':St}(hok:Ak c=true)(e:Ja l c (Cm (.exit 0) (MZ L)) s=some s'):FE c s (.exit 0) s':=E3 (e0:=.exit 0) (U4 h) (oY h) mixed hok e
theorem okL:Ak RI=true:=by kernel_rfl
def Fg(l:List HStp):Nat->Play
 | 0=>P0
 | i+1=>GG (Fg l i) (l.getD i default)
def TG(P:Play)(s:HStp):Prop:=50<s.o.key.length\/50<s.o.val.length\/50<s.o.old.length\/120<P.way.length
theorem XB(p:Nat->Prop):∀ n:Nat,∃ j,j<=n/\(∀ i,i<j -> ¬ p i)/\(j=n\/p j)
 | 0=>⟨0,Nat.le_refl _,fun i hi=>absurd hi (Nat.not_lt_zero i),.inl rfl⟩
 | n+1=>by
  obtain⟨j,j1,j2,j3⟩:=XB p n
  by_cases hp:p j
  ·exact⟨j,by omega,j2,.inr hp⟩
  ·rcases j3 with rfl | j3
   ·exact⟨j+1,by omega,fun i hi=>by
     rcases Nat.lt_succ_iff_lt_or_eq.1 hi with h | rfl
     ·exact j2 i h
     ·exact hp,.inl rfl⟩
   ·exact absurd j3 hp
theorem ai3{P:Play}{l:List HStp}{i:Nat}(hi:i<l.length)(h:¬ TG P (l.getD i default))(X Y:Option St):jY P l (i:Int) X Y=Y:=by
 unfold jY
 unfold TG at h
 rw[Bq hi,Bq hi,Bq hi,Int.toNat_natCast,decide_eq_false (by omega),decide_eq_false (by omega),decide_eq_false (by omega),decide_eq_false (by omega)];rfl
theorem af6{P:Play}{l:List HStp}{i:Nat}(hi:i<l.length)(h:TG P (l.getD i default))(X Y:Option St):jY P l (i:Int) X Y=X:=by
 unfold jY
 unfold TG at h
 rw[Bq hi,Bq hi,Bq hi,Int.toNat_natCast]
 by_cases h1:50<(l.getD i default).o.key.length
 ·rw[decide_eq_true (by omega)];rfl
 rw[decide_eq_false (by omega),cond_false]
 by_cases h2:50<(l.getD i default).o.val.length
 ·rw[decide_eq_true (by omega)];rfl
 rw[decide_eq_false (by omega),cond_false]
 by_cases h3:50<(l.getD i default).o.old.length
 ·rw[decide_eq_true (by omega)];rfl
 rw[decide_eq_false (by omega),cond_false,decide_eq_true (by omega)];rfl
theorem okW:Ak V7=true/\Ak V8=true/\Ak oV=true/\Ak oW=true:=⟨by kernel_rfl,by kernel_rfl,by kernel_rfl,by kernel_rfl⟩
theorem acm{P:Play}{l:List HStp}{i:Nat}(hi:i<l.length)(hl:l.length<=80)(hb:¬ TG P (l.getD i default))(hd:Sv P (l.getD i default)):FE JO (C7 P l (i:Nat)) .normal (C7 (GG P (l.getD i default)) l ((i+1:Nat):Int)):=by
 obtain⟨kp,kc,kd,ki⟩:=okW
 have hw:IntKind.i64.wrap ((i:Int)+1)=((i+1:Nat):Int):=Bz (by omega)
 have Lp:FE V7 (C7 P l (i:Nat)) .normal (C7 P l (i:Nat)):=SY AL kp ((ai0 P l _).trans (by rw[decide_eq_true (by omega)];rfl))
 have Lc:FE V8 (C7 P l (i:Nat)) .normal (C7 P l (i:Nat)):=SY AL kc ((amq P l _).trans (ai3 hi hb _ _))
 have q:∀ {K:Option St},ai1 P (l.getD i default) K=K:=fun {K}=>BT () rfl hd (.refl _) (.refl _)
 have Ld:FE oV (C7 P l (i:Nat)) .normal (C7 (GG P (l.getD i default)) l (i:Nat)):=SY (ak (afW _ _) AL) kd (by
  have e:=amr P default l (i:Nat)
  rw[Int.toNat_natCast,Bq hi,q]at e
  exact e)
 have Li:FE oW (C7 (GG P (l.getD i default)) l (i:Nat)) .normal (C7 (GG P (l.getD i default)) l ((i+1:Nat):Int)):=SY AL ki ((ams _ l _).trans (by rw[hw]))
 rw[cD]
 exact Lp.seq ((Az.block_n (Lc.seq Ld)).seq Li)
theorem ai4:AR (.trl 3 [Jb]) (Hj ⟨1,⟨0,0⟩,[]⟩):=by
 have h1:AR (.trl 3 [Jb]) (C5 3 id Jb [Jb]):=AR.trl_of (e:=id) [Jb] (by simp)
 have h2:AR (C5 3 id Jb [Jb]) (Hj ⟨1,⟨0,0⟩,[]⟩):=AR.trs fun i hi=>by
  have hi:i<1:=hi
  have:i=0:=by omega
  subst this
  exact Ei ⟨.refl _,.refl _,Df,trivial⟩
 exact fun w I u h=>h2 w I u (h1 w I u h)
theorem af7(k:Nat):DB (RL D0 (.trl 3 [Jb]) k) (Ff k P0):=Rz (.cons (D4.of ai4 rfl) (.refl _)) (AP D0)
theorem cE:HSub V9 (HS P0):=by
 have z:∀ {n:Nat} {F:Nat->List AV},Gx (.seq true n 0 fun _=>[]) (.seq true n 0 F):=fun {n F}=>.seq true n 0 0 _ _ (Nat.le_refl _) fun i hi=>absurd hi (Nat.not_lt_zero i)
 exact .cons z (.cons z (.cons z (.cons z (.cons z .nil))))
theorem cF(k:Nat):Gx (.arr true 33 [RL D0 (.trl 3 [Jb]) k]) (.arr true 33 [Ff k P0]):=.arr _ _ _ _ rfl fun i cs cs' e e'=>by
 cases i with
 | zero=>
  simp only[List.getElem?_cons_zero,Option.some.injEq]at e e'
  subst e e'
  exact af7 k
 | succ i=>simp at e
theorem xZ(l:List HStp)(hl:∀ s ∈ l,PU s):∃ P b j,j<=80/\Inv j P/\FE RI {fr:=Ce 0 [GH l],hp:=[]} .ret (TA P b):=by
 have ok:=okL
 rw[U2]at ok
 obtain⟨k0,ok⟩:=Ad (show(Ak cL0&&Ak (.seq xY (.seq jW (.seq SX (.seq (.seq U1 (.block 0 (.loop JO))) RJ)))))=true from ok)
 obtain⟨k1,ok⟩:=Ad (show(Ak xY&&Ak (.seq jW (.seq SX (.seq (.seq U1 (.block 0 (.loop JO))) RJ))))=true from ok)
 obtain⟨k2,ok⟩:=Ad (show(Ak jW&&Ak (.seq SX (.seq (.seq U1 (.block 0 (.loop JO))) RJ)))=true from ok)
 obtain⟨k3,ok⟩:=Ad (show(Ak SX&&Ak (.seq (.seq U1 (.block 0 (.loop JO))) RJ))=true from ok)
 obtain⟨ok,k11⟩:=Ad (show(Ak (.seq U1 (.block 0 (.loop JO)))&&Ak RJ)=true from ok)
 obtain⟨k5,kw⟩:=Ad (show(Ak U1&&Ak JO)=true from ok)
 have L0:=SY AL k0 (amk l)
 have L1:FE xY (SL0 l) .normal (SL1 D0 l):=SY (ak cB AL) k1 ((aml D0 l).trans (Aw () rfl trivial (.refl _)))
 have L2:=SY AL k2 (amm D0 l)
 have L2':FE jW (SL1 D0 l) .normal (jX D0 l):=Az.frzC L2 (b:=1) (j:=23) (sz:=33) (cs:=RL D0 (.sl 3 2 0 1 1) 3) (m:=true) (c:=.sl 3 2 0 1 1) (v:=.trl 3 [Jb]) (l:=[2]) rfl rfl rfl rfl
 by_cases h80:80<l.length
 ·have L3:FE SX (jX D0 l) .ret (TL4 D0 false):=laR AL k3 ((aln D0 l).trans (by rw[decide_eq_true (by omega)];rfl))
  have L3':FE SX (jX D0 l) .ret (TA P0 false):=L3.hsub (.cons (cF 1) cE)
  refine⟨P0,false,0,by omega,aiZ,?_⟩
  rw[U2]
  exact L0.seq (L1.seq (L2'.seq (Az.seq_ret L3')))
 ·have L3:FE SX (jX D0 l) .normal (SL4 D0 l):=SY AL k3 ((amn D0 l).trans (by rw[decide_eq_false (by omega)];rfl))
  have L5:FE U1 (SL4 D0 l) .normal (C7 P0 l ((0:Nat):Int)):=(SY AL k5 (amo D0 l)).hsub (.cons (.refl _) (.cons (cF 2) cE))
  obtain⟨j,j1,j2,j3⟩:=XB (fun i=>TG (Fg l i) (l.getD i default)) l.length
  have hinv:∀ i,i<=j->Inv i (Fg l i):=by
   intro i
   induction i with
   | zero=>exact fun _=>aiZ
   | succ i ih=>exact fun hi=>(bZ (ih (by omega)) (by omega) (hl _ (getD_mem (by omega))) (j2 i (by omega))).2
  have hst:∀ i,i<j->FE JO (C7 (Fg l i) l (i:Nat)) .normal (C7 (Fg l (i+1)) l ((i+1:Nat):Int)):=fun i hi=>
   acm (by omega) (by omega) (j2 i hi) (bZ (hinv i (by omega)) (by omega) (hl _ (getD_mem (by omega))) (j2 i hi)).1
  obtain⟨kp,kc,kd,ki⟩:=okW
  by_cases hj:j=l.length
  ·refine⟨Fg l j,true,j,by omega,hinv j (Nat.le_refl _),?_⟩
   have Lx:FE JO (C7 (Fg l j) l (j:Nat)) (.exit 0) (C7 (Fg l j) l (j:Nat)):=by
    rw[cD]
    exact Az.seq_exit (laX AL kp ((amp _ l _).trans (by rw[decide_eq_false (by omega)];rfl)))
   have LL:FE (.loop JO) (C7 (Fg l 0) l ((0:Nat):Int)) (.exit 0) (C7 (Fg l j) l (j:Nat)):=
    Az.loop (P:=PG) (nt:=65) (base:=0) (x:=JO) (e0:=.exit 0) (by simp) (n:=j) (fun i=>C7 (Fg l i) l (i:Nat)) hst Lx
   have L11:FE RJ (C7 (Fg l j) l (j:Nat)) .ret (TA (Fg l j) true):=laR AL k11 (alp _ l _)
   rw[U2]
   exact L0.seq (L1.seq (L2'.seq (L3.seq ((L5.seq LL.block).seq L11))))
  ·have hb:TG (Fg l j) (l.getD j default):=j3.resolve_left hj
   have hjl:j<l.length:=by omega
   refine⟨Fg l j,false,j,by omega,hinv j (Nat.le_refl _),?_⟩
   have Lp:FE V7 (C7 (Fg l j) l (j:Nat)) .normal (C7 (Fg l j) l (j:Nat)):=SY AL kp ((ai0 _ l _).trans (by rw[decide_eq_true (by omega)];rfl))
   have Lc:FE V8 (C7 (Fg l j) l (j:Nat)) .ret (TA (Fg l j) false):=laR AL kc ((alo _ l _).trans (af6 hjl hb _ _))
   have Lx:FE JO (C7 (Fg l j) l (j:Nat)) .ret (TA (Fg l j) false):=by
    rw[cD]
    exact Lp.seq (Az.seq_ret (Az.block_ret (Az.seq_ret Lc)))
   have LL:FE (.loop JO) (C7 (Fg l 0) l ((0:Nat):Int)) .ret (TA (Fg l j) false):=
    Az.loop (P:=PG) (nt:=65) (base:=0) (x:=JO) (e0:=.ret) (by simp) (n:=j) (fun i=>C7 (Fg l i) l (i:Nat)) hst Lx
   rw[U2]
   exact L0.seq (L1.seq (L2'.seq (L3.seq (Az.seq_ret (L5.seq (Az.block_ret LL))))))
theorem af8(l:List HStp)(hl:∀ s ∈ l,PU s):∃ P b j,j<=80/\Inv j P/\Aa PG C6 [GH l] [] (ack P b) []:=by
 obtain⟨P,b,j,h1,h2,h3⟩:=xZ l hl
 refine⟨P,b,j,h1,h2,?_⟩
 obtain⟨fn,hf,hb,hnt,hres⟩:∃ fn,(cC []).code C6=some fn/\fn.body=some RI/\fn.ntmps=65/\fn.results.toList=[.cell 2 49,.tmp 3]:=⟨_,rfl,by kernel_rfl,by kernel_rfl,by kernel_rfl⟩
 have c:=(GX (args:=[GH l]) (hp:=[]) (U4 AL) Dm hf hb (.inr rfl) (by rw[hnt];exact h3) (c0:=0) (Nat.zero_le _) (by rw[hres];exact ai2 P b)).1
 refine c.snapped ((alq P b).trans ?_)
 unfold adR
 simp only[Aq (Nat.le_refl _),Bool.and_true,cond_true]
def eAk(l:List Known):Env:=BU [] [(Dc,0),(Dd,0),(Bi,0),(Ha,0),(Hb,0),(J4,0)] [] l
def amt(d:Md.Desk):List Known:=[oU d,N8,lH]
def cA1:Msg:=DC 1 1 ⟨2,[97],[120],[],false⟩
def cA2:Msg:=DC 2 1 ⟨1,[97],[],[],false⟩
def mFd:Msg:={(default:Msg)with kind:=16,dst:=2,boot:=1,epoch:=1,num:=1}
def XC(a b:Ver):Bool:=DE .f64 a.re b.re&&DE .f64 a.im b.im
def KE:Option AV:=some (.bool false)
def gH(d:Md.Desk)(m:Msg)(K:DCM->Option AV):Option AV:=gC Rm E4 Ku [.agg (AP d),.agg (CG K1),.agg (LR m)] K
def ak1(l:List Msg)(K:Option AV):Option AV:=
 bif !decide ((l.length:Int)=2)then KE else rg 0 l.length (bif !decide ((l.getD 0 default).kind=6)then KE else rg 0 l.length (bif !decide ((l.getD 0 default).code=0)then KE else
 rg 1 l.length (bif !decide ((l.getD 1 default).kind=15)then KE else rg 1 l.length (bif !decide (((l.getD 1 default).entries.length:Int)=1)then KE else K))))
def gMk(K:Nat × Nat->Option AV):Option AV:=gC dI2 pI2 eI2 [.int .i64 1,.int .i64 2] K
def ak3(m:List Msg)(d:Md.Desk)(n:List Msg):Option AV:=
 bif decide ((m.length:Int)=0)then bif decide ((d.clean.length:Int)=1)then bif decide ((d.rep.tail.log.length:Int)=0)then bif decide ((n.length:Int)=1)then
  rg 0 n.length (bif Ah (n.getD 0 default).val [120]then rg 0 n.length (bif(n.getD 0 default).has then rg 0 n.length (gMk fun p=>some (.bool (XC (n.getD 0 default).ver (vr p.1 p.2))))else KE)else KE)else KE else KE else KE else KE
theorem alr(d:Md.Desk):Am (eAk (amt d)) 9 Dc []=gC (fun _=>()) (fun _=>True) (fun _=>[]) [] fun _=>gH d cA1 fun p1=>ak1 (DZ p1).out (gH (DZ p1).d mFd fun p2=>gH (DZ p2).d cA2 fun p3=>ak3 (DZ p2).out (DZ p2).d (DZ p3).out):=by kernel_rfl
theorem acn{v:Ver}(h:Au v):XC v v=true:=by
 obtain⟨e,n,he,hn,rfl⟩:=h
 show(DE .f64 (Fl.fl e) (Fl.fl e)&&DE .f64 (Fl.fl n) (Fl.fl n))=true
 rw[QH (by omega) (by omega),QH (by omega) (by omega)];simp
def w1H:Wrk:=Kw IA (D0,K1,cA1)
def w2H:Wrk:=Kw IA (w1H.d,K1,mFd)
def w3H:Wrk:=Kw IA (w2H.d,K1,cA2)
theorem af9:D0.asks=[]:=by kernel_rfl
theorem ai5:w1H.d.pump.num=1:=by kernel_rfl
theorem aga:w2H.d.asks=[]:=by kernel_rfl
theorem ai6(K:Option AV):ak1 w1H.out K=K:=by kernel_rfl
theorem qMk{K:Nat × Nat->Option AV}:gMk K=K (1,2):=Aw ((1,2):Nat × Nat) rfl trivial (.refl _)
theorem agb:ak3 w2H.out w2H.d w3H.out=gMk fun p=>some (.bool (XC (w3H.out.getD 0 default).ver (vr p.1 p.2))):=by kernel_rfl
theorem agc:XC (w3H.out.getD 0 default).ver (vr 1 2)=true:=by kernel_rfl
theorem ai7:ak3 w2H.out w2H.d w3H.out=some (.bool true):=by rw[agb,qMk];show some (AV.bool (XC (w3H.out.getD 0 default).ver (vr 1 2)))=_;rw[agc]
theorem jZ{d:Md.Desk}(h:d.asks=[])(m:Msg):¬ IC (d,K1,m):=fun t=>by
 have:=t.ix
 have e:(d,K1,m).1.asks.length=0:=by show d.asks.length=0;rw[h];rfl
 omega
def yE:Entry:={(default:Entry)with ver:=v1 1000}
def cxA:Ctx:=⟨[cA1,cA2],fun _=>some yE,0,fun _ _=>False,wB.d.pump⟩
theorem ai8:Mv cxA:=by
 have o1:iU cA1:=TF (s:=⟨0,1,0,⟨2,[97],[120],[],false⟩⟩) ⟨by decide,by decide,by decide,LN (by decide) (by decide),by decide,by decide,by decide⟩ (by decide) (LN (by decide) (by decide))
 have o2:iU cA2:=TF (s:=⟨0,1,0,⟨1,[97],[],[],false⟩⟩) ⟨by decide,by decide,by decide,LN (by decide) (by decide),by decide,by decide,by decide⟩ (by decide) (LN (by decide) (by decide))
 have mem:∀ q ∈ cxA.ops,q=cA1\/q=cA2:=fun q hq=>by simpa [cxA] using hq
 refine⟨fun q hq=>?_,fun q hq p hp h1 _=>?_⟩
 ·rcases mem q hq with rfl | rfl
  ·exact o1
  ·exact o2
 ·rcases mem q hq with rfl | rfl <;> rcases mem p hp with rfl | rfl
  ·rfl
  ·exact absurd h1 (by decide)
  ·exact absurd h1 (by decide)
  ·rfl
theorem als:E4 (D0,K1,cA1)/\E4 (w1H.d,K1,mFd)/\E4 (w2H.d,K1,cA2)/\DZ (D0,K1,cA1)=w1H/\DZ (w1H.d,K1,mFd)=w2H/\DZ (w2H.d,K1,cA2)=w3H:=by
 have n1:=jZ af9 cA1
 have n2:¬ IC (w1H.d,K1,mFd):=fun h=>absurd (show(16:Int)=5 from h.kd) (by decide)
 have n3:=jZ aga cA2
 have f1:DZ (D0,K1,cA1)=w1H:=by unfold DZ;rw[if_neg n1];rfl
 have f2:DZ (w1H.d,K1,mFd)=w2H:=by unfold DZ;rw[if_neg n2];rfl
 have f3:DZ (w2H.d,K1,cA2)=w3H:=by unfold DZ;rw[if_neg n3];rfl
 have d0:=(oT (C:=cxA) ai8 (Int.le_refl _) rfl).2
 obtain⟨a1,H1,g1,_,_,L1⟩:=Kx (m:=cA1) d0 (.inl (by simp[cxA])) (by omega)
 rw[f1]at L1
 have hm:FdI cxA w1H.d mFd:=⟨rfl,rfl,rfl,by rw[ai5];decide,fun _ e he=>by
  obtain⟨n,k1,k2,k3,_⟩:=L1.d.h.vi (L1.d.pout.2 e he).1
  have:=L1.d.h.len
  refine⟨yE,rfl,?_⟩
  show AH (v1 1000) e.ver=false
  rw[k3,Mt (by omega) (by omega)]
  exact decide_eq_false (by omega)⟩
 obtain⟨a2,H2,g2,_,_,L2⟩:=Kx (m:=mFd) L1.d (.inr hm) (by omega)
 rw[f2]at L2
 obtain⟨a3,_⟩:=Kx (m:=cA2) L2.d (.inl (by simp[cxA])) (by omega)
 exact⟨a1,a2,a3,f1,f2,f3⟩
theorem aco:Aa PG Dc [] [] (.bool true) []:=by
 obtain⟨a1,a2,a3,f1,f2,f3⟩:=als
 have q0:∀ {K:Unit->Option AV},gC (fun _=>()) (fun _=>True) (fun _=>[]) [] K=K ():=fun {K}=>Aw () rfl trivial (.refl _)
 have q:∀ {d:Md.Desk} {m:Msg} {K:DCM->Option AV},E4 (d,K1,m)->(m.entries=[]/\m.chain=[]/\m.views=[]/\m.image.log=[]/\m.image.seen=[])->BI (LR m)=m->gH d m K=K (d,K1,m):=fun {d m K} h hn hd=>Aw (d,K1,m) (Prod.ext (Jk d) (Prod.ext (SJ K1) hd)) h (.cons (.refl _) (.cons (.refl _) (.cons (.agg (Ty m hn)) .nil)))
 have e:=alr D0
 rw[q0,q a1 ⟨rfl,rfl,rfl,rfl,rfl⟩ (by kernel_rfl),f1,ai6,q a2 ⟨rfl,rfl,rfl,rfl,rfl⟩ (by kernel_rfl),f2,q a3 ⟨rfl,rfl,rfl,rfl,rfl⟩ (by kernel_rfl),f3,ai7]at e
 exact BQ (ak cB (ak OJ (ak YU AL))) e
def alu:Known:=.one Dc [] (.bool true)
def alv(l:List HStp)(P:Play)(b:Bool):Known:=.one C6 [GH l] (ack P b)
def acp(A:List AV)(K:Option AV):Option AV:=gC (fun _=>()) (fun _=>True) (fun _=>A) A fun _=>K
def neB(a b:Bool):Bool:=!(bif a then b else !b)
theorem acq(a:Bool):neB a a=false:=by cases a <;> rfl
theorem ai9{A:List AV}{K:Option AV}:acp A K=K:=Aw () rfl trivial (.refl _)
def eHS(l:List Known):Env:=BU [(BO,0,[3,5,6]),(BO,2,[3,5,6,7,8]),(BO,4,[3,5,10])] [(Dc,0),(C6,0),(J0,0),(BK,0)] [] l
def HU(l:List HStp)(P:Play)(b:Bool):List Known:=[alu,alv l P b,UA,UR]
def yA(P:Play)(i:Int):St:={fr:=[(3,.ptr 0 0 0),(5,Bo P.st.rows),(6,.int .i64 i)],hp:=[.arr true 33 [U3 P]]}
def kA(P:Play)(i:Int)(b:Bool)(k:Int):St:={fr:=[(3,.ptr 0 0 0),(5,Bo P.st.rows),(6,.int .i64 i),(7,.bool b),(8,.int .i64 k)],hp:=[.arr true 33 [U3 P]]}
def yB(P:Play)(i:Int):St:={fr:=[(3,.ptr 0 0 0),(5,Bo P.st.rows),(10,.int .i64 i)],hp:=[.arr true 33 [U3 P]]}
def cG(kn:List Known)(N m:Nat)(s:St):Option AV:=LP (eHS kn) N 0 BO Bp 0 [] m s
def Wa(kn:List Known)(N m q:Nat)(s:St):Option AV:=LP (eHS kn) N 0 BO Bp 2 [m] q s
def cH(kn:List Known)(N m:Nat)(s:St):Option AV:=LP (eHS kn) N 0 BO Bp 4 [] m s
theorem alw(N:Nat)(l:List HStp)(P:Play)(b:Bool):Am (eHS (HU l P b)) (N+1) BO [GH l] =
 acp [] (acp [GH l] (bif !b then some (.bool true)else cG (HU l P b) N N (yA P 0))):=by kernel_rfl
theorem aja(l:List HStp)(P:Play)(b:Bool)(N m:Nat)(i:Int):cG (HU l P b) N (m+1) (yA P i) =
 bif decide (i<(P.st.rows.length:Int))then Wa (HU l P b) N m N (kA P i false 0)else cH (HU l P b) N N (yB P 0):=by kernel_rfl
def eqB(a b:Bool):Bool:=bif a then b else !b
def chS(P:Play)(i:Int)(x:Bool)(e:Entry)(K:Bool->Option AV):Option AV:=
 bif x then K true else bif e.write then rg i P.st.rows.length (bif Ah e.key (P.st.rows.getD i.toNat default).key then rg i P.st.rows.length (bif XC e.ver (P.st.rows.getD i.toNat default).ver then rg i P.st.rows.length (bif eqB e.del (P.st.rows.getD i.toNat default).del then bif e.del then K true else rg i P.st.rows.length (K (Ah e.val (P.st.rows.getD i.toNat default).val))else K false)else K false)else K false)else K false
theorem ajb(l:List HStp)(P:Play)(b:Bool)(N m q:Nat)(i:Int)(x:Bool)(k:Int):Wa (HU l P b) N m (q+1) (kA P i x k) =
 bif decide (k<(P.log.length:Int))then rg k P.log.length (chS P i x (P.log.getD k.toNat default) fun z=>Wa (HU l P b) N m q (kA P i z (IntKind.i64.wrap (k+1))))
 else bif !x then KE else cG (HU l P b) N m (yA P (IntKind.i64.wrap (i+1))):=by kernel_rfl
def ajc(t:Tail)(k:Txt)(K:TK->Option AV):Option AV:=gC uL (fun p=>p.1.log.length<=100000) uM [.agg (AJ t),.str k] K
def gRf(l:List Row)(k:Txt)(K:RK->Option AV):Option AV:=gC jA (fun p=>p.1.length<=100000) bC [Bo l,.str k] K
def chC(x:Itm)(z:Row × Bool)(K:Option AV):Option AV:=
 bif z.2 then bif neB x.has (!z.1.del)then KE else bif x.has then bif !Ah x.val z.1.val then KE else K else K
 else bif neB x.has false then KE else bif x.has then bif !Ah x.val z.1.val then KE else K else K
theorem ajd(l:List HStp)(P:Play)(b:Bool)(N m:Nat)(i:Int):cH (HU l P b) N (m+1) (yB P i) =
 bif decide (i<(P.d.clean.length:Int))then rg i P.d.clean.length (ajc P.d.rep.tail (P.d.clean.getD i.toNat default).key fun y=>gRf P.st.rows (P.d.clean.getD i.toNat default).key fun z=>
  bif !(Dt y.1 y.2).2 then chC (P.d.clean.getD i.toNat default) (Cu z.1 z.2) (cH (HU l P b) N m (yB P (IntKind.i64.wrap (i+1))))else cH (HU l P b) N m (yB P (IntKind.i64.wrap (i+1))))
 else some (.bool true):=by kernel_rfl
end Go.Hd
end
