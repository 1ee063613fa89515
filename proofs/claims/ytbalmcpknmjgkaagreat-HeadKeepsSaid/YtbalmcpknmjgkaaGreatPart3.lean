/- Part 3 of the texts that the proof needs: the abstract machine, plain laws, contracts of the program's functions. No statement is claimed here. -/
import Derived.Test.YtbalmcpknmjgkaaGreatPart2
import Derived.Maps.RangeRun
set_option linter.unusedVariables false
set_option linter.unusedSimpArgs false
set_option linter.defProp false
set_option maxRecDepth 100000
set_option maxHeartbeats 1000000
noncomputable section
section
open Go Go.AM Go.Md
namespace Go.Wk
def qg(f:Nat):Option Nat:=bif Nat.beq f Po then some 5 else bif Nat.beq f Rc then some 5 else bif Nat.beq f Re then some 0 else none
abbrev EV:=Entry × Au
def qi(a:List AV):EV:=(DG (Bd a 0),match a.getD 1 .Ak with
 | .tp cs _=>⟨(Ci cs 0).1,(Ci cs 0).2⟩
 | _=>⟨0,0⟩)
def jI(p:EV):Prop:=AU p.1.Ag/\AU p.2
def jJ(p:EV):List AV:=[.agg (Bt p.1),.tp [eV p.2] 0]
def oEV(p:EV):AV:=.bool (!AP p.2 p.1.Ag)
def aeF:Env:=TP [] qg [Lo]
def asa{n f:Nat}{xs:List AV}{r:AV}(e:A6 aeF n f xs=some r):At PG f xs [] r []:=yL (ak Np AR) e
def xC(e:Entry)(v:Au):A6 aeF 5 Re [AV.agg (Bt e),AV.tp [eV v] 0] =
 gC (Dq) (V2) (Dp) ([AV.Al .f64 v.re v.im,AV.Al .f64 e.Ag.re e.Ag.im]) λy0=>
 some (AV.bool !AP y0.fst y0.snd):=by kernel_rfl
def wy(p:EV)(h:jI p):At PG Re (jJ p) [] (oEV p) []:=asa ((xC p.1 p.2).trans (by rw[Ik h.2 h.1];rfl))
def Lf:Af:=.spec Re qi jI jJ oEV
def nA:Lf.Ok PG:=Af.BJ wy
def qEV{R:Type}{e:Entry}{v:Au}{k:EV->Option R}(h:AU e.Ag)(h':AU v):gC qi jI jJ [.agg (Bt e),.tp [.Al .f64 v.re v.im] 0] k=k (e,v):=Bj (e,v) (Cv (ZD e) rfl) ⟨h,h'⟩ (.refl _)
abbrev LV:=List Entry × Au
def Yy(p:LV):Heap:=[.seq true 11 p.1.length λi=>Bt (p.1.getD i default),.arr true 1 [[eV p.2]]]
def DD(p:LV):List AV × Heap:=([.sl 11 0 0 p.1.length 0,.fn (.func Re) [] [.ptr 1 0 0]],Yy p)
def ae:Env:=TP [] qg [Lf]
def qj(p:LV)(i:Int):St:={fr:=[(0,.sl 11 0 0 p.1.length 0),(1,.fn (.func Re) [] [.ptr 1 0 0]),(7,.int .i64 p.1.length),(8,.int .i64 i)],hp:=Yy p}
def auw(N:Nat)(p:LV):Tr ae (N+1) Rc (DD p).1 (DD p).2=LP ae N 2 Rc (MQ 2) 0 [] N (qj p 0):=by kernel_rfl
def adF(N:Nat)(m:Nat)(p:LV)(i:Int):LP ae N 2 Rc (MQ 2) 0 [] (m+1) (qj p i) =
 bif decide (i<(↑p.fst.length:Int))then
  bif decide (0<=i)&&decide (i<(↑p.fst.length:Int))then
   bif(0+i.toNat).blt p.fst.length then
    gC (qi) (jI) (jJ) ([AV.agg (Bt (p.fst.getD (0+i.toNat) default)),AV.tp [AV.Al .f64 p.snd.re p.snd.im] 0]) λy1=>
    bif !AP y1.snd y1.fst.Ag then
     some ((AV.int .i64 i,[BS.seq true 11 p.fst.length λi=>Bt (p.fst.getD i default),BS.arr true 1 [[AV.Al .f64 p.snd.re p.snd.im]]]))
    else
     LP (ae) (N) (2) (Rc) (MQ 2) 0 ([]) (m) (qj p (Ao (i+1)))
   else none
  else none
 else
  some ((AV.int .i64 (-1),[BS.seq true 11 p.fst.length λi=>Bt (p.fst.getD i default),BS.arr true 1 [[AV.Al .f64 p.snd.re p.snd.im]]])):=by kernel_rfl
def J8(v:Au):List Entry->Nat->Int
 | [],_=>-1
 | e::r,i=>if AP v e.Ag=true then J8 v r (i+1)else i
def XO(_:List AV)(h:Heap):LV:=(match Ab h 0 with
 | .seq _ _ n f=>(List.range n).map λi=>DG (f i)
 | _=>[],match Ab h 1 with
 | .arr _ _ [[.Al _ a b]]=>⟨a,b⟩
 | _=>⟨0,0⟩)
def Uh(p:LV):Prop:=p.1.length<=10000/\AU p.2 /\ ∀ e ∈ p.1,AU e.Ag
def ql(p:LV):AV × Heap:=(.int .i64 (J8 p.2 p.1 0),Yy p)
def kIx:Af:=.nZ Rc XO Uh DD ql
def Xu:Env:=TP [] qg [Lf,kIx]
def SDl(p:LV)(i j:Int)(F:Nat->Entry):St:={fr:=[(0,.sl 11 0 0 p.1.length 0),(1,.fn (.func Re) [] [.ptr 1 0 0]),(5,.int .i64 i),(6,.int .i64 j)],hp:=[.seq true 11 p.1.length λx=>Bt (F x),.arr true 1 [[eV p.2]]]}
def asb(N:Nat)(p:LV):Tr Xu (N+1) Po (DD p).1 (DD p).2=Yv XO Uh DD (DD p).1 (DD p).2 λy2=>
 bif decide (J8 y2.2 y2.1 0 = -1)then some (.sl 11 0 0 p.1.length 0,Yy y2)
 else LP Xu N 2 Po (MQ 2) 0 [] N {fr:=[(0,.sl 11 0 0 p.1.length 0),(1,.fn (.func Re) [] [.ptr 1 0 0]),(5,.int .i64 (J8 y2.2 y2.1 0)),(6,.int .i64 (Ao (J8 y2.2 y2.1 0+1)))],hp:=Yy y2}:=by kernel_rfl
def acr(N:Nat)(m:Nat)(p:LV)(i:Int)(j:Int)(F:Nat->Entry):LP Xu N 2 Po (MQ 2) 0 [] (m+1) (SDl p i j F) =
 bif decide (j<(↑p.fst.length:Int))then
  bif decide (0<=j)&&decide (j<(↑p.fst.length:Int))then
   bif(0+j.toNat).blt p.fst.length then
    gC (qi) (jI) (jJ) ([AV.agg (Bt (F (0+j.toNat))),AV.tp [AV.Al .f64 p.snd.re p.snd.im] 0]) λy2=>
    bif !!AP y2.snd y2.fst.Ag then
     bif decide (0<=i)&&decide (i<(↑p.fst.length:Int))then
      bif(0+i.toNat).blt p.fst.length&&true then
       LP (Xu) (N) (2) (Po) (MQ 2) 0 ([]) (m) ({fr:=[(0,AV.sl 11 0 0 p.fst.length 0),(1,AV.fn (Fn.func Re) [] [AV.ptr 1 0 0]),(5,AV.int .i64 (Ao (i+1))),(6,AV.int .i64 (Ao (j+1)))],hp:=[BS.seq true 11 p.fst.length λi'=>bif i'.beq (0+i.toNat)then Bt (F (0+j.toNat))else Bt (F i'),BS.arr true 1 [[AV.Al .f64 p.snd.re p.snd.im]]]})
      else none
     else none
    else
     LP (Xu) (N) (2) (Po) (MQ 2) 0 ([]) (m) (SDl p i (Ao (j+1)) F)
   else none
  else none
 else
  bif decide (0<=i)&&decide (i<=(↑p.fst.length:Int))then
   bif(p.fst.length - i.toNat).beq 0 then
    bif decide (0<=i)&&decide (i<=(↑(Kc p.fst.length 0):Int))then
     some ((AV.sl 11 0 0 i.toNat 0,[BS.seq true 11 p.fst.length λx=>Bt (F x),BS.arr true 1 [[AV.Al .f64 p.snd.re p.snd.im]]]))
    else none
   else
    bif(0+i.toNat+(p.fst.length - i.toNat)).ble p.fst.length then
     bif decide (0<=i)&&decide (i<=(↑(Kc p.fst.length 0):Int))then
      some ((AV.sl 11 0 0 i.toNat 0,[BS.seq true 11 p.fst.length λi_1=>bif i_1.blt (0+i.toNat)then Bt (F i_1)else bif i_1.blt (0+i.toNat+(p.fst.length - i.toNat))then [AV.Al .f64 0 0,AV.int .i64 0,AV.str [],AV.str [],AV.bool false,AV.bool false,AV.int .i64 0,AV.int .i64 0,AV.int .i64 0,AV.str [],AV.bool false]else Bt (F i_1),BS.arr true 1 [[AV.Al .f64 p.snd.re p.snd.im]]]))
     else none
    else none
  else none:=by kernel_rfl
def asd{p:LV}{N:Nat}{r:AV}{h:Heap}(e:Tr ae N Rc (DD p).1 (DD p).2=some (r,h)):At PG Rc (DD p).1 (DD p).2 r h/\(DD p).2.length<=h.length:=
 ZZ (m7 (ak nA AR)) mj mixed e
def ase(p:LV)(h:Uh p):At PG Rc (DD p).1 (DD p).2 (ql p).1 (ql p).2/\(DD p).2.length<=(ql p).2.length:=by
 obtain⟨h1,h2,h3⟩:=h;have run:∀ d i m,i+d=p.1.length->d<m->LP ae (p.1.length+1) 2 Rc (MQ 2) 0 [] m (qj p (i:Nat))=some (.int .i64 (J8 p.2 (p.1.drop i) i),Yy p):=by
  intro d
  induction d with
  | zero=>intro i m hi hm;obtain⟨m,rfl⟩:=B3 m (by omega);rw[adF,Rs,AN (by omega),Aj,Gj (by omega)];rfl
  | succ d ih=>
   intro i m hi hm;obtain⟨m,rfl⟩:=B3 m (by omega);have hil:i<p.1.length:=by omega
   rw[adF,Rs,Ax hil,ZQ,drop_cons (z:=default) hil];simp only[Ae,CV,BV,Ev,Cd hil];rw[qEV (h3 _ (De hil)) h2,Cs (by omega)];unfold J8;cases hv:AP p.2 (p.1.getD i default).Ag with
   | true=>simp only[Dr,Aj,IW];exact ih (i+1) m (by omega) (by omega)
   | false=>simp only[EP,Ae];rfl
 exact asd ((auw (p.1.length+1) p).trans (run p.1.length 0 (p.1.length+1) (by omega) (by omega)))
def asf:kIx.Ok PG:=Af.uz ase
def anm(p:LV):XO (DD p).1 (DD p).2=p:=by show((List.range p.1.length).map (λi=>DG (Bt (p.1.getD i default))),(⟨p.2.re,p.2.im⟩:Au))=p;refine Cv ?_ rfl;refine List.ext_getElem (by simp) λi g1 g2=>?_;simp[ZD,List.getD,BR g2]
def qLV{R:Type}{p:LV}{P:LV->Prop}{k:LV->Option R}(h:P p):Yv XO P DD (DD p).1 (DD p).2 k=k p:=aew p (anm p) h rfl
def N4(v:Au):Nat->Nat->Nat->(Nat->Entry)->Nat × (Nat->Entry)
 | 0,_,i,F=>(i,F)
 | d+1,j,i,F=>bif AP v (F j).Ag then N4 v d (j+1) (i+1) (λx=>bif Nat.beq x i then F j else F x)else N4 v d (j+1) i F
def iB(n:Nat)(r:Nat × (Nat->Entry)):Nat->Entry:=λx=>bif Nat.blt x r.1 then r.2 x else bif Nat.blt x (r.1+(n - r.1))then default else r.2 x
def vx{p:LV}(h:Uh p){N:Nat}:∀ d i j m F,j+d=p.1.length->d<m->i<j->(∀ x,j<=x->x<p.1.length->F x=p.1.getD x default) ->
  LP Xu N 2 Po (MQ 2) 0 [] m (SDl p (i:Nat) (j:Nat) F)=some (.sl 11 0 0 (N4 p.2 d j i F).1 0,[.seq true 11 p.1.length λx=>Bt (iB p.1.length (N4 p.2 d j i F) x),.arr true 1 [[eV p.2]]]):=by
 obtain⟨h1,h2,h3⟩:=h;intro d
 induction d with
 | zero=>intro i j m F hj hm DC hF;obtain⟨m,rfl⟩:=B3 m (by omega);have hc:Kc p.1.length 0=p.1.length:=rfl;rw[acr,Rs,AN (by omega),Aj,hc];have hle:decide ((i:Int)<=(p.1.length:Int))=true:=Ax (by omega);simp only[ZQ,hle,CV,Ae,BV,beq_false (by omega:p.1.length - i ≠ 0),Aj,Ev,D3 (by omega:i+(p.1.length - i)<=p.1.length)];congr 5;funext x;unfold iB N4;cases Nat.blt x i <;> cases Nat.blt x (i+(p.1.length - i)) <;> rfl
 | succ d ih=>
  intro i j m F hj hm DC hF;obtain⟨m,rfl⟩:=B3 m (by omega);have hjl:j<p.1.length:=by omega
  have hil:i<p.1.length:=by omega
  rw[acr,Rs,Rs,Ax hjl,Ax hil,ZQ,ZQ];simp only[Ae,CV,BV,Ev,Cd hjl,Cd hil];have jK:=hF j (Ar _) hjl;rw[qEV (by rw[jK];exact h3 _ (De hjl)) h2,Cs (by omega),Cs (by omega)];unfold N4;cases hv:AP p.2 (F j).Ag with
  | true=>
   simp only[Dr,EP,Ae];have e:(λi'=>bif Nat.beq i' i then Bt (F j)else Bt (F i'))=λx=>Bt (bif Nat.beq x i then F j else F x):=by funext x;cases Nat.beq x i <;> rfl
   rw[e];exact ih (i+1) (j+1) m _ (by omega) (by omega) (by omega) λx hx O6=>by rw[beq_false (by omega:x ≠ i),Aj];exact hF x (by omega) O6
  | false=>simp only[Dr,EP,Aj];exact ih i (j+1) m F (by omega) (by omega) (by omega) λx hx O6=>hF x (by omega) O6
def rD(p:LV):Nat × (Nat->Entry):=N4 p.2 (p.1.length - ((J8 p.2 p.1 0).toNat+1)) ((J8 p.2 p.1 0).toNat+1) (J8 p.2 p.1 0).toNat λx=>p.1.getD x default
def kD(p:LV):Nat:=if J8 p.2 p.1 0 = -1 then p.1.length else(rD p).1
def gD(p:LV):Nat->Entry:=if J8 p.2 p.1 0 = -1 then λx=>p.1.getD x default else iB p.1.length (rD p)
def Wl(p:LV):AV × Heap:=(.sl 11 0 0 (kD p) 0,[.seq true 11 p.1.length λx=>Bt (gD p x),.arr true 1 [[eV p.2]]])
def sN(v:Au):∀ (l:List Entry) (i:Nat),(J8 v l i = -1/\l.filter (λe=>AP v e.Ag)=l) \/ ∃ k:Nat,k<l.length/\J8 v l i=((i+k:Nat):Int)/\(l.take (k+1)).filter (λe=>AP v e.Ag)=l.take k
 | [],i=>.inl ⟨rfl,rfl⟩
 | e::l,i=>by
  unfold J8;cases hv:AP v e.Ag with
  | true=>
   rw[Ay rfl];rcases sN v l (i+1)with ⟨h1,h2⟩ | ⟨k,h1,h2,h3⟩
   ·exact .inl ⟨h1,by rw[OJ,Ay hv,h2]⟩
   ·refine .inr ⟨k+1,by simp;omega,by rw[h2];congr 1;omega,?_⟩;rw[List.take_succ_cons,OJ,Ay hv,h3,List.take_succ_cons]
  | false=>rw[AE (by simp)];refine .inr ⟨0,by simp,by simp,?_⟩;simp[hv]
def aeG{p:LV}{N:Nat}{r:AV}{h:Heap}(e:Tr Xu N Po (DD p).1 (DD p).2=some (r,h)):At PG Po (DD p).1 (DD p).2 r h/\(DD p).2.length<=h.length:=
 ZZ (m7 (ak nA (ak asf AR))) mj mixed e
def asg(p:LV)(h:Uh p):At PG Po (DD p).1 (DD p).2 (Wl p).1 (Wl p).2/\(DD p).2.length<=(Wl p).2.length:=by
 have key:=asb (p.1.length+1) p;rw[qLV h]at key;rcases sN p.2 p.1 0 with ⟨e1,e2⟩ | ⟨k,e1,e2,e3⟩
 ·rw[e1]at key;have:Wl p=(.sl 11 0 0 p.1.length 0,Yy p):=by unfold Wl kD gD;rw[Ay e1,Ay e1];rfl
  rw[this];exact aeG key
 ·rw[Ev]at e2;have hne:¬ (J8 p.2 p.1 0 = -1):=by rw[e2];omega
  have h1:=h.1;rw[AN hne,Aj,e2,Cs (by omega)]at key;have run:=vx h (N:=p.1.length+1) (p.1.length - (k+1)) k (k+1) (p.1.length+1) (λx=>p.1.getD x default) (by omega) (by omega) (by omega) (λx _ _=>rfl);have:Wl p=(.sl 11 0 0 (N4 p.2 (p.1.length - (k+1)) (k+1) k λx=>p.1.getD x default).1 0,[.seq true 11 p.1.length λx=>Bt (iB p.1.length (N4 p.2 (p.1.length - (k+1)) (k+1) k λx=>p.1.getD x default) x),.arr true 1 [[eV p.2]]]):=by unfold Wl kD gD;rw[AE hne,AE hne];unfold rD;rw[e2,BV]
  rw[this];exact aeG (key.trans run)
def ah7:Af:=.nZ Po XO Uh DD Wl
def apL:ah7.Ok PG:=Af.uz asg
def wz{v:Au}{l:List Entry}:∀ (d j i:Nat) (F:Nat->Entry),j+d=l.length->i=((l.take j).filter λe=>AP v e.Ag).length->(∀ x,x<i->F x=((l.take j).filter λe=>AP v e.Ag).getD x default) ->
  (∀ x,j<=x->x<l.length->F x=l.getD x default)->i<=j->(N4 v d j i F).1=(l.filter λe=>AP v e.Ag).length /\ ∀ x,x<(N4 v d j i F).1->(N4 v d j i F).2 x=(l.filter λe=>AP v e.Ag).getD x default
 | 0,j,i,F,hj,hi,h1,_,_=>by have:l.take j=l:=TG (by omega);rw[this]at hi h1;exact⟨hi,h1⟩
 | d+1,j,i,F,hj,hi,h1,h2,DC=>by
  have hjl:j<l.length:=by omega
  have jK:=h2 j (Ar _) hjl;have FH:l.take (j+1)=l.take j++[l.getD j default]:=by rw[Qh,BR hjl];simp[List.getD,BR hjl]
  unfold N4;cases hv:AP v (F j).Ag with
  | true=>
   simp only[Ae];have hf:(l.take (j+1)).filter (λe=>AP v e.Ag)=(l.take j).filter (λe=>AP v e.Ag)++[l.getD j default]:=by rw[FH,XB];congr 1;rw[jK]at hv;rw[OJ,Ay hv,List.filter_nil]
   refine wz d (j+1) (i+1) _ (by omega) (by rw[hf,CB,<- hi];rfl) (λx hx=>?_) (λx hx O6=>?_) (by omega)
   ·rw[hf];by_cases e:x=i
    ·subst e;rw[beq_true rfl,Ae,jK];rw[hi];simp[List.getD]
    ·rw[beq_false e,Aj,h1 x (by omega)];unfold List.getD;rw[DY (by omega)]
   ·rw[beq_false (by omega:x ≠ i),Aj];exact h2 x (by omega) O6
  | false=>
   simp only[Aj];have hf:(l.take (j+1)).filter (λe=>AP v e.Ag)=(l.take j).filter (λe=>AP v e.Ag):=by rw[FH,XB];rw[jK]at hv;rw[OJ,AE (by rw[hv];simp),List.filter_nil,FY]
   exact wz d (j+1) i F (by omega) (by rw[hf];exact hi) (by rw[hf];exact h1) (λx hx O6=>h2 x (by omega) O6) (by omega)
def auy(p:LV):kD p=(p.1.filter λe=>AP p.2 e.Ag).length /\ ∀ x,x<kD p->gD p x=(p.1.filter λe=>AP p.2 e.Ag).getD x default:=by
 unfold kD gD;rcases sN p.2 p.1 0 with ⟨e1,e2⟩ | ⟨k,e1,e2,e3⟩
 ·rw[Ay e1,Ay e1,e2];exact⟨rfl,λx _=>rfl⟩
 ·rw[Ev]at e2;have hne:¬ (J8 p.2 p.1 0 = -1):=by rw[e2];omega
  rw[AE hne,AE hne];unfold rD;rw[e2,BV];obtain⟨h1,h2⟩:=wz (v:=p.2) (l:=p.1) (p.1.length - (k+1)) (k+1) k (λx=>p.1.getD x default) (by omega) (by rw[e3,List.length_take];omega) (λx hx=>by rw[e3];unfold List.getD;rw[KV,Ay hx]) (λx _ _=>rfl) (by omega);refine⟨h1,λx hx=>?_⟩;unfold iB;rw[Cd hx,Ae];exact h2 x hx
def apM(n:Nat)(f:Nat->List AV):Tr FE 2 Il [AV.tr 11 (n+1) f] [] =
 bif((0+(n+1))*112).ble 140737488355328&&(0+(n+1)).ble 140737488355328 then
  some ((AV.sl 11 0 0 (n+1) 0,[BS.seq true 11 (n+1) f]))
 else none:=by kernel_rfl
def qo(l:List Entry):Prop:=l.length<=10000/\l ≠ []
def ajM(l:List Entry)(h:qo l):At PG Il [AY l] [] (wj 11 Bt default l).1 (wj 11 Bt default l).2:=by
 obtain⟨h1,h2⟩:=h;cases l with
 | nil=>exact absurd rfl h2
 | cons a r=>have k:=apM r.length λi=>Bt ((a::r).getD i default);simp only[CR]at h1;simp only[xB (n:=0+(r.length+1)) (b:=112) (by omega) (by omega),acn,CV,Ae]at k;exact(ZZ (adx (md:=λ_=>none) (l:=[]) λk hk=>by cases hk) abp mixed k).1
def acs:Af:=.Ly Il (dL DG) qo XM (λl=>wj 11 Bt default l)
def ajN:acs.Ok PG:=Af.Mn ajM
def xD:Env:=TP [] qg [fQ,acs,ah7]
def auz{n f:Nat}{xs:List AV}{r:AV}(e:A6 xD n f xs=some r):At PG f xs [] r []:=yL (ak mh (ak ajN (ak apL AR))) e
def wA:Env:=Qn [fQ]
def aeH{n f:Nat}{xs:List AV}{r:AV}(e:A6 wA n f xs=some r):At PG f xs [] r []:=PL (md:=λ_=>none) (ak mh AR) e
def ash(f:Au)(l:Au)(v:Au):A6 wA 9 ZL [AV.agg [eV f,eV l,AV.Ak],eV v] =
 gC (Dq) (V2) (Dp) ([AV.Al .f64 f.re f.im,AV.Al .f64 v.re v.im]) λy0=>
 gC (Dq) (V2) (Dp) ([AV.Al .f64 l.re l.im,AV.Al .f64 v.re v.im]) λy1=>
 some (AV.agg [AV.Al .f64 (Cf y0.fst y0.snd).re (Cf y0.fst y0.snd).im,AV.Al .f64 (Cf y1.fst y1.snd).re (Cf y1.fst y1.snd).im,AV.Ak]):=by kernel_rfl
def asi(f:Au)(l:Au)(v:Au):A6 wA 9 ZL [AV.agg [eV f,eV l,AV.A9 11 []],eV v] =
 gC (Dq) (V2) (Dp) ([AV.Al .f64 f.re f.im,AV.Al .f64 v.re v.im]) λy2=>
 gC (Dq) (V2) (Dp) ([AV.Al .f64 l.re l.im,AV.Al .f64 v.re v.im]) λy3=>
 some (AV.agg [AV.Al .f64 (Cf y2.fst y2.snd).re (Cf y2.fst y2.snd).im,AV.Al .f64 (Cf y3.fst y3.snd).re (Cf y3.fst y3.snd).im,AV.A9 11 []]):=by kernel_rfl
def asj(f:Au)(l:Au)(v:Au)(lg:List Entry):A6 xD 9 ZL [AV.agg [eV f,eV l,AY lg],eV v] =
 gC (dL DG) (qo) (XM) ([AY lg]) λy4=>
 Yv (XO) (Uh) (DD) ([AV.sl 11 0 0 y4.length 0,AV.fn (Fn.func Re) [] [AV.ptr 1 0 0]]) ([BS.seq true 11 y4.length λi=>Bt (y4.getD i default),BS.arr true 1 [[AV.Al .f64 v.re v.im]]]) λy5=>
 gC (Dq) (V2) (Dp) ([AV.Al .f64 f.re f.im,AV.Al .f64 y5.snd.re y5.snd.im]) λy6=>
 gC (Dq) (V2) (Dp) ([AV.Al .f64 l.re l.im,AV.Al .f64 y5.snd.re y5.snd.im]) λy7=>
 bif((kD y5).beq 0||(kD y5).ble y5.fst.length)&&true then
  some (AV.agg [AV.Al .f64 (Cf y6.fst y6.snd).re (Cf y6.fst y6.snd).im,AV.Al .f64 (Cf y7.fst y7.snd).re (Cf y7.fst y7.snd).im,AV.tr 11 (kD y5) λi=>Bt (gD y5 i)])
 else none:=by kernel_rfl
def ann(p:TV)(h:jG p):At PG ZL (jH p) [] (oTV p) []:=by
 obtain⟨⟨f,l,lg⟩,v⟩:=p;have h:fU ⟨f,l,lg⟩ v:=h;have hf:=h.fl;have Jg:=h.la;have hv:=h.v;simp only at hf Jg;cases lg with
 | nil=>
  refine At.split (N3.of [] [eV v] (.agg (N3.of [eV f,eV l] [] .nil))) ?_ ?_
  ·have k:=ash f l v;rw[Ik hf hv,Ik Jg hv]at k;exact(aeH k).res (UQ FA)
  ·have k:=asi f l v;rw[Ik hf hv,Ik Jg hv]at k;exact(aeH k).res (UQ adE)
 | cons a r=>
  have k:=asj f l v (a::r);have hp:Uh (a::r,v):=⟨h.len,hv,h.log⟩
  have e0:gC (R:=AV) (dL DG) qo XM [AY (a::r)]=λk=>k (a::r):=by funext k;exact Bj _ (Of _) ⟨h.len,by simp⟩ (.refl _)
  rw[e0]at k;have k:A6 xD 9 ZL [.agg [eV f,eV l,AY (a::r)],eV v]=Yv XO Uh DD (DD (a::r,v)).1 (DD (a::r,v)).2 λy5=>gC Dq V2 Dp [.Al .f64 f.re f.im,.Al .f64 y5.2.re y5.2.im] λy6=>gC Dq V2 Dp [.Al .f64 l.re l.im,.Al .f64 y5.2.re y5.2.im] λy7=>
   bif((kD y5).beq 0||(kD y5).ble y5.1.length)&&true then some (.agg [eV (Cf y6.1 y6.2),eV (Cf y7.1 y7.2),.tr 11 (kD y5) λi=>Bt (gD y5 i)])else none:=k
  rw[qLV hp,Ik hf hv,Ik Jg hv]at k;obtain⟨g1,g2⟩:=auy (a::r,v);have hle:(kD (a::r,v)).ble (a::r).length=true:=D3 (by rw[g1];exact KS _ _);simp only[hle,Bool.or_true,CV,Ae]at k;refine(auz k).res (UQ ?_);show Br _ (AY ((a::r).filter λe=>AP v e.Ag));unfold AY DQ;rw[<- g1];exact Br.N2 λi hi=>by rw[g2 i hi];exact .refl _
def xE:Af:=.spec ZL qe jG jH oTV
def acu:xE.Ok PG:=Af.BJ ann
def aeI:List Af:=[oP,xE,P6,aO]
def aly:∀ k ∈ aeI,k.Ok PG:=ak vt (ak acu (ak Rn (ak mG AR)))
def wC:Env:=Qn aeI
def asl{n f:Nat}{xs:List AV}{r:AV}(e:A6 wC n f xs=some r):At PG f xs [] r []:=PL (md:=λ_=>none) aly e
def ano(r:Av)(v:Au):A6 wC 9 ef [AV.agg (AJ r),eV v] =
 gC (Ef) (Hr) (Eg) ([AV.agg (AJ r)]) λy8=>
 gC (qe) (jG) (jH) ([AV.agg (Cn y8.tail),AV.Al .f64 v.re v.im]) λy9=>
 some (AV.agg [AV.int .i64 y8.AQ,AV.int .i64 y8.self.node,AV.int .i64 y8.self.BD,AV.int .i64 y8.view.AQ,AV.int .i64 y8.view.Az,AV.int .i64 y8.view.gen,AV.int .i64 y8.view.phase,CD y8.view.chain,AV.int .i64 y8.frozen,AV.Al .f64 (Cf y9.fst.floor y9.snd).re (Cf y9.fst.floor y9.snd).im,AV.Al .f64 (Cf y9.fst.last y9.snd).re (Cf y9.fst.last y9.snd).im,AY (List.filter (λe=>AP y9.snd e.Ag) y9.fst.log),B7 y8.seen,AV.Al .f64 y8.B5.re y8.B5.im,E6 y8.synced]):=by kernel_rfl
def qq(a:List AV):Av × Au:=(Fj (Bd a 0),⟨(Ci a 1).1,(Ci a 1).2⟩)
def cE(p:Av × Au):Prop:=Hr p.1/\fU p.1.tail p.2
def jL(p:Av × Au):List AV:=[.agg (AJ p.1),eV p.2]
def qRV{R:Type}{r:Av}{v:Au}{k:Av × Au->Option R}(h:Hr r)(h':fU r.tail v):gC qq cE jL [.agg (AJ r),eV v] k=k (r,v):=Bj (r,v) (Cv (GZ r) rfl) ⟨h,h'⟩ (.refl _)
def alz(p:Av × Au)(h:cE p):At PG ef (jL p) [] (.agg (AJ (OG p.1 p.2))) []:=by obtain⟨r,v⟩:=p;have k:=ano r v;rw[aM (P:=Hr) h.1]at k;have k:A6 wC 9 ef [.agg (AJ r),eV v]=gC qe jG jH [.agg (Cn r.tail),eV v] λy=>some (.agg (AJ {r with tail:=n7 y.1 y.2})):=k;rw[qTV h.2]at k;exact asl k
def aeJ:Af:=.spec ef qq cE jL (λp=>.agg (AJ (OG p.1 p.2)))
def alA:aeJ.Ok PG:=Af.BJ alz
def age:List Af:=[br,aO]
def anp:∀ k ∈ age,k.Ok PG:=ak fB (ak mG AR)
def XP:Env:=TP [] (λf=>bif Nat.beq f UJ then some 0 else none) age
def auA{n f:Nat}{xs:List AV}{r:AV}(e:A6 XP n f xs=some r):At PG f xs [] r []:=yL anp e
def z15:List AV:=[.int .i64 0,.int .i64 0,.int .i64 0,.int .i64 0,.int .i64 0,.int .i64 0,.int .i64 0,.Ak,.int .i64 0,.Al .f64 0 0,.Al .f64 0 0,.Ak,.Ak,.Al .f64 0 0,.Ak]
def Lg(l:List Entry)(r:Av)(i:Int):St:={fr:=[(1,AY l),(2,.ptr 0 0 0),(4,.ptr 1 0 0),(5,.int .i64 i)],hp:=[.arr true 15 [AJ r],.arr true 15 [z15]]}
def oR(l:List Entry)(r:Av)(i:Int)(K:Av->Int->Option AV):Option AV:=
 bif decide (i=(l.length:Int))then some (.agg (AJ r))else rg i l.length <|
  gC MR AU MS [eV (l.getD i.toNat default).Ag] λy0=>gC MR AU MS [eV r.tail.last] λy1=>
  bif decide ((nu y0:Int)=Ao ((nu y1:Int)+1))then rg i l.length <| gC QL cD MT [.agg (AJ r),.agg (Bt (l.getD i.toNat default))] λy2=>K (Kh y2.1 y2.2).1 (Ao (i+1))
  else K r (Ao (i+1))
def anq(N:Nat)(r:Av)(l:List Entry):A6 XP (N+1) UH [.agg (AJ r),AY l]=oR l r 0 λr i=>JP XP N 0 UH By 0 N (Lg l r i):=by kernel_rfl
def abw(N m:Nat)(r:Av)(l:List Entry)(i:Int):JP XP N 0 UH By 0 (m+1) (Lg l r i)=oR l r i λr i=>JP XP N 0 UH By 0 m (Lg l r i):=by kernel_rfl
structure Ot(r:Av)(l:List Entry):Prop where
 log:r.tail.log.length+l.length<=10000
 last:AU r.tail.last
 seen:r.seen.length<=1 /\ ∀ a ∈ r.seen,a.Ah=1
 Ho:∀ e ∈ l,AU e.Ag/\e.Ah=1
def Ot.push{r:Av}{e:Entry}{l:List Entry}(h:Ot r (e::l)):Rz r e:=⟨by have:=h.log;simp only[CR]at this;omega,h.last,(h.Ho e (by simp)).1,h.seen,(h.Ho e (by simp)).2⟩
def anr{l:List Seen}{s:Seen}(h:l.length<=1 /\ ∀ a ∈ l,a.Ah=1)(hs:s.Ah=1):(GC l s).length<=1 /\ ∀ a ∈ GC l s,a.Ah=1:=by
 cases l with
 | nil=>exact⟨by simp[GC],λa ha=>by simp[GC]at ha;rw[ha];exact hs⟩
 | cons b l=>
  have:l=[]:=by cases l with
   | nil=>rfl
   | cons c d=>simp at h
  subst this;show(bif decide (b.num<s.num)then [s]else [b]).length<=1 /\ ∀ a ∈ (bif decide (b.num<s.num)then [s]else [b]),a.Ah=1;cases decide (b.num<s.num)with
  | true=>exact⟨by simp,λa ha=>by simp at ha;rw[ha];exact hs⟩
  | false=>exact h
def Ot.next{r:Av}{e:Entry}{l:List Entry}(h:Ot r (e::l)):Ot r l/\Ot (Kh r e).1 l:=by
 have h1:=h.log;simp only[CR]at h1;refine⟨⟨by omega,h.last,h.seen,λx hx=>h.Ho x (by simp[hx])⟩,?_⟩;unfold Kh;cases AP r.tail.last e.Ag with
 | false=>exact⟨by simp only[Aj];omega,h.last,h.seen,λx hx=>h.Ho x (by simp[hx])⟩
 | true=>exact⟨by simp only[Ae,XK,CB,CR,U8];omega,(h.Ho e (by simp)).1,anr h.seen (h.Ho e (by simp)).2,λx hx=>h.Ho x (by simp[hx])⟩
def tP{l:List Entry}{K:Av->Int->Option AV}{r:Av}{i:Nat}(h:Ot r (l.drop i))(hl:l.length<=10000)(hi:i<=l.length)(hK:∀ r',i<l.length->Ot r' (l.drop (i+1))->K r' ((i+1:Nat):Int)=some (.agg (AJ (RQ r' (l.drop (i+1)))))) :
  oR l r (i:Int) K=some (.agg (AJ (RQ r (l.drop i)))):=by
 unfold oR;by_cases e:i=l.length
 ·rw[Ax (by rw[e]),Ae,Gj (by omega)];rfl
 ·have hil:i<l.length:=by omega
  rw[AN (by omega),Aj,B8 hil,BV];rw[drop_cons (z:=default) hil]at h ⊢;obtain⟨n1,n2⟩:=h.next;have auB:Rz r (l.getD i default):=h.push;have X8:AU (l.getD i default).Ag:=(h.Ho _ (R3)).1;rw[show(λy0=>gC MR AU MS [eV r.tail.last] λy1=>bif decide ((nu y0:Int)=Ao ((nu y1:Int)+1))then rg (i:Int) l.length <| gC QL cD MT [.agg (AJ r),.agg (Bt (l.getD i default))] λy2=>K (Kh y2.1 y2.2).1 (Ao ((i:Int)+1))else K r (Ao ((i:Int)+1))) =
   λy0=>bif decide ((nu y0:Int)=Ao ((nu r.tail.last:Int)+1))then K (Kh r (l.getD i default)).1 (Ao ((i:Int)+1))else K r (Ao ((i:Int)+1)) from by funext y0;have q1:=qV1 (R:=AV) h.last (k:=λy1=>bif decide ((nu y0:Int)=Ao ((nu y1:Int)+1))then rg (i:Int) l.length <| gC QL cD MT [.agg (AJ r),.agg (Bt (l.getD i default))] λy2=>K (Kh y2.1 y2.2).1 (Ao ((i:Int)+1))else K r (Ao ((i:Int)+1)));refine q1.trans ?_;rw[B8 hil,qRE (r:=r) (e:=l.getD i default) (P:=cD) auB]]
  have q0:=qV1 (R:=AV) X8 (k:=λy0=>bif decide ((nu y0:Int)=Ao ((nu r.tail.last:Int)+1))then K (Kh r (l.getD i default)).1 (Ao ((i:Int)+1))else K r (Ao ((i:Int)+1)));refine q0.trans ?_;have hnl:=h.last.lt.2;have hw:Ao ((nu r.tail.last:Int)+1)=((nu r.tail.last+1:Nat):Int):=wrap64 (by omega);rw[hw,Cs (by omega),m4];unfold RQ;cases decide (nu (l.getD i default).Ag=nu r.tail.last+1)with
  | true=>exact hK _ hil n2
  | false=>exact hK _ hil n1
def ant(p:Av × List Entry)(h:Ot p.1 p.2):At PG UH [.agg (AJ p.1),AY p.2] [] (.agg (AJ (RQ p.1 p.2))) []:=by
 obtain⟨r,l⟩:=p;have h:Ot r l:=h;have hl:l.length<=10000:=by have:=h.log;omega
 have run:∀ d i m r,i+d=l.length->d<m->Ot r (l.drop i)->JP XP (l.length+1) 0 UH By 0 m (Lg l r (i:Nat))=some (.agg (AJ (RQ r (l.drop i)))):=by
  intro d
  induction d with
  | zero=>intro i m r hi hm h;obtain⟨m,rfl⟩:=B3 m (by omega);rw[abw];exact tP h hl (by omega) λr' hlt _=>by omega
  | succ d ih=>intro i m r hi hm h;obtain⟨m,rfl⟩:=B3 m (by omega);rw[abw];exact tP h hl (by omega) λr' _ h'=>ih (i+1) m r' (by omega) (by omega) h'
 refine auA ((anq (l.length+1) r l).trans ?_);have:=tP (l:=l) (K:=λr i=>JP XP (l.length+1) 0 UH By 0 (l.length+1) (Lg l r i)) (r:=r) (i:=0) (by rw[Hf];exact h) hl (by omega) λr' hlt h'=>run (l.length - 1) 1 (l.length+1) r' (by omega) (by omega) h';rw[Hf]at this;exact this
def dRL(a:List AV):Av × List Entry:=(Fj (Bd a 0),Bm DG (a.getD 1 .Ak))
def pRL(p:Av × List Entry):Prop:=Ot p.1 p.2
def eRL(p:Av × List Entry):List AV:=[.agg (AJ p.1),AY p.2]
def agf:Af:=.spec UH dRL pRL eRL (λp=>.agg (AJ (RQ p.1 p.2)))
def anu:agf.Ok PG:=Af.BJ ant
def BK(m:Ad)(k:Int):Ad:=⟨k,m.src,m.dst,m.BD,m.KL,m.AQ,m.Az,m.gen,m.Ah,m.num,m.a,m.code,m.has,m.fresh,m.key,m.val,m.Ag,m.floor,m.op,m.entries,m.chain,m.views,m.image⟩
def agh:List Af:=[oP,nz,wv,agf,xE,Lo,fQ,wu,m6,PC,kTo,xz,lI,lO,lZ]
def anv:∀ k ∈ agh,k.Ok PG:=ak vt (ak tO (ak abr (ak anu (ak acu (ak Np (ak mh (ak abq (ak tC (ak SY (ak aeC (ak acp (ak sG (ak sH (ak sM AR))))))))))))))
def n9:Env:=Qn agh
def Vg{n f:Nat}{xs:List AV}{r:AV}(e:A6 n9 n f xs=some r):At PG f xs [] r []:=PL (md:=λ_=>none) anv e
def h8(r:Av)(m:Ad):A6 n9 9 UG [AV.agg (AJ r),AV.agg (Aq (BK m 8))] =
 gC (Ef) (Hr) (Eg) ([AV.agg (AJ r)]) λy0=>
 bif !decide ((BK m 8).dst=y0.self.node)then
  some (AV.Am [AV.agg (AJ y0),AV.Ak])
 else
  bif !decide ((BK m 8).BD=y0.self.BD)then
   some (AV.Am [AV.agg (AJ y0),AV.Ak])
  else
   bif !decide ((BK m 8).AQ=y0.AQ)then
    some (AV.Am [AV.agg (AJ y0),AV.Ak])
   else
    bif decide ((BK m 8).Az<=y0.view.Az)then
     some (AV.Am [AV.agg (AJ y0),AV.Ak])
    else
     bif decide ((BK m 8).Az<y0.frozen)then
      some (AV.Am [AV.agg (AJ y0),AV.Ak])
     else
      some (AV.Am [AV.agg [AV.int .i64 y0.AQ,AV.int .i64 y0.self.node,AV.int .i64 y0.self.BD,AV.int .i64 y0.view.AQ,AV.int .i64 y0.view.Az,AV.int .i64 y0.view.gen,AV.int .i64 y0.view.phase,CD y0.view.chain,AV.int .i64 m.Az,AV.Al .f64 y0.tail.floor.re y0.tail.floor.im,AV.Al .f64 y0.tail.last.re y0.tail.last.im,AY y0.tail.log,B7 y0.seen,AV.Al .f64 y0.B5.re y0.B5.im,E6 y0.synced],AV.A9 31 [[AV.int .i64 9,AV.int .i64 y0.self.node,AV.int .i64 m.src,AV.int .i64 0,AV.int .i64 y0.self.BD,AV.int .i64 y0.AQ,AV.int .i64 m.Az,AV.int .i64 0,AV.int .i64 0,AV.int .i64 0,AV.int .i64 y0.view.Az,AV.int .i64 0,AV.bool !decide (y0.view.phase=0),AV.bool false,AV.str [],AV.str [],AV.Al .f64 y0.tail.last.re y0.tail.last.im,AV.Al .f64 0 0,AV.int .i64 0,AV.str [],AV.str [],AV.str [],AV.bool false,AV.Ak,AV.Ak,AV.Ak,AV.Al .f64 0 0,AV.Al .f64 0 0,AV.int .i64 0,AV.Ak,AV.Ak]]]):=by kernel_rfl
def Yz(o:Av × List Ad):AV:=.Am [.agg (AJ o.1),BB o.2]
def OQ(r:Av):Option AV:=some (.Am [.agg (AJ r),.Ak])
def gate{R:Type}{a b c:Bool}{X K:Option R}:(bif !a then X else bif !b then X else bif !c then X else K)=bif a&&(b&&c)then K else X:=by cases a <;> cases b <;> cases c <;> rfl
def auC{R:Type}{a b:Bool}{X K:Option R}:(bif a then X else bif b then X else K)=bif !a && !b then K else X:=by cases a <;> cases b <;> rfl
def Z9{r:Av}:Br (.Am [.agg (AJ r),.Ak]) (Yz (r,[])):=.Am (.cons (.refl _) (.cons FA .nil))
def UZ{m:Ad}{k:Int}(h:m.kind=k):BK m k=m:=by cases m;simp only at h;subst h;rfl
def iC(r:Av)(m:Ad)(l:List Be)(ph:Int)(fl la:Au)(lg se:AV)(go:Au)(sy:AV):List AV:=
 [.int .i64 r.AQ,.int .i64 r.self.node,.int .i64 r.self.BD,.int .i64 m.AQ,.int .i64 m.Az,.int .i64 m.gen,.int .i64 ph,CD l,.int .i64 r.frozen,eV fl,eV la,lg,se,eV go,sy]
def gt{R:Type}(y:Av)(m:Ad)(X K:Option R):Option R:=bif !decide (m.dst=y.self.node)then X else bif !decide (m.BD=y.self.BD)then X else bif !decide (m.AQ=y.AQ)then X else K
def auD{R:Type}{y:Av}{m:Ad}{X K:Option R}:gt y m X K=bif Vw y m then K else X:=gate
def ah8(m:Ad)(l:List Be):Ad:=⟨10,m.src,m.dst,m.BD,m.KL,m.AQ,m.Az,m.gen,m.Ah,m.num,m.a,m.code,m.has,m.fresh,m.key,m.val,m.Ag,m.floor,m.op,m.entries,l,m.views,m.image⟩
def apN{m:Ad}(h:m.kind=10):ah8 m m.chain=m:=by cases m;simp only at h;subst h;rfl
def qt(cs:List AV):Option AV:=gC Ef Kj Eg [.agg cs] λy=>some (.Am [.agg cs,BB (BL y)])
def oS(y:Av)(m:Ad)(l:List Be)(ph:Int)(sy:AV):Option AV:=gC (dL G0) Fy gw [CD l] λa=>
 bif m.fresh then gC pX pY pZ [.int .i64 m.Az,.int .i64 0] λb=>qt (iC y m a ph (vr b.1 b.2) (vr b.1 b.2) .Ak .Ak (vr b.1 b.2) sy)
 else qt (iC y m a ph y.tail.floor y.tail.last (AY y.tail.log) (B7 y.seen) y.tail.last sy)
def xF(y:Av)(m:Ad)(K:Option AV):Option AV:=
 bif m.fresh then bif !decide (y.view.phase=0)then bif !decide (y.frozen<=m.Az)then bif !decide (m.Az=y.frozen)then OQ y else K else K else bif !decide (y.frozen<=m.Az)then OQ y else K
 else bif !decide (y.view.phase=0)then bif !decide (m.Az=y.frozen)then OQ y else K else OQ y
def H10(m:Ad)(K:Av->Option AV):Av->Option AV:=λy=>gt y m (OQ y) <| bif decide (m.Az<0)then OQ y else bif decide (1099511627776<m.Az)then OQ y else bif decide (m.Az<=y.view.Az)then OQ y else K y
def auE(r:Av)(m:Ad)(a:Be):A6 n9 9 UG [.agg (AJ r),.agg (Aq (ah8 m [a]))] =
  gC Ef Hr Eg [.agg (AJ r)] (H10 m λy=>bif !(O8 [a] y.self)then OQ y else xF y m (oS y m [a] 3 (.A9 1 [[.bool true]]))):=by kernel_rfl
def asm{m:Ad}{K:Av->Option AV}{r:Av}(h0:0<=m.Az)(h1:m.Az<=1099511627776):H10 m K r=bif Vw r m then bif decide (m.Az<=r.view.Az)then OQ r else K r else OQ r:=by unfold H10;rw[auD,AN (by omega:¬ m.Az<0),AN (by omega:¬ 1099511627776<m.Az)];rfl
def acv{r:Av}{m:Ad}{K:Option AV}:xF r m K=bif(m.fresh&&decide (r.frozen<=m.Az))||(!decide (r.view.phase=0)&&decide (m.Az=r.frozen))then K else OQ r:=by unfold xF;cases m.fresh <;> cases decide (r.view.phase=0) <;> cases decide (r.frozen<=m.Az) <;> cases decide (m.Az=r.frozen) <;> rfl
def qI2{R:Type}{a b:Int}{k:Nat × Nat->Option R}(ha:0<=a)(hb:0<=b):gC pX pY pZ [.int .i64 a,.int .i64 b] k=k (a.toNat,b.toNat):=by refine Bj (a.toNat,b.toNat) rfl trivial ?_;show CJ _ [.int .i64 (a.toNat:Int),.int .i64 (b.toNat:Int)];rw[Int.toNat_of_nonneg ha,Int.toNat_of_nonneg hb];exact .refl _
def aeK{cs:List AV}{R':Av}(hd:Fj cs=R')(hs:CJ cs (AJ R'))(h:Kj R'):qt cs=some (.Am [.agg cs,BB (BL R')]):=by unfold qt;exact Bj (dec:=Ef) (pre:=Kj) (enc:=Eg) R' hd h (.cons (.agg hs) .nil)
def apO{r:Av}{m:Ad}{l:List Be}{sy:AV}{bs:List Bool}(hl:Fy l)(JU:m.chain=l)(h0:0<=m.Az)(hsy:Bm Rq sy=bs)(hsb:Br sy (E6 bs))(V0:bs=true::List.replicate (m.chain.length - 1) false)(hR:Kj (NR r m)) :
  ∃ v,oS r m l (bif decide (m.chain.length=1)then 3 else 2) sy=some v/\Br v (Yz (NR r m,BL (NR r m))):=by
 unfold oS;rw[af1 hl];have dR:∀ (fl la go:Au) (lg se:AV),Fj (iC r m l (bif decide (m.chain.length=1)then 3 else 2) fl la lg se go sy)=⟨r.AQ,⟨r.self.node,r.self.BD⟩,⟨m.AQ,m.Az,m.gen,bif decide (m.chain.length=1)then 3 else 2,l⟩,r.frozen,⟨fl,la,Bm DG lg⟩,Bm EU se,go,bs⟩:=by intro fl la go lg se;show(⟨r.AQ,⟨r.self.node,r.self.BD⟩,⟨m.AQ,m.Az,m.gen,bif decide (m.chain.length=1)then 3 else 2,Bm G0 (CD l)⟩,r.frozen,⟨fl,la,Bm DG lg⟩,Bm EU se,go,Bm Rq sy⟩:Av)=_;rw[Rl,hsy]
 cases hf:m.fresh with
 | true=>
  rw[Ae,qI2 h0 (by decide)];have e:NR r m=⟨r.AQ,⟨r.self.node,r.self.BD⟩,⟨m.AQ,m.Az,m.gen,bif decide (m.chain.length=1)then 3 else 2,l⟩,r.frozen,Ts m.Az,[],vr m.Az.toNat 0,bs⟩:=by unfold NR oL;rw[hf,V0,JU];rfl
  have hd:=dR (vr m.Az.toNat 0) (vr m.Az.toNat 0) (vr m.Az.toNat 0) .Ak .Ak;rw[e]at hR ⊢;have hs:CJ (iC r m l (bif decide (m.chain.length=1)then 3 else 2) (vr m.Az.toNat 0) (vr m.Az.toNat 0) .Ak .Ak (vr m.Az.toNat 0) sy) (AJ ⟨r.AQ,⟨r.self.node,r.self.BD⟩,⟨m.AQ,m.Az,m.gen,bif decide (m.chain.length=1)then 3 else 2,l⟩,r.frozen,Ts m.Az,[],vr m.Az.toNat 0,bs⟩):=
   Mo (by repeat' (first | exact trivial | exact FA | exact hsb | exact Br.refl _ | refine⟨?_,?_⟩))
  exact⟨_,aeK hd hs hR,.Am (.cons (.agg hs) (.refl _))⟩
 | false=>
  rw[Aj];have e:NR r m=⟨r.AQ,⟨r.self.node,r.self.BD⟩,⟨m.AQ,m.Az,m.gen,bif decide (m.chain.length=1)then 3 else 2,l⟩,r.frozen,r.tail,r.seen,r.tail.last,bs⟩:=by unfold NR oL;rw[hf,V0,JU];rfl
  have hd:=dR r.tail.floor r.tail.last r.tail.last (AY r.tail.log) (B7 r.seen);rw[Of,Nq]at hd;rw[e]at hR ⊢;have hs:CJ (iC r m l (bif decide (m.chain.length=1)then 3 else 2) r.tail.floor r.tail.last (AY r.tail.log) (B7 r.seen) r.tail.last sy) (AJ ⟨r.AQ,⟨r.self.node,r.self.BD⟩,⟨m.AQ,m.Az,m.gen,bif decide (m.chain.length=1)then 3 else 2,l⟩,r.frozen,r.tail,r.seen,r.tail.last,bs⟩):=
   Mo (by repeat' (first | exact trivial | exact hsb | exact Br.refl _ | refine⟨?_,?_⟩))
  exact⟨_,aeK hd hs hR,.Am (.cons (.agg hs) (.refl _))⟩
def yM(a:List AV):Av × Ad:=(Fj (Bd a 0),Dj (Bd a 1))
def oT(p:Av × Ad):List AV:=[.agg (AJ p.1),.agg (Aq p.2)]
def ah9(p:Av × Ad):AV:=Yz (KM p.1 p.2)
end Go.Wk
end
section
namespace Go.AM
def E9(c c':AV):Prop:=∀ (w:World) (I:Nat->Prop) (φ:Ac) (u:Value),RV w I φ c u->RV w I φ c' u
def Gi(cs A3:List AV):Prop:=cs.length=A3.length /\ ∀ (k:Nat) c c',cs[k]? = some c->A3[k]? = some c'->E9 c c'
def E9.refl(c:AV):E9 c c:=λ_ _ _ _ h=>h
def Gi.refl(cs:List AV):Gi cs cs:=⟨rfl,λk c c' e e'=>by rw[e]at e';cases e';exact .refl _⟩
def Gi.nil:Gi [] []:=.refl _
def Gi.cons{c c':AV}{cs A3:List AV}(h:E9 c c')(h':Gi cs A3):Gi (c::cs) (c'::A3):=by
 refine⟨by simp[h'.1],λk x x' e e'=>?_⟩;cases k with
 | zero=>simp at e e';exact e ▸ e' ▸ h
 | succ k=>exact h'.2 k x x' (by simpa using e) (by simpa using e')
def Gi.get{cs A3:List AV}(h:Gi cs A3){k:Nat}{c':AV}(e:A3[k]? = some c'):∃ c,cs[k]? = some c/\E9 c c':=by
 have hl:k<cs.length:=by
  rw[h.1];rcases Cj k A3.length with h1 | h1
  ·exact h1
  ·rw[CK h1]at e;cases e
 exact⟨_,BR hl,h.2 k _ _ (BR hl) e⟩
def E9.of{c c':AV}(h:Br c c')(hc:Ed c=true):E9 c c':=λw I φ u hv=>
 (h w I u (hv.free hc)).mono (λ_ hB=>⟨hB,rfl⟩) (λ_=>Ar _) (Ac.IZ φ)
inductive Ib:BS->BS->Prop
 | refl (x:BS):Ib x x
 | arr (m:Bool) (sz:Nat) (es Ie:List (List AV)) (hl:es.length=Ie.length) (h:∀ (i:Nat) cs A3,es[i]? = some cs->Ie[i]? = some A3->Gi cs A3):Ib (.arr m sz es) (.arr m sz Ie)
 | seq (m:Bool) (sz n k:Nat) (f g:Nat->List AV) (hk:k<=n) (h:∀ i,i<k->CJ (f i) (g i)):Ib (.seq m sz n f) (.seq m sz k g)
 | one (m:Bool) (sz:Nat) (cs:List AV) (g:Nat->List AV) (h:CJ cs (g 0)) (hf:cs.all Ed=true):Ib (.arr m sz [cs]) (.seq m sz 1 g)
 | zero (m:Bool) (sz:Nat) (g:Nat->List AV):Ib (.arr m sz []) (.seq m sz 0 g)
 | pmap (m:Bool) (ks:List (List UInt8)) (v v':List UInt8->AV) (h:∀ s ∈ ks,Br (v s) (v' s)):Ib (.pmap m ks v) (.pmap m ks v')
def Ib.kind{x y:BS}(h:Ib x y):live y=live x/\AZ y=AZ x/\(y=.none->x=.none)/\(Gv x->Gv y):=by
 cases h with
 | refl=>exact⟨rfl,rfl,id,id⟩
 | arr=>exact⟨rfl,rfl,λe=>by(cases e),id⟩
 | seq m sz n k f g hk h=>exact⟨rfl,rfl,λe=>by(cases e),λe=>by simp only[Gv]at e ⊢;omega⟩
 | one=>exact⟨rfl,rfl,λe=>by(cases e),λe=>e.elim⟩
 | zero=>exact⟨rfl,rfl,λe=>by(cases e),λe=>e.elim⟩
 | pmap=>exact⟨rfl,rfl,λe=>by(cases e),λe=>e.elim⟩
def Ib.rb{w:World}{I:Nat->Prop}{φ:Ac}{B o sz:Nat}{x y:BS}(h:Ib x y)(hr:RB w I φ B o sz x):RB w I φ B o sz y:=by
 cases h with
 | refl=>exact hr
 | arr m s es Ie hl h=>
  obtain⟨h1,h2,h3,h4⟩:=hr;have Bc:∀ (i:Nat) A3,Ie[i]? = some A3 -> ∃ cs,es[i]? = some cs/\Gi cs A3:=by
   intro i A3 e;have hi:i<es.length:=by
    rw[hl];rcases Cj i Ie.length with h | h
    ·exact h
    ·rw[CK h]at e;cases e
   exact⟨_,BR hi,h i _ _ (BR hi) e⟩
  refine⟨h1,h2,λi A3 e=>?_,λi A3 k c' e e'=>?_⟩
  ·obtain⟨cs,e1,e2⟩:=Bc i A3 e;rw[<- e2.1];exact h3 i cs e1
  ·obtain⟨cs,e1,e2⟩:=Bc i A3 e;obtain⟨c,e3,e4⟩:=e2.get e';obtain⟨u,a1,a2,a3⟩:=h4 i cs k c e1 e3;exact⟨u,a1,a2,e4 _ _ _ _ a3⟩
 | seq m s n k0 f g hk h=>
  obtain⟨h1,h2,h3,h4⟩:=hr;refine⟨h1,h2,λi hi=>?_,λi k c' hi e=>?_⟩
  ·rw[<- (h i hi).1];exact h3 i (He hi hk)
  ·obtain⟨c,e1,e2⟩:=(h i hi).get e;obtain⟨u,a1,a2,a3⟩:=h4 i k c (He hi hk) e1;exact⟨u,a1,a2,e2 w I u a3⟩
 | pmap m ks v v' h=>obtain⟨h1,h2,mes,clock,h3,h4⟩:=hr;exact⟨h1,h2,mes,clock,h3,h4.1,λi s e a b=>let ⟨x,y⟩:=h4.2.1 i s e a b;⟨x,h s (Dy a) w I _ y⟩,h4.2.2⟩
 | zero m s g=>obtain⟨h1,h2,h3,h4⟩:=hr;exact⟨h1,h2,λi hi=>absurd hi (C5 i),λi k c' hi=>absurd hi (C5 i)⟩
 | one m s cs g h hf=>
  obtain⟨h1,h2,h3,h4⟩:=hr;have zero:∀ i,i<1->i=0:=λi hi=>by omega
  refine⟨h1,h2,λi hi=>?_,λi k c' hi e=>?_⟩
  ·rw[zero i hi,<- h.1];exact h3 0 cs rfl
  ·rw[zero i hi]at e ⊢;obtain⟨c,e1,e2⟩:=h.get e;obtain⟨u,a1,a2,a3⟩:=h4 0 cs k c rfl e1;exact⟨u,a1,a2,e2 w I u (a3.free ((HA.1 hf) c (Dy e1)))⟩
def HSub(h h':Heap):Prop:=h.length=h'.length /\ ∀ b,Ib (Ab h b) (Ab h' b)
def HSub.refl(h:Heap):HSub h h:=⟨rfl,λb=>.refl _⟩
def HSub.nil:HSub [] []:=.refl _
def HSub.cons{x y:BS}{h h':Heap}(hx:Ib x y)(hh:HSub h h'):HSub (x::h) (y::h'):=by
 refine⟨by simp[hh.1],λb=>?_⟩;cases b with
 | zero=>exact hx
 | succ b=>exact hh.2 b
def HSub.rh{w:World}{I:Nat->Prop}{φ:Ac}{h h':Heap}(s:HSub h h')(hh:RH w I φ (Ab h)):RH w I φ (Ab h'):=by
 have k:=λb=>(s.2 b).kind;refine⟨λb e=>hh.none b ((k b).2.2.1 e),λb e=>?_,λb b' B o sz o' sz' e e'=>hh.inj b b' B o sz o' sz' ((k b).2.1 ▸ e) ((k b').2.1 ▸ e'),λb B o sz e=>hh.CP b B o sz ((k b).2.1 ▸ e),
  λb B o sz e e'=>hh.Ea b B o sz ((k b).1 ▸ e) ((k b).2.1 ▸ e'),hh.lt⟩
 rcases hh.CY b ((k b).1 ▸ e)with ⟨B,o,sz,e1,r⟩ | ⟨e1,hp⟩
 ·exact .inl ⟨B,o,sz,e1,(s.2 b).rb r⟩
 ·exact .inr ⟨e1,(k b).2.2.2 hp⟩
def HSub.mut{φ:Ac}{h h':Heap}(s:HSub h h'){B:Nat}(hm:Ca φ (Ab h') B):Ca φ (Ab h) B:=by obtain⟨b,o,sz,e,e'⟩:=hm;exact⟨b,o,sz,(s.2 b).kind.2.1 ▸ e,e'⟩
def At.sub{P:Program}{f:Nat}{args HU:List AV}{hp hp' rh:Heap}{r:AV}(h:At P f HU hp' r rh)(ha:Gi args HU)(hs:HSub hp hp'):At P f args hp r rh:=by
 intro w I φ ra hh hx;refine(h w I φ ra (hs.rh hh) ⟨ha.1.symm.trans hx.1,λk c' u e e'=>?_⟩).mono λu w' ⟨φ',I',a1,a2,a3⟩=>⟨φ',I',a1,a2,?_⟩
 ·obtain⟨c,e1,e2⟩:=ha.get e;exact e2 _ _ _ _ (hx.2 k c u e1 e')
 ·exact⟨λb p hb e=>a3.le b p (hs.1 ▸ hb) e,a3.F8,λB hB=>(a3.F3 B hB).imp id (Or.imp hs.mut id),λB hB=>(a3.mt B hB).imp hs.mut id,a3.ext.weaken λB hB=>hs.mut hB,λB hB hy=>a3.ok B hB λk=>hy (k.imp id hs.mut)⟩
def At.KN{P:Program}{f:Nat}{args:List AV}{hp rh Ui:Heap}{r r':AV}(h:At P f args hp r rh)(ha:E9 r r')(hs:HSub rh Ui):At P f args hp r' Ui:=by intro w I φ ra hh hx;exact(h w I φ ra hh hx).mono λu w' ⟨φ',I',a1,a2,a3⟩=>⟨φ',I',ha _ _ _ _ a1,hs.rh a2,⟨a3.le,a3.F8,a3.F3,λB hB=>a3.mt B (hs.mut hB),a3.ext,λB hB hy=>a3.ok B (hB.imp id hs.mut) hy⟩⟩
def gPG{X:Type}(dec:List AV->Heap->X)(pre:X->Prop)(enc:X->List AV × Heap)(args:List AV)(hp:Heap):Prop:=pre (dec args hp)/\Gi args (enc (dec args hp)).1/\HSub hp (enc (dec args hp)).2
def Af.EC{X:Type}(f:Nat)(dec:List AV->Heap->X)(pre:X->Prop)(enc:X->List AV × Heap)(out:X->AV × Heap):Af:=
 {f:=f,cu:=λargs hp=>some {X:=X,g:=cd (gPG dec pre enc args hp),a:=dec args hp,r:=out}}
def Af.EL{P:Program}{X:Type}{f:Nat}{dec:List AV->Heap->X}{pre:X->Prop}{enc:X->List AV × Heap}{out:X->AV × Heap}
  (h:∀ x,pre x->At P f (enc x).1 (enc x).2 (out x).1 (out x).2/\(enc x).2.length<=(out x).2.length):(Af.EC f dec pre enc out).Ok P:=by
 intro args hp A e hg;cases e;obtain⟨h1,h2,h3⟩:=fM.1 hg;have:=h _ h1;exact⟨this.1.sub h2 h3,by rw[h3.1];exact this.2⟩
def BA{R:Type}{X:Type}(dec:List AV->Heap->X)(pre:X->Prop)(enc:X->List AV × Heap)(A:List AV)(H:Heap)(k:X->Option R):Option R:=gX (gPG dec pre enc A H) (dec A H) k
def Dw{R:Type}{X:Type}{dec:List AV->Heap->X}{pre:X->Prop}{enc:X->List AV × Heap}{A:List AV}{H:Heap}{k:X->Option R}(x:X)(h1:dec A H=x)(h2:pre x)(h3:Gi A (enc x).1)(h4:HSub H (enc x).2) :
  BA dec pre enc A H k=k x:=by
 subst h1;exact xw ⟨h2,h3,h4⟩
def E9.sn{sz b n cm:Nat}:E9 (.sl sz b 0 n cm) (.sn sz b n):=by
 intro w I φ u h;cases h with
 | sl _ _ B o _ _ _ cap q AI hq hl hc hs=>rw[JF,Iy]at hq;rw[Ev]at hs;subst hq;exact .sn sz b n B _ cap AI hl hs
 | sle _ _ _ a=>exact .DT sz b _
def E9.axu{sz b n:Nat}(hn:0<n):E9 (.sn sz b n) (.sl sz b 0 n n):=by
 intro w I φ u h;cases h with
 | DT=>exact absurd hn (DP 0)
 | sn _ _ _ B o cap AI hl hs=>exact .sl sz b B o 0 n n cap o AI (by simp) hl hl (by simpa using hs)
def At.xH{P:Program}{f:Nat}{args:List AV}(h:At P f args [] .Ak [])(sz:Nat)(g:Nat->List AV):At P f args [] (.sn sz 0 0) [.seq true sz 0 g]:=by
 intro w I φ ra hh hx;refine(h w I φ ra hh hx).mono λu w' ⟨φ',I',a1,a2,a3⟩=>?_;have hp:=a2.TJ (nx:=0) (UP 0) true sz g;have e:BU (Ab []) 0 (.seq true sz 0 g)=Ab [.seq true sz 0 g]:=by
  funext b;cases b with
  | zero=>rw[DL];rfl
  | succ b=>rw[C0 _ _ (Nat.succ_ne_zero b),UP];simp[Ab]
 rw[e]at hp;refine⟨φ',I',?_,hp.1,a3.trans (hp.2 _)⟩;cases a1;exact .DT _ _ _
def At.agi{P:Program}{f:Nat}{args:List AV}{sz n cm:Nat}{x:BS}{g:Nat->List AV}(h:At P f args [] (.sl sz 0 0 n cm) [x])(hx:Ib x (.seq true sz n g)) :
  At P f args [] (.sn sz 0 n) [.seq true sz n g]:=by
 intro w I φ ra hh Fb;have hs:HSub [x] [.seq true sz n g]:=.cons hx .nil;refine(h w I φ ra hh Fb).mono λu w' ⟨φ',I',a1,a2,a3⟩=>⟨φ',I',E9.sn w' I' φ' u a1,hs.rh a2,⟨a3.le,a3.F8,a3.F3,λB hB=>a3.mt B (hs.mut hB),a3.ext,λB hB hy=>a3.ok B (hB.imp id hs.mut) hy⟩⟩
def up(c k:Nat)(i:Nat):Option Nat:=bif Nat.blt i c then some i else some (i+k)
def Cm(c base:Nat)(r:AV)(h:Heap):Option (AV × Heap):=
 let s:=XF c [0] {fr:=[(0,r)],hp:=h}
 some (BX (up c (base - c)) (Bb s.fr 0),(s.hp.take c).map (Ch (up c (base - c)))++(List.replicate (base - c) .dead++(s.hp.drop c).map (Ch (up c (base - c)))))
def CO(c:Nat)(env:Env)(n f:Nat)(args:List AV)(hp:Heap):Option (AV × Heap):=Dl (R:=AV × Heap) env n f args hp (Cm c hp.length)
def ta{c:Nat}{P:Program}{f:Nat}{args:List AV}{hp hp':Heap}{res r:AV}{h:Heap}(hc:c<=hp.length)(k1:Cm c hp.length res hp'=some (r,h))(k2:hp.length<=hp'.length)(Vx:At P f args hp res hp') :
  At P f args hp r h/\hp.length<=h.length:=by
 have hlen:c<=(XF c [0] {fr:=[(0,res)],hp:=hp'}).hp.length:=by show c<=(Qj [0] (OB c [0] {fr:=[(0,res)],hp:=hp'}).hp).length;rw[mC];exact aaO (CI hc k2)
 simp only[Cm,CU,FZ]at k1;obtain⟨rfl,rfl⟩:=k1;refine⟨λw I φ ra hh hx=>(Vx w I φ ra hh hx).mono λu w' ⟨φ',I',a1,a2,a3⟩=>?_,by simp;omega⟩;have hs:BC w' I' φ' {fr:=[(0,res)],hp:=hp'} {tmps:=#[u],defers:=[]}:=by
  refine⟨a2,λt=>?_⟩;cases t with
  | zero=>exact a1
  | succ t=>exact .undef _
 obtain⟨_,BO,n2,n3⟩:=ace c [0] hs (CI hc k2);generalize XF c [0] {fr:=[(0,res)],hp:=hp'}=s at *;have st:=(a3.mono hc).trans n3;obtain⟨k,hk⟩:∃ k,k=hp.length - c:=⟨_,rfl⟩
 rw[<- hk];let Gp:Ac:=λb=>if b<c then BO b else if b<hp.length then φ b else BO (b - k)
 have FI:∀ i b',up c k i=some b'->Gp b'=BO i:=by
  intro i b' e;unfold up at e;by_cases hi:i<c
  ·rw[Cd hi,Ae]at e;cases e;simp only[Gp,Ay hi]
  ·rw[Js (by omega),Aj]at e;cases e;simp only[Gp,AE (by omega:¬ i+k<c),AE (by omega:¬ i+k<hp.length),Nat.add_sub_cancel]
 have hg:∀ b,Ab ((s.hp.take c).map (Ch (up c k))++(List.replicate k .dead++(s.hp.drop c).map (Ch (up c k)))) b =
   if b<c then Ch (up c k) (Ab s.hp b)else if b<hp.length then .dead else Ch (up c k) (Ab s.hp (b - k)):=by
  intro b;have hN:∀ i,(s.hp.length<=i)->Ch (up c k) (Ab s.hp i)=.none:=λi hi=>by rw[Gw hi];rfl
  have JS:((s.hp.take c).map (Ch (up c k))).length=c:=by simp;omega
  by_cases h1:b<c
  ·rw[Ay h1];simp only[Ab,List.getD];rw[DY (by omega)];simp only[EO,KV,Ay h1];rw[BR (by omega:b<s.hp.length)];rfl
  ·rw[AE h1];by_cases h2:b<hp.length
   ·rw[Ay h2];simp only[Ab,List.getD];rw[FC (by omega),DY (by simp;omega),List.getElem?_replicate,Ay (by rw[JS];omega)];rfl
   ·rw[AE h2];simp only[Ab,List.getD];rw[FC (by omega),FC (by simp;omega),JS];simp only[EO,Qe,aw];rw[show c+(b - c - k)=b - k by omega];cases e:s.hp[b - k]? with
    | none=>rfl
    | some x=>rfl
 have key:∀ b,live (Ab ((s.hp.take c).map (Ch (up c k))++(List.replicate k .dead++(s.hp.drop c).map (Ch (up c k)))) b)=true ->
   ∃ i,(i<c/\b=i\/c<=i/\b=i+k)/\Ab ((s.hp.take c).map (Ch (up c k))++(List.replicate k .dead++(s.hp.drop c).map (Ch (up c k)))) b=Ch (up c k) (Ab s.hp i)/\Gp b=BO i/\live (Ab s.hp i)=true:=by
  intro b hl;rw[hg b]at hl ⊢;by_cases h1:b<c
  ·rw[Ay h1]at hl ⊢;exact⟨b,.inl ⟨h1,rfl⟩,rfl,by simp only[Gp,Ay h1],(DW _ _).1 hl⟩
  ·rw[AE h1]at hl ⊢;by_cases h2:b<hp.length
   ·rw[Ay h2]at hl;cases hl
   ·rw[AE h2]at hl ⊢;exact⟨b - k,.inr ⟨by omega,by omega⟩,rfl,by simp only[Gp,AE h1,AE h2],(DW _ _).1 hl⟩
 have Dm:∀ b,AZ (Ab ((s.hp.take c).map (Ch (up c k))++(List.replicate k .dead++(s.hp.drop c).map (Ch (up c k)))) b)=true ->
   ∃ i,(i<c/\b=i\/c<=i/\b=i+k)/\Gp b=BO i/\AZ (Ab s.hp i)=true:=by
  intro b hm;obtain⟨i,h1,h2,h3,h4⟩:=key b (Fv hm);rw[h2]at hm;exact⟨i,h1,h3,(DW _ _).2.1 hm⟩
 refine⟨Gp,I',?_,⟨λb e=>?_,λb hl=>?_,λb b' B o sz o' sz' hm BW e e'=>?_,λb B o sz hm e=>?_,λb B o sz hl hm e=>?_,n2.hh.lt⟩,⟨λb p hb e=>?_,st.F8,st.F3,λB hB=>?_,st.ext,λB hB hy=>st.ok B (hB.imp id λ⟨b,o,sz,hm,e⟩=>by obtain⟨i,_,h3,h4⟩:=Dm b hm;exact⟨i,o,sz,h4,h3 ▸ e⟩) hy⟩⟩
 ·exact(n2.fr 0).BX FI
 ·rw[hg b]at e;by_cases h1:b<c
  ·rw[Ay h1]at e;simp only[Gp,Ay h1];exact n2.hh.none b ((DW _ _).2.2.1 e)
  ·rw[AE h1]at e;by_cases h2:b<hp.length
   ·rw[Ay h2]at e;cases e
   ·rw[AE h2]at e;simp only[Gp,AE h1,AE h2];exact n2.hh.none _ ((DW _ _).2.2.1 e)
 ·obtain⟨i,h1,h2,h3,h4⟩:=key b hl;rcases n2.hh.CY i h4 with ⟨B,o,sz,e,r⟩ | ⟨e,hp⟩
  ·exact .inl ⟨B,o,sz,h3.trans e,by rw[h2];exact r.BX FI⟩
  ·exact .inr ⟨h3.trans e,by rw[h2];exact UL _ hp⟩
 ·obtain⟨i,h1,h3,h4⟩:=Dm b hm;obtain⟨i',FG,O5,Ub⟩:=Dm b' BW;have:=n2.hh.inj i i' B o sz o' sz' h4 Ub (h3 ▸ e) (O5 ▸ e');omega
 ·obtain⟨i,h1,h3,h4⟩:=Dm b hm;exact n2.hh.CP i B o sz h4 (h3 ▸ e)
 ·obtain⟨i,h1,h2,h3,h4⟩:=key b hl;rw[h2]at hl hm;exact n2.hh.Ea i B o sz h4 (by rw[<- (DW (up c k) _).2.2.2 hl];exact hm) (h3 ▸ e)
 ·by_cases h1:b<c
  ·simp only[Gp,Ay h1];exact st.le b p h1 e
  ·simp only[Gp,AE h1,Ay hb];exact e
 ·obtain⟨b,o,sz,hm,e⟩:=hB;obtain⟨i,h1,h3,h4⟩:=Dm b hm;exact st.mt B ⟨i,o,sz,h4,h3 ▸ e⟩
def acw{c:Nat}{P:Program}{env:Env}(Bh:DH P env)(D6:It P env)(hm:P.follows .mixedOrders=true){n f:Nat}{args:List AV}{hp:Heap}{r:AV}{h:Heap}(hc:c<=hp.length)
  (e:CO c env n f args hp=some (r,h)):At P f args hp r h/\hp.length<=h.length:=by
 obtain⟨res,hp',k1,k2,Vx⟩:=Iw Bh D6 hm n f args hp _ _ e;exact ta hc k1 k2 Vx
end Go.AM
namespace Go.Md
open Go.AM
structure Item where
 key:List UInt8
 val:List UInt8
 has:Bool
 Ag:Au
deriving DecidableEq,Inhabited
def AK(x:Item):List AV:=[.str x.key,.str x.val,.bool x.has,.Al .f64 x.Ag.re x.Ag.im]
def Da(cs:List AV):Item:=⟨Ia cs 0,Ia cs 1,Kr cs 2,⟨(Ci cs 3).1,(Ci cs 3).2⟩⟩
def ajO(x:Item):Da (AK x)=x:=rfl
def Bi(l:List Item):AV:=DQ 4 AK default l
def Og(l:List Item):Bm Da (Bi l)=l:=Py ajO l
structure C3 where
 num:Int
 out:List Entry
 done:List Item
deriving DecidableEq,Inhabited
def Dg(x:C3):List AV:=[.int .i64 x.num,AY x.out,Bi x.done]
def Is(cs:List AV):C3:=⟨AS cs 0,Hi DG cs 1,Hi Da cs 2⟩
def ZN(x:C3):Is (Dg x)=x:=by show(⟨x.num,Bm DG (AY x.out),Bm Da (Bi x.done)⟩:C3)=x;rw[Of,Og]
structure C4 where
 Ag:Au
 dst:Int
 Ah:Int
 num:Int
deriving DecidableEq,Inhabited
def Cz(x:C4):List AV:=[.Al .f64 x.Ag.re x.Ag.im,.int .i64 x.dst,.int .i64 x.Ah,.int .i64 x.num]
def S7(cs:List AV):C4:=⟨⟨(Ci cs 0).1,(Ci cs 0).2⟩,AS cs 1,AS cs 2,AS cs 3⟩
def ajP(x:C4):S7 (Cz x)=x:=rfl
def HQ(l:List C4):AV:=DQ 4 Cz default l
def anw(l:List C4):Bm S7 (HQ l)=l:=Py ajP l
structure Ask where
 num:Int
 key:List UInt8
 calls:List Ad
deriving DecidableEq,Inhabited
def D5(x:Ask):List AV:=[.int .i64 x.num,.str x.key,BB x.calls]
def Mq(cs:List AV):Ask:=⟨AS cs 0,Ia cs 1,Hi Dj cs 2⟩
def l8(x:Ask):Mq (D5 x)=x:=by show(⟨x.num,x.key,Bm Dj (BB x.calls)⟩:Ask)=x;rw[fv]
def E7(l:List Ask):AV:=DQ 3 D5 default l
def apQ(l:List Ask):Bm Mq (E7 l)=l:=Py l8 l
structure AL where
 rep:Av
 AB:C3
 clean:List Item
 busy:Bool
 waits:List C4
 asks:List Ask
 next:Int
deriving DecidableEq,Inhabited
def Ct(x:AL):List AV:=[.int .i64 x.rep.AQ,.int .i64 x.rep.self.node,.int .i64 x.rep.self.BD,.int .i64 x.rep.view.AQ,.int .i64 x.rep.view.Az,.int .i64 x.rep.view.gen,.int .i64 x.rep.view.phase,CD x.rep.view.chain,.int .i64 x.rep.frozen,.Al .f64 x.rep.tail.floor.re x.rep.tail.floor.im,.Al .f64 x.rep.tail.last.re x.rep.tail.last.im,AY x.rep.tail.log,B7 x.rep.seen,.Al .f64 x.rep.B5.re x.rep.B5.im,E6 x.rep.synced,.int .i64 x.AB.num,AY x.AB.out,Bi x.AB.done,Bi x.clean,.bool x.busy,HQ x.waits,E7 x.asks,.int .i64 x.next]
def S9(cs:List AV):AL:=⟨⟨AS cs 0,⟨AS cs 1,AS cs 2⟩,⟨AS cs 3,AS cs 4,AS cs 5,AS cs 6,Hi G0 cs 7⟩,AS cs 8,⟨⟨(Ci cs 9).1,(Ci cs 9).2⟩,⟨(Ci cs 10).1,(Ci cs 10).2⟩,Hi DG cs 11⟩,Hi EU cs 12,⟨(Ci cs 13).1,(Ci cs 13).2⟩,Hi Rq cs 14⟩,⟨AS cs 15,Hi DG cs 16,Hi Da cs 17⟩,Hi Da cs 18,Kr cs 19,Hi S7 cs 20,Hi Mq cs 21,AS cs 22⟩
def eH(x:AL):S9 (Ct x)=x:=by show(⟨⟨x.rep.AQ,⟨x.rep.self.node,x.rep.self.BD⟩,⟨x.rep.view.AQ,x.rep.view.Az,x.rep.view.gen,x.rep.view.phase,Bm G0 (CD x.rep.view.chain)⟩,x.rep.frozen,⟨⟨x.rep.tail.floor.re,x.rep.tail.floor.im⟩,⟨x.rep.tail.last.re,x.rep.tail.last.im⟩,Bm DG (AY x.rep.tail.log)⟩,Bm EU (B7 x.rep.seen),⟨x.rep.B5.re,x.rep.B5.im⟩,Bm Rq (E6 x.rep.synced)⟩,⟨x.AB.num,Bm DG (AY x.AB.out),Bm Da (Bi x.AB.done)⟩,Bm Da (Bi x.clean),x.busy,Bm S7 (HQ x.waits),Bm Mq (E7 x.asks),x.next⟩:AL)=x;simp only[Rl,Of,Nq,mE,Og,anw,apQ]
structure EE where
 nodes:Int
 chain:Int
 aeL:Int
 adG:Int
 maxKey:Int
 RA:Int
 high:Int
 low:Int
 room:Int
 Ou:Int
 batch:Int
 Xk:Int
 adH:Int
 acx:Int
 Ov:Int
deriving DecidableEq,Inhabited
def D4(x:EE):List AV:=[.int .i64 x.nodes,.int .i64 x.chain,.int .i64 x.aeL,.int .i64 x.adG,.int .i64 x.maxKey,.int .i64 x.RA,.int .i64 x.high,.int .i64 x.low,.int .i64 x.room,.int .i64 x.Ou,.int .i64 x.batch,.int .i64 x.Xk,.int .i64 x.adH,.int .i64 x.acx,.int .i64 x.Ov]
def U0(cs:List AV):EE:=⟨AS cs 0,AS cs 1,AS cs 2,AS cs 3,AS cs 4,AS cs 5,AS cs 6,AS cs 7,AS cs 8,AS cs 9,AS cs 10,AS cs 11,AS cs 12,AS cs 13,AS cs 14⟩
def aaF(x:EE):U0 (D4 x)=x:=rfl
end Go.Md
end
section
open Go Go.AM Go.Md
namespace Go.Hd
open Go.Wk
def asc(f:Nat):List (Nat × Nat)->Option Nat
 | []=>none
 | (g,m)::r=>bif Nat.beq f g then some m else asc f r
def Cw(lv:List (Nat × Nat × List Nat))(md:List (Nat × Nat))(fz:List (Nat × Nat × List Nat))(l:List Af):Env:=
 {bq (λf=>asc f md) (Vd l)with live:=λf b=>fL f b (lv++vp),zU:=λf b=>fL f b fz}
def Gd{lv:List (Nat × Nat × List Nat)}{md:List (Nat × Nat)}{fz:List (Nat × Nat × List Nat)}{l:List Af}(h:∀ k ∈ l,k.Ok PG):DH PG (Cw lv md fz l):=⟨xv rfl,nq h⟩
def Gc{lv:List (Nat × Nat × List Nat)}{md:List (Nat × Nat)}{fz:List (Nat × Nat × List Nat)}{l:List Af}:It PG (Cw lv md fz l):=tM rfl
def Cx{lv:List (Nat × Nat × List Nat)}{md:List (Nat × Nat)}{fz:List (Nat × Nat × List Nat)}{l:List Af}(h:∀ k ∈ l,k.Ok PG){n f:Nat}{args:List AV}{r:AV}(e:A6 (Cw lv md fz l) n f args=some r):At PG f args [] r []:=
 uu (Gd h) Gc mixed e
def Ds{lv:List (Nat × Nat × List Nat)}{md:List (Nat × Nat)}{fz:List (Nat × Nat × List Nat)}{l:List Af}(h:∀ k ∈ l,k.Ok PG){c n f:Nat}{args:List AV}{hp:Heap}{r:AV}{h':Heap}(hc:c<=hp.length)
  (e:CO c (Cw lv md fz l) n f args hp=some (r,h')):At PG f args hp r h'/\hp.length<=h'.length:=acw (Gd h) Gc mixed hc e
def iD{lv:List (Nat × Nat × List Nat)}{md:List (Nat × Nat)}{fz:List (Nat × Nat × List Nat)}{l:List Af}(h:∀ k ∈ l,k.Ok PG){n f:Nat}{args:List AV}{r:AV}{h':Heap}
  (e:CO 0 (Cw lv md fz l) n f args []=some (r,h')):At PG f args [] r h':=(acw (Gd h) Gc mixed (Ar 0) e).1
def S5{F sz b:Nat}(hb:b<=1000)(hn:A6 FE 2 F [.Ak]=some .Ak)(he:Tr FE 2 F [.A9 sz []] []=some (.sl sz 0 0 0 0,[.arr true sz []]))
  (hs:∀ n f,Tr FE 2 F [.tr sz (n+1) f] []=bif Nat.ble ((0+(n+1))*b) 140737488355328&&Nat.ble (0+(n+1)) 140737488355328 then some (.sl sz 0 0 (n+1) 0,[.seq true sz (n+1) f])else none)
  {n:Nat} (f:Nat->List AV) (h:n<=100000):At PG F [.tr sz n f] [] (.sn sz 0 n) [.seq true sz n f]:=by
 have e0:FE=Cw [] [] [] []:=rfl;rw[e0]at hn he hs;cases n with
 | zero=>refine At.split (N3.of [] [] .nil) ((Cx (λk hk=>by cases hk) hn).xH sz f) ?_;have:=(ZZ (Gd (λk hk=>by cases hk)) Gc mixed he).1;exact this.agi (.zero true sz f)
 | succ n=>have h1:n+1<=100000:=h;have:=hs n f;rw[D3 (by have:=RG h1 hb;rw[Ev];omega),D3 (by omega)]at this;have:=(ZZ (Gd (λk hk=>by cases hk)) Gc mixed this).1;exact this.agi (.refl _)
def fa{n:Nat}(f:Nat->List AV)(h:n<=100000):At PG Nl [.tr 4 n f] [] (.sn 4 0 n) [.seq true 4 n f]:=S5 (b:=56) (by omega) (by kernel_rfl) (by kernel_rfl) (λn f=>by kernel_rfl) f h
def tQ{n:Nat}(f:Nat->List AV)(h:n<=100000):At PG lu [.tr 4 n f] [] (.sn 4 0 n) [.seq true 4 n f]:=S5 (b:=40) (by omega) (by kernel_rfl) (by kernel_rfl) (λn f=>by kernel_rfl) f h
def uE{n:Nat}(f:Nat->List AV)(h:n<=100000):At PG ly [.tr 3 n f] [] (.sn 3 0 n) [.seq true 3 n f]:=S5 (b:=48) (by omega) (by kernel_rfl) (by kernel_rfl) (λn f=>by kernel_rfl) f h
def Rm{n:Nat}(f:Nat->List AV)(h:n<=100000):At PG Il [.tr 11 n f] [] (.sn 11 0 n) [.seq true 11 n f]:=S5 (b:=112) (by omega) (by kernel_rfl) (by kernel_rfl) (λn f=>by kernel_rfl) f h
def acy{n:Nat}(f:Nat->List AV)(h:n<=100000):At PG sx [.tr 31 n f] [] (.sn 31 0 n) [.seq true 31 n f]:=S5 (b:=392) (by omega) (by kernel_rfl) (by kernel_rfl) (λn f=>by kernel_rfl) f h
def alB{n:Nat}(f:Nat->List AV)(h:n<=100000):At PG su [.tr 5 n f] [] (.sn 5 0 n) [.seq true 5 n f]:=S5 (b:=56) (by omega) (by kernel_rfl) (by kernel_rfl) (λn f=>by kernel_rfl) f h
def D1(a:List AV):Nat × (Nat->List AV):=match a.getD 0 .Ak with
 | .tr _ n f=>(n,f)
 | .A9 _ es=>(es.length,λi=>es.getD i [])
 | _=>(0,λ_=>[])
def D2(sz:Nat)(p:Nat × (Nat->List AV)):List AV:=[.tr sz p.1 p.2]
def C9(p:Nat × (Nat->List AV)):Prop:=p.1<=100000
def Vh(F sz:Nat):Af:=.Ly F D1 C9 (D2 sz) (λp=>(.sn sz 0 p.1,[.seq true sz p.1 p.2]))
def Jy(F sz:Nat):Af:=.spec F D1 C9 (D2 sz) (λp=>.tr sz p.1 p.2)
def UR{F sz:Nat}(h:∀ {n:Nat} (f:Nat->List AV),n<=100000->At PG F [.tr sz n f] [] (.sn sz 0 n) [.seq true sz n f]):(Vh F sz).Ok PG:=Af.Mn λp hp=>h p.2 hp
def J7{F sz:Nat}(h:∀ {n:Nat} (f:Nat->List AV),n<=100000->At PG F [.tr sz n f] [] (.sn sz 0 n) [.seq true sz n f]):(Jy F sz).Ok PG:=Af.BJ λp hp=>
 (h p.2 hp).mZ (by
  show(match NA 400 (Ab [.seq true sz p.1 p.2]) (.sn sz 0 p.1)with
   | some (r,_,g)=>bif g then some r else none
   | none=>none)=_
  show(bif Nat.ble p.1 p.1 then some (AV.tr sz p.1 p.2)else none)=_;rw[D3 (Ar _)];rfl)
def Wm{R:Type}{sz n:Nat}{f:Nat->List AV}{k:Nat × (Nat->List AV)->Option R}(h:n<=100000):gC D1 C9 (D2 sz) [.tr sz n f] k=k (n,f):=Bj (n,f) rfl h (.refl _)
def Dh{X:Type}(P:X->Bool):List X->Nat->Int
 | [],_=>-1
 | x::r,i=>bif P x then(i:Int)else Dh P r (i+1)
def ZO{X:Type}{P:X->Bool}:∀ (l:List X) (i:Nat),Dh P l i = -1 ↔ ∀ x ∈ l,P x=false
 | [],i=>⟨λ_ _ h=>by simp at h,λ_=>rfl⟩
 | x::r,i=>by
  unfold Dh;cases h:P x with
  | true=>exact⟨λe=>by rw[Ae]at e;omega,λe=>by have:=e x (by simp);rw[h]at this;cases this⟩
  | false=>rw[Aj,ZO r (i+1)];exact⟨λe y hy=>(Dz.1 hy).elim (λq=>q ▸ h) (e y),λe y hy=>e y (by simp[hy])⟩
def tc{X:Type}{P:X->Bool}(z:X):∀ (l:List X) (i:Nat),Dh P l i ≠ -1 -> ∃ k,Dh P l i=((i+k:Nat):Int)/\k<l.length/\P (l.getD k z)=true /\ ∀ x ∈ l.take k,P x=false
 | [],i,h=>absurd rfl h
 | x::r,i,h=>by
  unfold Dh at h ⊢;cases hx:P x with
  | true=>exact⟨0,by simp,by simp,by simpa using hx,by simp⟩
  | false=>
   rw[hx,Aj]at h;obtain⟨k,h1,h2,h3,h4⟩:=tc z r (i+1) h;refine⟨k+1,?_,by simpa using h2,by simpa using h3,λy hy=>?_⟩
   ·rw[Aj,h1];congr 1;omega
   ·rw[List.take_succ_cons]at hy;exact(Dz.1 hy).elim (λq=>q ▸ hx) (h4 y)
def fC{X R:Type}{p:X->Bool}{l:List X}{z:X}{L:Nat->Int->Option R}{A:Int->Option R}(hn:l.length<=100000)
  (hst:∀ m (i:Int),L (m+1) i=bif decide (i<(l.length:Int))then rg i l.length (bif Nat.blt i.toNat l.length then bif p (l.getD i.toNat z)then A i else L m (Ao (i+1))else none)else A (-1)) :
  ∀ (d i m:Nat),i+d=l.length->d<m->L m (i:Nat)=A (Dh p (l.drop i) i):=by
 intro d
 induction d with
 | zero=>intro i m hi hm;obtain⟨m,rfl⟩:=B3 m (by omega);rw[hst,AN (by omega),Aj,Gj (by omega)];rfl
 | succ d ih=>
  intro i m hi hm;obtain⟨m,rfl⟩:=B3 m (by omega);have hil:i<l.length:=by omega
  rw[hst,Ax (by omega),Ae,B8 hil,BV,Cd hil,Ae,Cs (by omega),ih (i+1) m (by omega) (by omega),drop_cons (z:=z) hil];show _=A (bif p (l.getD i z)then(i:Int)else Dh p (l.drop (i+1)) (i+1));cases p (l.getD i z) <;> rfl
def OR{X:Type}(F:Nat->X)(i:Nat)(x:X):Nat->X:=λk=>bif k.beq i then x else F k
def mH{X:Type}(e:X->List AV)(F:Nat->X)(i:Nat)(x:X):(λk=>bif k.beq i then e x else e (F k))=λk=>e (OR F i x k):=by funext k;unfold OR;cases k.beq i <;> rfl
def apT{X:Type}(F:Nat->X)(i:Nat)(x:X):OR F i x i=x:=by unfold OR;rw[AM.beq_true rfl];rfl
def adI{X:Type}(F:Nat->X){i k:Nat}(x:X)(h:k ≠ i):OR F i x k=F k:=by unfold OR;rw[AM.beq_false h];rfl
def agj{X:Type}{p:X->Bool}{x:X}(h:p x=true):([x].filter λx=>!p x)=[]:=by rw[OJ,h];rfl
def auF{X:Type}{p:X->Bool}{x:X}(h:p x=false):([x].filter λx=>!p x)=[x]:=by rw[OJ,h];rfl
def vx{X R:Type}{p:X->Bool}{l:List X}{z:X}{L:Nat->(Nat->X)->Int->Int->Option R}{A:(Nat->X)->Nat->Option R}(hn:l.length<=100000)
  (hst:∀ m F (i j:Int),L (m+1) F i j=bif decide (j<(l.length:Int))then rg j l.length (bif Nat.blt j.toNat l.length then bif !p (F j.toNat)then rg i l.length (bif Nat.blt i.toNat l.length&&true then L m (OR F i.toNat (F j.toNat)) (Ao (i+1)) (Ao (j+1))else none)else L m F i (Ao (j+1))else none)else
   bif decide (0<=i)&&decide (i<=(l.length:Int))then A F i.toNat else none) :
  ∀ (d i j m:Nat) (F:Nat->X),j+d=l.length->d<m->i<j->i=((l.take j).filter λx=>!p x).length->(∀ x,x<i->F x=((l.take j).filter λx=>!p x).getD x z)->(∀ x,j<=x->x<l.length->F x=l.getD x z) ->
   ∃ G:Nat->X,L m F (i:Nat) (j:Nat)=A G (l.filter λx=>!p x).length /\ ∀ x,x<(l.filter λx=>!p x).length->G x=(l.filter λx=>!p x).getD x z:=by
 intro d
 induction d with
 | zero=>intro i j m F hj hm DC hi h1 h2;obtain⟨m,rfl⟩:=B3 m (by omega);have ht:l.take j=l:=TG (by omega);rw[ht]at hi h1;rw[hst,AN (by omega),Aj,Ax (by omega),Ax (by omega),CV,Ae,BV];exact⟨F,by rw[<- hi],λx hx=>h1 x (by omega)⟩
 | succ d ih=>
  intro i j m F hj hm DC hi h1 h2;obtain⟨m,rfl⟩:=B3 m (by omega);have hjl:j<l.length:=by omega
  have hx:F j=l.getD j z:=h2 j (Ar _) hjl;have ht:l.take (j+1)=l.take j++[l.getD j z]:=by rw[Qh,List.getD,BR hjl];rfl
  rw[hst,Ax (by omega),Ae,B8 hjl,BV,Cd hjl,Ae,hx];cases hp:p (l.getD j z)with
  | true=>
   rw[Dr,Aj,Cs (by omega)];have hf:((l.take (j+1)).filter λx=>!p x)=((l.take j).filter λx=>!p x):=by rw[ht,XB,agj hp,FY]
   exact ih i (j+1) m F (by omega) (by omega) (by omega) (by rw[hf];exact hi) (λx hx=>by rw[hf];exact h1 x hx) (λx hx Fb=>h2 x (by omega) Fb)
  | false=>
   have hil:i<l.length:=by omega
   rw[EP,Ae,B8 hil,BV,Cd hil,CV,Ae,Cs (by omega),Cs (by omega)];have hf:((l.take (j+1)).filter λx=>!p x)=((l.take j).filter λx=>!p x)++[l.getD j z]:=by rw[ht,XB,auF hp]
   refine ih (i+1) (j+1) m _ (by omega) (by omega) (by omega) (by rw[hf,CB,<- hi];rfl) (λx hx=>?_) (λx hx Fb=>?_)
   ·rw[hf];by_cases hxi:x=i
    ·subst hxi;rw[apT];simp only[List.getD];rw[FC (by omega),show x - ((l.take j).filter λx=>!p x).length=0 by omega];rfl
    ·rw[adI _ _ hxi,h1 x (by omega)];simp only[List.getD];rw[DY (by omega)]
   ·rw[adI _ _ (by omega)];exact h2 x (by omega) Fb
def filter_none{X:Type}{p:X->Bool}{l:List X}(h:∀ x ∈ l,p x=false):(l.filter λx=>!p x)=l:=List.filter_eq_self.2 λx hx=>by simp[h x hx]
def getD_take{X:Type}{l:List X}{k x:Nat}{z:X}(h:x<k):(l.take k).getD x z=l.getD x z:=by simp only[List.getD,KV,Ay h]
def Bf{X:Type}(sz:Nat)(e:X->List AV)(z:X)(l:List X):BS:=.seq true sz l.length λi=>e (l.getD i z)
def apU{X:Type}{sz n:Nat}{e:X->List AV}{z:X}{l:List X}{f:Nat->List AV}(hn:l.length<=n)(h:∀ i,i<l.length->f i=e (l.getD i z)):Ib (.seq true sz n f) (Bf sz e z l):=
 .seq true sz n l.length f _ hn λi hi=>by rw[h i hi];exact .refl _
def m8{X:Type}{p:X->Bool}{l:List X}{z:X}{L:Nat->(Nat->X)->Int->Int->Option (AV × Heap)}{A:(Nat->X)->Nat->Option (AV × Heap)}{m:Nat}(hn:l.length<=100000)(hm:l.length<m)
  (hst:∀ m F (i j:Int),L (m+1) F i j=bif decide (j<(l.length:Int))then rg j l.length (bif Nat.blt j.toNat l.length then bif !p (F j.toNat)then rg i l.length (bif Nat.blt i.toNat l.length&&true then L m (OR F i.toNat (F j.toNat)) (Ao (i+1)) (Ao (j+1))else none)else L m F i (Ao (j+1))else none)else
   bif decide (0<=i)&&decide (i<=(l.length:Int))then A F i.toNat else none) (hi:Dh p l 0 ≠ -1) :
  ∃ G:Nat->X,L m (λi=>l.getD i z) (Dh p l 0) (Ao (Dh p l 0+1))=A G (l.filter λx=>!p x).length/\0<l.length/\(l.filter λx=>!p x).length<=l.length /\ ∀ x,x<(l.filter λx=>!p x).length->G x=(l.filter λx=>!p x).getD x z:=by
 obtain⟨k,h1,h2,h3,h4⟩:=tc z l 0 hi;rw[Ev]at h1;have hf0:((l.take k).filter λx=>!p x)=l.take k:=filter_none h4;have ht:l.take (k+1)=l.take k++[l.getD k z]:=by rw[Qh,List.getD,BR h2];rfl
 have hf:((l.take (k+1)).filter λx=>!p x)=l.take k:=by rw[ht,XB,hf0];rw[agj h3,FY]
 obtain⟨G,g1,g2⟩:=vx hn hst (l.length - (k+1)) k (k+1) m (λi=>l.getD i z) (by omega) (by omega) (by omega) (by rw[hf];simp;omega) (λx hx=>by rw[hf,getD_take hx]) (λx _ _=>rfl);refine⟨G,?_,by omega,KS _ _,g2⟩;rw[h1,Cs (by omega)];exact g1
abbrev AH:=Md.Item
abbrev An:=List UInt8
def Kt{X:Type}(d:List AV->X):BS->List X
 | .seq _ _ n f=>(List.range n).map λi=>d (f i)
 | .arr _ _ es=>es.map d
 | _=>[]
def S6{X:Type}{sz:Nat}{e:X->List AV}{d:List AV->X}{z:X}(h:∀ x,d (e x)=x)(l:List X):Kt d (Bf sz e z l)=l:=by show(List.range l.length).map (λi=>d (e (l.getD i z)))=l;refine List.ext_getElem (by simp) λi g1 g2=>?_;simp[h,List.getD,BR g2]
def asn:BS->AV
 | .arr _ _ [[c]]=>c
 | .seq _ _ _ f=>(f 0).getD 0 .undef
 | _=>.undef
def af:BS->List AV
 | .arr _ _ [c]=>c
 | .seq _ _ _ f=>f 0
 | _=>[]
def auG(b:BS):An:=match asn b with
 | .str s=>s
 | _=>[]
def aia(a:List AV):An:=match a.getD 1 .Ak with
 | .tp [.str s] _=>s
 | _=>[]
def axv(a:List AV):List AV:=match a.getD 1 .Ak with
 | .tp cs _=>cs
 | _=>[]
def oU(b:BS):List An × (An->Int):=match b with
 | .pmap _ ks val=>(ks,λk=>match val k with
  | .int _ n=>n
  | _=>0)
 | _=>([],λ_=>0)
def eO(l:List Af):Env:=Cw [] [(HP,5),(GX,5),(lG,0)] [] l
def fO:AV:=.fn (.func lG) [] [.ptr 1 0 0]
def hO(y:An):Heap:=[.arr true 1 [[.str y]]]
def pO(y:An)(x:AH):Bool:=A5 x.key y
def xCO:List AV->AH × An:=λa=>(Da (Bd a 0),aia a)
def jM(q:AH × An):List AV:=[.agg (AK q.1),.tp [.str q.2] 0]
def auH(q:AH × An):A6 (eO []) 9 lG (jM q)=some (.bool (pO q.2 q.1)):=by kernel_rfl
def YA:Af:=.spec lG xCO (λ_=>True) jM (λq=>.bool (pO q.2 q.1))
def nB:YA.Ok PG:=Af.BJ λq _=>Cx (λk hk=>by cases hk) (auH q)
def aso(q:AH × An):xCO (jM q)=q:=Cv rfl rfl
def gO{R:Type}(q:AH × An)(k:AH × An->Option R):Option R:=gC xCO (λ_=>True) jM (jM q) k
def agk{R:Type}(q:AH × An)(k:AH × An->Option R):gO q k=k q:=Bj q (aso q) trivial (.refl _)
def SIO(n:Nat)(F:Nat->AH)(y:An)(i:Int):St:={fr:=[(0,.sn 4 0 n),(1,fO),(7,.int .i64 n),(8,.int .i64 i)],hp:=.seq true 4 n (λi=>AK (F i))::hO y}
def qu(N m n:Nat)(F:Nat->AH)(y:An)(i:Int):Option (AV × Heap):=LP (eO [YA]) N 2 HP (Cm 2 2) 0 [] m (SIO n F y i)
abbrev YO:=List AH × An
def Fc(p:YO):List AV × Heap:=([.sn 4 0 p.1.length,fO],Bf 4 AK default p.1::hO p.2)
def auI(N:Nat)(p:YO):CO 2 (eO [YA]) (N+1) HP (Fc p).1 (Fc p).2=qu N N p.1.length (λi=>p.1.getD i default) p.2 0:=by kernel_rfl
def auJ(N m n:Nat)(F:Nat->AH)(y:An)(i:Int):qu N (m+1) n F y i=bif decide (i<(n:Int))then rg i n (bif Nat.blt i.toNat n then gO (F i.toNat,y) (λq=>bif pO q.2 q.1 then some (.int .i64 i,.seq true 4 n (λi=>AK (F i))::hO y)else qu N m n F y (Ao (i+1)))else none)else some (.int .i64 (-1),.seq true 4 n (λi=>AK (F i))::hO y):=by kernel_rfl
def cF(_:List AV)(h:Heap):YO:=(Kt Da (Ab h 0),auG (Ab h 1))
def aeM(p:YO):cF (Fc p).1 (Fc p).2=p:=Cv (S6 (sz:=4) (λ_=>rfl) p.1) rfl
def Ga(p:YO):Prop:=p.1.length<=100000
def asp(p:YO)(h:Ga p):At PG HP (Fc p).1 (Fc p).2 (.int .i64 (Dh (pO p.2) p.1 0)) (Fc p).2/\(Fc p).2.length<=(Fc p).2.length:=by
 obtain⟨N,hN⟩:∃ N,N=200000:=⟨_,rfl⟩
 refine Ds (ak nB AR) (c:=2) (n:=N+1) (Ar 2) ((auI N p).trans ?_);have:=fC (p:=pO p.2) (l:=p.1) (z:=default) (L:=λm i=>qu N m p.1.length (λi=>p.1.getD i default) p.2 i) (A:=λi=>some (.int .i64 i,(Fc p).2)) h
  (λm i=>by rw[auJ,agk];rfl) p.1.length 0 N (by omega) (by unfold Ga at h;omega)
 rw[Hf]at this;exact this
def jN:Af:=.EC HP cF Ga Fc (λp=>(.int .i64 (Dh (pO p.2) p.1 0),(Fc p).2))
def wD:jN.Ok PG:=Af.EL asp
def SDO(n:Nat)(F:Nat->AH)(y:An)(i j:Int):St:={fr:=[(0,.sn 4 0 n),(1,fO),(5,.int .i64 i),(6,.int .i64 j)],hp:=.seq true 4 n (λi=>AK (F i))::hO y}
def cG(N m n:Nat)(F:Nat->AH)(y:An)(i j:Int):Option (AV × Heap):=LP (eO [jN,YA]) N 2 GX (Cm 2 2) 0 [] m (SDO n F y i j)
def auK(N:Nat)(p:YO):CO 2 (eO [jN,YA]) (N+1) GX (Fc p).1 (Fc p).2=BA cF Ga Fc (Fc p).1 (Fc p).2 λq=>
 bif decide (Dh (pO q.2) q.1 0 = -1)then some (.sn 4 0 p.1.length,(Fc q).2)
 else LP (eO [jN,YA]) N 2 GX (Cm 2 2) 0 [] N {fr:=[(0,.sn 4 0 p.1.length),(1,fO),(5,.int .i64 (Dh (pO q.2) q.1 0)),(6,.int .i64 (Ao (Dh (pO q.2) q.1 0+1)))],hp:=(Fc q).2}:=by kernel_rfl
def AO(n:Nat)(y:An)(F:Nat->AH)(i:Nat):Option (AV × Heap):=
 bif Nat.blt 0 n then bif(n - i).beq 0 then some (.sn 4 0 i,.seq true 4 n (λi=>AK (F i))::hO y)
 else bif(i+(n - i)).ble n then some (.sn 4 0 i,.seq true 4 n (λk=>bif k.blt i then AK (F k)else bif k.blt (i+(n - i))then AK default else AK (F k))::hO y)else none
 else none
def auL(N m n:Nat)(F:Nat->AH)(y:An)(i j:Int):cG N (m+1) n F y i j =
 bif decide (j<(n:Int))then rg j n (bif Nat.blt j.toNat n then gO (F j.toNat,y) (λq=>bif !pO q.2 q.1 then rg i n (bif Nat.blt i.toNat n&&true then LP (eO [jN,YA]) N 2 GX (Cm 2 2) 0 [] m
  {fr:=[(0,.sn 4 0 n),(1,fO),(5,.int .i64 (Ao (i+1))),(6,.int .i64 (Ao (j+1)))],hp:=.seq true 4 n (λk=>bif k.beq i.toNat then AK (F j.toNat)else AK (F k))::hO y}else none)
  else cG N m n F y i (Ao (j+1)))else none)
 else bif decide (0<=i)&&decide (i<=(n:Int))then bif Nat.blt 0 n then bif(n - i.toNat).beq 0 then bif decide (0<=i)&&decide (i<=(n:Int))then some (.sn 4 0 i.toNat,.seq true 4 n (λi=>AK (F i))::hO y)else none
  else bif(i.toNat+(n - i.toNat)).ble n then bif decide (0<=i)&&decide (i<=(n:Int))then some (.sn 4 0 i.toNat,.seq true 4 n (λk=>bif k.blt i.toNat then AK (F k)else bif k.blt (i.toNat+(n - i.toNat))then AK default else AK (F k))::hO y)else none else none
  else none else none:=by kernel_rfl
def asq(N m n:Nat)(F:Nat->AH)(y:An)(i j:Int):cG N (m+1) n F y i j =
 bif decide (j<(n:Int))then rg j n (bif Nat.blt j.toNat n then bif !pO y (F j.toNat)then rg i n (bif Nat.blt i.toNat n&&true then cG N m n (OR F i.toNat (F j.toNat)) y (Ao (i+1)) (Ao (j+1))else none)else cG N m n F y i (Ao (j+1))else none)
 else bif decide (0<=i)&&decide (i<=(n:Int))then AO n y F i.toNat else none:=by
 rw[auL,agk,mH AK];unfold AO;cases decide (0<=i)&&decide (i<=(n:Int)) <;> rfl
def cH(p:YO):AV × Heap:=(.sn 4 0 (p.1.filter λx=>!pO p.2 x).length,Bf 4 AK default (p.1.filter λx=>!pO p.2 x)::hO p.2)
def asr(p:YO)(h:Ga p):At PG GX (Fc p).1 (Fc p).2 (cH p).1 (cH p).2/\(Fc p).2.length<=(cH p).2.length:=by
 obtain⟨N,hN⟩:∃ N,N=200000:=⟨_,rfl⟩
 have hq:∀ {K:YO->Option (AV × Heap)},BA cF Ga Fc (Fc p).1 (Fc p).2 K=K p:=λ{K}=>Dw p (aeM p) h (.refl _) (.refl _);have e:=auK N p;rw[hq]at e;by_cases hi:Dh (pO p.2) p.1 0 = -1
 ·rw[Ax hi,Ae]at e;have c:=(Ds (ak wD (ak nB AR)) (c:=2) (hp:=(Fc p).2) (Ar 2) e)
  have hf:=filter_none ((ZO p.1 0).1 hi);refine⟨?_,Ar _⟩;unfold cH;rw[hf];exact c.1
 ·rw[AN hi,Aj]at e;have hp:=h;unfold Ga at hp;obtain⟨G,g1,g2,g3,g4⟩:=m8 (p:=pO p.2) (z:=default) (L:=λm F i j=>cG N m p.1.length F p.2 i j) (A:=AO p.1.length p.2) (m:=N) hp (by omega) (λm F i j=>asq N m p.1.length F p.2 i j) hi;have e2:=e.trans g1;generalize hk:(p.1.filter λx=>!pO p.2 x).length=k at *;have hl:(Bf 4 AK default (p.1.filter λx=>!pO p.2 x))=.seq true 4 k λi=>AK ((p.1.filter λx=>!pO p.2 x).getD i default):=by unfold Bf;rw[hk]
  unfold AO at e2;rw[Cd g2,Ae]at e2;refine⟨?_,Ar _⟩;unfold cH;rw[hl,hk];cases hz:(p.1.length - k).beq 0 with
  | true=>rw[hz,Ae]at e2;have c:=(Ds (ak wD (ak nB AR)) (c:=2) (hp:=(Fc p).2) (Ar 2) e2).1;exact c.KN (.refl _) (.cons (.seq true 4 p.1.length k _ _ g3 λi hi=>by rw[g4 i hi];exact .refl _) (.refl _))
  | false=>rw[hz,Aj,D3 (by omega),Ae]at e2;have c:=(Ds (ak wD (ak nB AR)) (c:=2) (hp:=(Fc p).2) (Ar 2) e2).1;exact c.KN (.refl _) (.cons (.seq true 4 p.1.length k _ _ g3 λi hi=>by rw[Cd hi,Ae,g4 i hi];exact .refl _) (.refl _))
def kDO:Af:=.EC GX cF Ga Fc cH
def ass:kDO.Ok PG:=Af.EL asr
def eF(l:List Af):Env:=Cw [] [(HP,5),(GX,5),(dV,5)] [] l
def fF:AV:=.fn (.func dV) [] [.ptr 1 0 0]
def hF(y:List An × (An->Int)):Heap:=[.arr true 1 [[.mp 2]],.pmap true y.1 λk=>.int .i64 (y.2 k)]
def pF(y:List An × (An->Int))(x:AH):Bool:=bif Ck x.key y.1 then decide (0<y.2 x.key)else false
def tF{R:Type}(y:List An × (An->Int))(x:AH)(k:Bool->Option R):Option R:=bif Ck x.key y.1 then k (decide (0<y.2 x.key))else k false
def auM{R:Type}(y:List An × (An->Int))(x:AH)(k:Bool->Option R):tF y x k=k (pF y x):=by
 unfold tF pF
 first | rfl | (cases Ck x.key y.1 <;> rfl)
def xCF:List AV->Heap->AH × List An × (An->Int):=λa h=>(Da (Bd a 0),oU (Ab h 1))
def Sx(q:AH × List An × (An->Int)):List AV × Heap:=([.agg (AK q.1),.ptr 0 0 0],[.arr true 1 [[.mp 1]],.pmap true q.2.1 λk=>.int .i64 (q.2.2 k)])
def auN(q:AH × List An × (An->Int)):CO 2 (eF []) 9 dV (Sx q).1 (Sx q).2=tF q.2 q.1 λb=>some (.bool b,(Sx q).2):=by kernel_rfl
def YB:Af:=.EC dV xCF (λ_=>True) Sx (λq=>(.bool (pF q.2 q.1),(Sx q).2))
def nD:YB.Ok PG:=Af.EL λq _=>Ds (λk hk=>by cases hk) (c:=2) (n:=9) (Ar 2) ((auN q).trans (auM _ _ _))
def ast(q:AH × List An × (An->Int)):xCF (Sx q).1 (Sx q).2=q:=rfl
def gF{R:Type}(q:AH × List An × (An->Int))(k:AH × List An × (An->Int)->Option R):Option R:=BA xCF (λ_=>True) Sx (Sx q).1 (Sx q).2 k
def LA{R:Type}(q:AH × List An × (An->Int))(k:AH × List An × (An->Int)->Option R):gF q k=k q:=Dw q (ast q) trivial (.refl _) (.refl _)
def SIF(n:Nat)(F:Nat->AH)(y:List An × (An->Int))(i:Int):St:={fr:=[(0,.sn 4 0 n),(1,fF),(7,.int .i64 n),(8,.int .i64 i)],hp:=.seq true 4 n (λi=>AK (F i))::hF y}
def qx(N m n:Nat)(F:Nat->AH)(y:List An × (An->Int))(i:Int):Option (AV × Heap):=LP (eF [YB]) N 3 HP (Cm 3 3) 0 [] m (SIF n F y i)
abbrev YF:=List AH × List An × (An->Int)
def EH(p:YF):List AV × Heap:=([.sn 4 0 p.1.length,fF],Bf 4 AK default p.1::hF p.2)
def auO(N:Nat)(p:YF):CO 3 (eF [YB]) (N+1) HP (EH p).1 (EH p).2=qx N N p.1.length (λi=>p.1.getD i default) p.2 0:=by kernel_rfl
def auP(N m n:Nat)(F:Nat->AH)(y:List An × (An->Int))(i:Int):qx N (m+1) n F y i=bif decide (i<(n:Int))then rg i n (bif Nat.blt i.toNat n then gF (F i.toNat,y) (λq=>bif pF q.2 q.1 then some (.int .i64 i,.seq true 4 n (λi=>AK (F i))::hF y)else qx N m n F y (Ao (i+1)))else none)else some (.int .i64 (-1),.seq true 4 n (λi=>AK (F i))::hF y):=by kernel_rfl
def YC(_:List AV)(h:Heap):YF:=(Kt Da (Ab h 0),oU (Ab h 2))
def aeN(p:YF):YC (EH p).1 (EH p).2=p:=Cv (S6 (sz:=4) (λ_=>rfl) p.1) rfl
def QM(p:YF):Prop:=p.1.length<=100000
def asu(p:YF)(h:QM p):At PG HP (EH p).1 (EH p).2 (.int .i64 (Dh (pF p.2) p.1 0)) (EH p).2/\(EH p).2.length<=(EH p).2.length:=by
 obtain⟨N,hN⟩:∃ N,N=200000:=⟨_,rfl⟩
 refine Ds (ak nD AR) (c:=3) (n:=N+1) (Ar 3) ((auO N p).trans ?_);have:=fC (p:=pF p.2) (l:=p.1) (z:=default) (L:=λm i=>qx N m p.1.length (λi=>p.1.getD i default) p.2 i) (A:=λi=>some (.int .i64 i,(EH p).2)) h
  (λm i=>by rw[auP,LA];rfl) p.1.length 0 N (by omega) (by unfold QM at h;omega)
 rw[Hf]at this;exact this
def jO:Af:=.EC HP YC QM EH (λp=>(.int .i64 (Dh (pF p.2) p.1 0),(EH p).2))
def wE:jO.Ok PG:=Af.EL asu
def SDF(n:Nat)(F:Nat->AH)(y:List An × (An->Int))(i j:Int):St:={fr:=[(0,.sn 4 0 n),(1,fF),(5,.int .i64 i),(6,.int .i64 j)],hp:=.seq true 4 n (λi=>AK (F i))::hF y}
def cI(N m n:Nat)(F:Nat->AH)(y:List An × (An->Int))(i j:Int):Option (AV × Heap):=LP (eF [jO,YB]) N 3 GX (Cm 3 3) 0 [] m (SDF n F y i j)
def auQ(N:Nat)(p:YF):CO 3 (eF [jO,YB]) (N+1) GX (EH p).1 (EH p).2=BA YC QM EH (EH p).1 (EH p).2 λq=>
 bif decide (Dh (pF q.2) q.1 0 = -1)then some (.sn 4 0 p.1.length,(EH q).2)
 else LP (eF [jO,YB]) N 3 GX (Cm 3 3) 0 [] N {fr:=[(0,.sn 4 0 p.1.length),(1,fF),(5,.int .i64 (Dh (pF q.2) q.1 0)),(6,.int .i64 (Ao (Dh (pF q.2) q.1 0+1)))],hp:=(EH q).2}:=by kernel_rfl
def AF(n:Nat)(y:List An × (An->Int))(F:Nat->AH)(i:Nat):Option (AV × Heap):=
 bif Nat.blt 0 n then bif(n - i).beq 0 then some (.sn 4 0 i,.seq true 4 n (λi=>AK (F i))::hF y)
 else bif(i+(n - i)).ble n then some (.sn 4 0 i,.seq true 4 n (λk=>bif k.blt i then AK (F k)else bif k.blt (i+(n - i))then AK default else AK (F k))::hF y)else none
 else none
def auR(N m n:Nat)(F:Nat->AH)(y:List An × (An->Int))(i j:Int):cI N (m+1) n F y i j =
 bif decide (j<(n:Int))then rg j n (bif Nat.blt j.toNat n then gF (F j.toNat,y) (λq=>bif !pF q.2 q.1 then rg i n (bif Nat.blt i.toNat n&&true then LP (eF [jO,YB]) N 3 GX (Cm 3 3) 0 [] m
  {fr:=[(0,.sn 4 0 n),(1,fF),(5,.int .i64 (Ao (i+1))),(6,.int .i64 (Ao (j+1)))],hp:=.seq true 4 n (λk=>bif k.beq i.toNat then AK (F j.toNat)else AK (F k))::hF y}else none)
  else cI N m n F y i (Ao (j+1)))else none)
 else bif decide (0<=i)&&decide (i<=(n:Int))then bif Nat.blt 0 n then bif(n - i.toNat).beq 0 then bif decide (0<=i)&&decide (i<=(n:Int))then some (.sn 4 0 i.toNat,.seq true 4 n (λi=>AK (F i))::hF y)else none
  else bif(i.toNat+(n - i.toNat)).ble n then bif decide (0<=i)&&decide (i<=(n:Int))then some (.sn 4 0 i.toNat,.seq true 4 n (λk=>bif k.blt i.toNat then AK (F k)else bif k.blt (i.toNat+(n - i.toNat))then AK default else AK (F k))::hF y)else none else none
  else none else none:=by kernel_rfl
def asv(N m n:Nat)(F:Nat->AH)(y:List An × (An->Int))(i j:Int):cI N (m+1) n F y i j =
 bif decide (j<(n:Int))then rg j n (bif Nat.blt j.toNat n then bif !pF y (F j.toNat)then rg i n (bif Nat.blt i.toNat n&&true then cI N m n (OR F i.toNat (F j.toNat)) y (Ao (i+1)) (Ao (j+1))else none)else cI N m n F y i (Ao (j+1))else none)
 else bif decide (0<=i)&&decide (i<=(n:Int))then AF n y F i.toNat else none:=by
 rw[auR,LA,mH AK];unfold AF;cases decide (0<=i)&&decide (i<=(n:Int)) <;> rfl
def cJ(p:YF):AV × Heap:=(.sn 4 0 (p.1.filter λx=>!pF p.2 x).length,Bf 4 AK default (p.1.filter λx=>!pF p.2 x)::hF p.2)
def asw(p:YF)(h:QM p):At PG GX (EH p).1 (EH p).2 (cJ p).1 (cJ p).2/\(EH p).2.length<=(cJ p).2.length:=by
 obtain⟨N,hN⟩:∃ N,N=200000:=⟨_,rfl⟩
 have hq:∀ {K:YF->Option (AV × Heap)},BA YC QM EH (EH p).1 (EH p).2 K=K p:=λ{K}=>Dw p (aeN p) h (.refl _) (.refl _);have e:=auQ N p;rw[hq]at e;by_cases hi:Dh (pF p.2) p.1 0 = -1
 ·rw[Ax hi,Ae]at e;have c:=(Ds (ak wE (ak nD AR)) (c:=3) (hp:=(EH p).2) (Ar 3) e)
  have hf:=filter_none ((ZO p.1 0).1 hi);refine⟨?_,Ar _⟩;unfold cJ;rw[hf];exact c.1
 ·rw[AN hi,Aj]at e;have hp:=h;unfold QM at hp;obtain⟨G,g1,g2,g3,g4⟩:=m8 (p:=pF p.2) (z:=default) (L:=λm F i j=>cI N m p.1.length F p.2 i j) (A:=AF p.1.length p.2) (m:=N) hp (by omega) (λm F i j=>asv N m p.1.length F p.2 i j) hi;have e2:=e.trans g1;generalize hk:(p.1.filter λx=>!pF p.2 x).length=k at *;have hl:(Bf 4 AK default (p.1.filter λx=>!pF p.2 x))=.seq true 4 k λi=>AK ((p.1.filter λx=>!pF p.2 x).getD i default):=by unfold Bf;rw[hk]
  unfold AF at e2;rw[Cd g2,Ae]at e2;refine⟨?_,Ar _⟩;unfold cJ;rw[hl,hk];cases hz:(p.1.length - k).beq 0 with
  | true=>rw[hz,Ae]at e2;have c:=(Ds (ak wE (ak nD AR)) (c:=3) (hp:=(EH p).2) (Ar 3) e2).1;exact c.KN (.refl _) (.cons (.seq true 4 p.1.length k _ _ g3 λi hi=>by rw[g4 i hi];exact .refl _) (.refl _))
  | false=>rw[hz,Aj,D3 (by omega),Ae]at e2;have c:=(Ds (ak wE (ak nD AR)) (c:=3) (hp:=(EH p).2) (Ar 3) e2).1;exact c.KN (.refl _) (.cons (.seq true 4 p.1.length k _ _ g3 λi hi=>by rw[Cd hi,Ae,g4 i hi];exact .refl _) (.refl _))
def kDF:Af:=.EC GX YC QM EH cJ
def asx:kDF.Ok PG:=Af.EL asw
def eT(l:List Af):Env:=Cw [] [(HP,5),(GX,5),(dW,5)] [] l
def fT:AV:=.fn (.func dW) [] [.ptr 1 0 0]
def hT(y:List An × (An->Int)):Heap:=[.arr true 1 [[.mp 2]],.pmap true y.1 λk=>.int .i64 (y.2 k)]
def pT(y:List An × (An->Int))(x:AH):Bool:=bif Ck x.key y.1 then decide (y.2 x.key=0)else true
def tT{R:Type}(y:List An × (An->Int))(x:AH)(k:Bool->Option R):Option R:=bif Ck x.key y.1 then k (decide (y.2 x.key=0))else k true
def auS{R:Type}(y:List An × (An->Int))(x:AH)(k:Bool->Option R):tT y x k=k (pT y x):=by
 unfold tT pT
 first | rfl | (cases Ck x.key y.1 <;> rfl)
def xCT:List AV->Heap->AH × List An × (An->Int):=λa h=>(Da (Bd a 0),oU (Ab h 1))
def Sy(q:AH × List An × (An->Int)):List AV × Heap:=([.agg (AK q.1),.ptr 0 0 0],[.arr true 1 [[.mp 1]],.pmap true q.2.1 λk=>.int .i64 (q.2.2 k)])
def auT(q:AH × List An × (An->Int)):CO 2 (eT []) 9 dW (Sy q).1 (Sy q).2=tT q.2 q.1 λb=>some (.bool b,(Sy q).2):=by kernel_rfl
def YD:Af:=.EC dW xCT (λ_=>True) Sy (λq=>(.bool (pT q.2 q.1),(Sy q).2))
def nG:YD.Ok PG:=Af.EL λq _=>Ds (λk hk=>by cases hk) (c:=2) (n:=9) (Ar 2) ((auT q).trans (auS _ _ _))
def asy(q:AH × List An × (An->Int)):xCT (Sy q).1 (Sy q).2=q:=rfl
def gT{R:Type}(q:AH × List An × (An->Int))(k:AH × List An × (An->Int)->Option R):Option R:=BA xCT (λ_=>True) Sy (Sy q).1 (Sy q).2 k
def agl{R:Type}(q:AH × List An × (An->Int))(k:AH × List An × (An->Int)->Option R):gT q k=k q:=Dw q (asy q) trivial (.refl _) (.refl _)
def SIT(n:Nat)(F:Nat->AH)(y:List An × (An->Int))(i:Int):St:={fr:=[(0,.sn 4 0 n),(1,fT),(7,.int .i64 n),(8,.int .i64 i)],hp:=.seq true 4 n (λi=>AK (F i))::hT y}
def qz(N m n:Nat)(F:Nat->AH)(y:List An × (An->Int))(i:Int):Option (AV × Heap):=LP (eT [YD]) N 3 HP (Cm 3 3) 0 [] m (SIT n F y i)
abbrev YT:=List AH × List An × (An->Int)
def EJ(p:YT):List AV × Heap:=([.sn 4 0 p.1.length,fT],Bf 4 AK default p.1::hT p.2)
def auU(N:Nat)(p:YT):CO 3 (eT [YD]) (N+1) HP (EJ p).1 (EJ p).2=qz N N p.1.length (λi=>p.1.getD i default) p.2 0:=by kernel_rfl
def auV(N m n:Nat)(F:Nat->AH)(y:List An × (An->Int))(i:Int):qz N (m+1) n F y i=bif decide (i<(n:Int))then rg i n (bif Nat.blt i.toNat n then gT (F i.toNat,y) (λq=>bif pT q.2 q.1 then some (.int .i64 i,.seq true 4 n (λi=>AK (F i))::hT y)else qz N m n F y (Ao (i+1)))else none)else some (.int .i64 (-1),.seq true 4 n (λi=>AK (F i))::hT y):=by kernel_rfl
def YE(_:List AV)(h:Heap):YT:=(Kt Da (Ab h 0),oU (Ab h 2))
def aeO(p:YT):YE (EJ p).1 (EJ p).2=p:=Cv (S6 (sz:=4) (λ_=>rfl) p.1) rfl
def Sz(p:YT):Prop:=p.1.length<=100000
def asz(p:YT)(h:Sz p):At PG HP (EJ p).1 (EJ p).2 (.int .i64 (Dh (pT p.2) p.1 0)) (EJ p).2/\(EJ p).2.length<=(EJ p).2.length:=by
 obtain⟨N,hN⟩:∃ N,N=200000:=⟨_,rfl⟩
 refine Ds (ak nG AR) (c:=3) (n:=N+1) (Ar 3) ((auU N p).trans ?_);have:=fC (p:=pT p.2) (l:=p.1) (z:=default) (L:=λm i=>qz N m p.1.length (λi=>p.1.getD i default) p.2 i) (A:=λi=>some (.int .i64 i,(EJ p).2)) h
  (λm i=>by rw[auV,agl];rfl) p.1.length 0 N (by omega) (by unfold Sz at h;omega)
 rw[Hf]at this;exact this
def jP:Af:=.EC HP YE Sz EJ (λp=>(.int .i64 (Dh (pT p.2) p.1 0),(EJ p).2))
def wF:jP.Ok PG:=Af.EL asz
def SDT(n:Nat)(F:Nat->AH)(y:List An × (An->Int))(i j:Int):St:={fr:=[(0,.sn 4 0 n),(1,fT),(5,.int .i64 i),(6,.int .i64 j)],hp:=.seq true 4 n (λi=>AK (F i))::hT y}
def cK(N m n:Nat)(F:Nat->AH)(y:List An × (An->Int))(i j:Int):Option (AV × Heap):=LP (eT [jP,YD]) N 3 GX (Cm 3 3) 0 [] m (SDT n F y i j)
def auW(N:Nat)(p:YT):CO 3 (eT [jP,YD]) (N+1) GX (EJ p).1 (EJ p).2=BA YE Sz EJ (EJ p).1 (EJ p).2 λq=>
 bif decide (Dh (pT q.2) q.1 0 = -1)then some (.sn 4 0 p.1.length,(EJ q).2)
 else LP (eT [jP,YD]) N 3 GX (Cm 3 3) 0 [] N {fr:=[(0,.sn 4 0 p.1.length),(1,fT),(5,.int .i64 (Dh (pT q.2) q.1 0)),(6,.int .i64 (Ao (Dh (pT q.2) q.1 0+1)))],hp:=(EJ q).2}:=by kernel_rfl
def AT(n:Nat)(y:List An × (An->Int))(F:Nat->AH)(i:Nat):Option (AV × Heap):=
 bif Nat.blt 0 n then bif(n - i).beq 0 then some (.sn 4 0 i,.seq true 4 n (λi=>AK (F i))::hT y)
 else bif(i+(n - i)).ble n then some (.sn 4 0 i,.seq true 4 n (λk=>bif k.blt i then AK (F k)else bif k.blt (i+(n - i))then AK default else AK (F k))::hT y)else none
 else none
def auX(N m n:Nat)(F:Nat->AH)(y:List An × (An->Int))(i j:Int):cK N (m+1) n F y i j =
 bif decide (j<(n:Int))then rg j n (bif Nat.blt j.toNat n then gT (F j.toNat,y) (λq=>bif !pT q.2 q.1 then rg i n (bif Nat.blt i.toNat n&&true then LP (eT [jP,YD]) N 3 GX (Cm 3 3) 0 [] m
  {fr:=[(0,.sn 4 0 n),(1,fT),(5,.int .i64 (Ao (i+1))),(6,.int .i64 (Ao (j+1)))],hp:=.seq true 4 n (λk=>bif k.beq i.toNat then AK (F j.toNat)else AK (F k))::hT y}else none)
  else cK N m n F y i (Ao (j+1)))else none)
 else bif decide (0<=i)&&decide (i<=(n:Int))then bif Nat.blt 0 n then bif(n - i.toNat).beq 0 then bif decide (0<=i)&&decide (i<=(n:Int))then some (.sn 4 0 i.toNat,.seq true 4 n (λi=>AK (F i))::hT y)else none
  else bif(i.toNat+(n - i.toNat)).ble n then bif decide (0<=i)&&decide (i<=(n:Int))then some (.sn 4 0 i.toNat,.seq true 4 n (λk=>bif k.blt i.toNat then AK (F k)else bif k.blt (i.toNat+(n - i.toNat))then AK default else AK (F k))::hT y)else none else none
  else none else none:=by kernel_rfl
def asA(N m n:Nat)(F:Nat->AH)(y:List An × (An->Int))(i j:Int):cK N (m+1) n F y i j =
 bif decide (j<(n:Int))then rg j n (bif Nat.blt j.toNat n then bif !pT y (F j.toNat)then rg i n (bif Nat.blt i.toNat n&&true then cK N m n (OR F i.toNat (F j.toNat)) y (Ao (i+1)) (Ao (j+1))else none)else cK N m n F y i (Ao (j+1))else none)
 else bif decide (0<=i)&&decide (i<=(n:Int))then AT n y F i.toNat else none:=by
 rw[auX,agl,mH AK];unfold AT;cases decide (0<=i)&&decide (i<=(n:Int)) <;> rfl
def cL(p:YT):AV × Heap:=(.sn 4 0 (p.1.filter λx=>!pT p.2 x).length,Bf 4 AK default (p.1.filter λx=>!pT p.2 x)::hT p.2)
def asB(p:YT)(h:Sz p):At PG GX (EJ p).1 (EJ p).2 (cL p).1 (cL p).2/\(EJ p).2.length<=(cL p).2.length:=by
 obtain⟨N,hN⟩:∃ N,N=200000:=⟨_,rfl⟩
 have hq:∀ {K:YT->Option (AV × Heap)},BA YE Sz EJ (EJ p).1 (EJ p).2 K=K p:=λ{K}=>Dw p (aeO p) h (.refl _) (.refl _);have e:=auW N p;rw[hq]at e;by_cases hi:Dh (pT p.2) p.1 0 = -1
 ·rw[Ax hi,Ae]at e;have c:=(Ds (ak wF (ak nG AR)) (c:=3) (hp:=(EJ p).2) (Ar 3) e)
  have hf:=filter_none ((ZO p.1 0).1 hi);refine⟨?_,Ar _⟩;unfold cL;rw[hf];exact c.1
 ·rw[AN hi,Aj]at e;have hp:=h;unfold Sz at hp;obtain⟨G,g1,g2,g3,g4⟩:=m8 (p:=pT p.2) (z:=default) (L:=λm F i j=>cK N m p.1.length F p.2 i j) (A:=AT p.1.length p.2) (m:=N) hp (by omega) (λm F i j=>asA N m p.1.length F p.2 i j) hi;have e2:=e.trans g1;generalize hk:(p.1.filter λx=>!pT p.2 x).length=k at *;have hl:(Bf 4 AK default (p.1.filter λx=>!pT p.2 x))=.seq true 4 k λi=>AK ((p.1.filter λx=>!pT p.2 x).getD i default):=by unfold Bf;rw[hk]
  unfold AT at e2;rw[Cd g2,Ae]at e2;refine⟨?_,Ar _⟩;unfold cL;rw[hl,hk];cases hz:(p.1.length - k).beq 0 with
  | true=>rw[hz,Ae]at e2;have c:=(Ds (ak wF (ak nG AR)) (c:=3) (hp:=(EJ p).2) (Ar 3) e2).1;exact c.KN (.refl _) (.cons (.seq true 4 p.1.length k _ _ g3 λi hi=>by rw[g4 i hi];exact .refl _) (.refl _))
  | false=>rw[hz,Aj,D3 (by omega),Ae]at e2;have c:=(Ds (ak wF (ak nG AR)) (c:=3) (hp:=(EJ p).2) (Ar 3) e2).1;exact c.KN (.refl _) (.cons (.seq true 4 p.1.length k _ _ g3 λi hi=>by rw[Cd hi,Ae,g4 i hi];exact .refl _) (.refl _))
def kDT:Af:=.EC GX YE Sz EJ cL
def asC:kDT.Ok PG:=Af.EL asB
def eW(l:List Af):Env:=Cw [] [(dP,5),(Uy,5),(lC,0)] [] l
def fW:AV:=.fn (.func lC) [] [.ptr 1 0 0]
def hW(y:Ad):Heap:=[.arr true 31 [Aq y]]
def pW(y:Ad)(x:C4):Bool:=decide (x.Ah=y.Ah)
def xCW:List AV->C4 × Ad:=λa=>(S7 (Bd a 0),Dj (axv a))
def jQ(q:C4 × Ad):List AV:=[.agg (Cz q.1),.tp (Aq q.2) 0]
def auY(q:C4 × Ad):A6 (eW []) 9 lC (jQ q)=some (.bool (pW q.2 q.1)):=by kernel_rfl
def YG:Af:=.spec lC xCW (λ_=>True) jQ (λq=>.bool (pW q.2 q.1))
def nH:YG.Ok PG:=Af.BJ λq _=>Cx (λk hk=>by cases hk) (auY q)
def asD(q:C4 × Ad):xCW (jQ q)=q:=Cv rfl (Ml q.2)
def gW{R:Type}(q:C4 × Ad)(k:C4 × Ad->Option R):Option R:=gC xCW (λ_=>True) jQ (jQ q) k
def agm{R:Type}(q:C4 × Ad)(k:C4 × Ad->Option R):gW q k=k q:=Bj q (asD q) trivial (.refl _)
def SIW(n:Nat)(F:Nat->C4)(y:Ad)(i:Int):St:={fr:=[(0,.sn 4 0 n),(1,fW),(7,.int .i64 n),(8,.int .i64 i)],hp:=.seq true 4 n (λi=>Cz (F i))::hW y}
def qA(N m n:Nat)(F:Nat->C4)(y:Ad)(i:Int):Option (AV × Heap):=LP (eW [YG]) N 2 dP (Cm 2 2) 0 [] m (SIW n F y i)
abbrev YW:=List C4 × Ad
def Er(p:YW):List AV × Heap:=([.sn 4 0 p.1.length,fW],Bf 4 Cz default p.1::hW p.2)
def auZ(N:Nat)(p:YW):CO 2 (eW [YG]) (N+1) dP (Er p).1 (Er p).2=qA N N p.1.length (λi=>p.1.getD i default) p.2 0:=by kernel_rfl
def au0(N m n:Nat)(F:Nat->C4)(y:Ad)(i:Int):qA N (m+1) n F y i=bif decide (i<(n:Int))then rg i n (bif Nat.blt i.toNat n then gW (F i.toNat,y) (λq=>bif pW q.2 q.1 then some (.int .i64 i,.seq true 4 n (λi=>Cz (F i))::hW y)else qA N m n F y (Ao (i+1)))else none)else some (.int .i64 (-1),.seq true 4 n (λi=>Cz (F i))::hW y):=by kernel_rfl
def YH(_:List AV)(h:Heap):YW:=(Kt S7 (Ab h 0),Dj (af (Ab h 1)))
def aeP(p:YW):YH (Er p).1 (Er p).2=p:=Cv (S6 (sz:=4) (λ_=>rfl) p.1) (Ml p.2)
def SB(p:YW):Prop:=p.1.length<=100000
def asE(p:YW)(h:SB p):At PG dP (Er p).1 (Er p).2 (.int .i64 (Dh (pW p.2) p.1 0)) (Er p).2/\(Er p).2.length<=(Er p).2.length:=by
 obtain⟨N,hN⟩:∃ N,N=200000:=⟨_,rfl⟩
 refine Ds (ak nH AR) (c:=2) (n:=N+1) (Ar 2) ((auZ N p).trans ?_);have:=fC (p:=pW p.2) (l:=p.1) (z:=default) (L:=λm i=>qA N m p.1.length (λi=>p.1.getD i default) p.2 i) (A:=λi=>some (.int .i64 i,(Er p).2)) h
  (λm i=>by rw[au0,agm];rfl) p.1.length 0 N (by omega) (by unfold SB at h;omega)
 rw[Hf]at this;exact this
def jR:Af:=.EC dP YH SB Er (λp=>(.int .i64 (Dh (pW p.2) p.1 0),(Er p).2))
def wG:jR.Ok PG:=Af.EL asE
def SDW(n:Nat)(F:Nat->C4)(y:Ad)(i j:Int):St:={fr:=[(0,.sn 4 0 n),(1,fW),(5,.int .i64 i),(6,.int .i64 j)],hp:=.seq true 4 n (λi=>Cz (F i))::hW y}
def cM(N m n:Nat)(F:Nat->C4)(y:Ad)(i j:Int):Option (AV × Heap):=LP (eW [jR,YG]) N 2 Uy (Cm 2 2) 0 [] m (SDW n F y i j)
def au1(N:Nat)(p:YW):CO 2 (eW [jR,YG]) (N+1) Uy (Er p).1 (Er p).2=BA YH SB Er (Er p).1 (Er p).2 λq=>
 bif decide (Dh (pW q.2) q.1 0 = -1)then some (.sn 4 0 p.1.length,(Er q).2)
 else LP (eW [jR,YG]) N 2 Uy (Cm 2 2) 0 [] N {fr:=[(0,.sn 4 0 p.1.length),(1,fW),(5,.int .i64 (Dh (pW q.2) q.1 0)),(6,.int .i64 (Ao (Dh (pW q.2) q.1 0+1)))],hp:=(Er q).2}:=by kernel_rfl
def AW(n:Nat)(y:Ad)(F:Nat->C4)(i:Nat):Option (AV × Heap):=
 bif Nat.blt 0 n then bif(n - i).beq 0 then some (.sn 4 0 i,.seq true 4 n (λi=>Cz (F i))::hW y)
 else bif(i+(n - i)).ble n then some (.sn 4 0 i,.seq true 4 n (λk=>bif k.blt i then Cz (F k)else bif k.blt (i+(n - i))then Cz default else Cz (F k))::hW y)else none
 else none
def au2(N m n:Nat)(F:Nat->C4)(y:Ad)(i j:Int):cM N (m+1) n F y i j =
 bif decide (j<(n:Int))then rg j n (bif Nat.blt j.toNat n then gW (F j.toNat,y) (λq=>bif !pW q.2 q.1 then rg i n (bif Nat.blt i.toNat n&&true then LP (eW [jR,YG]) N 2 Uy (Cm 2 2) 0 [] m
  {fr:=[(0,.sn 4 0 n),(1,fW),(5,.int .i64 (Ao (i+1))),(6,.int .i64 (Ao (j+1)))],hp:=.seq true 4 n (λk=>bif k.beq i.toNat then Cz (F j.toNat)else Cz (F k))::hW y}else none)
  else cM N m n F y i (Ao (j+1)))else none)
 else bif decide (0<=i)&&decide (i<=(n:Int))then bif Nat.blt 0 n then bif(n - i.toNat).beq 0 then bif decide (0<=i)&&decide (i<=(n:Int))then some (.sn 4 0 i.toNat,.seq true 4 n (λi=>Cz (F i))::hW y)else none
  else bif(i.toNat+(n - i.toNat)).ble n then bif decide (0<=i)&&decide (i<=(n:Int))then some (.sn 4 0 i.toNat,.seq true 4 n (λk=>bif k.blt i.toNat then Cz (F k)else bif k.blt (i.toNat+(n - i.toNat))then Cz default else Cz (F k))::hW y)else none else none
  else none else none:=by kernel_rfl
def asF(N m n:Nat)(F:Nat->C4)(y:Ad)(i j:Int):cM N (m+1) n F y i j =
 bif decide (j<(n:Int))then rg j n (bif Nat.blt j.toNat n then bif !pW y (F j.toNat)then rg i n (bif Nat.blt i.toNat n&&true then cM N m n (OR F i.toNat (F j.toNat)) y (Ao (i+1)) (Ao (j+1))else none)else cM N m n F y i (Ao (j+1))else none)
 else bif decide (0<=i)&&decide (i<=(n:Int))then AW n y F i.toNat else none:=by
 rw[au2,agm,mH Cz];unfold AW;cases decide (0<=i)&&decide (i<=(n:Int)) <;> rfl
def cN(p:YW):AV × Heap:=(.sn 4 0 (p.1.filter λx=>!pW p.2 x).length,Bf 4 Cz default (p.1.filter λx=>!pW p.2 x)::hW p.2)
def asG(p:YW)(h:SB p):At PG Uy (Er p).1 (Er p).2 (cN p).1 (cN p).2/\(Er p).2.length<=(cN p).2.length:=by
 obtain⟨N,hN⟩:∃ N,N=200000:=⟨_,rfl⟩
 have hq:∀ {K:YW->Option (AV × Heap)},BA YH SB Er (Er p).1 (Er p).2 K=K p:=λ{K}=>Dw p (aeP p) h (.refl _) (.refl _);have e:=au1 N p;rw[hq]at e;by_cases hi:Dh (pW p.2) p.1 0 = -1
 ·rw[Ax hi,Ae]at e;have c:=(Ds (ak wG (ak nH AR)) (c:=2) (hp:=(Er p).2) (Ar 2) e)
  have hf:=filter_none ((ZO p.1 0).1 hi);refine⟨?_,Ar _⟩;unfold cN;rw[hf];exact c.1
 ·rw[AN hi,Aj]at e;have hp:=h;unfold SB at hp;obtain⟨G,g1,g2,g3,g4⟩:=m8 (p:=pW p.2) (z:=default) (L:=λm F i j=>cM N m p.1.length F p.2 i j) (A:=AW p.1.length p.2) (m:=N) hp (by omega) (λm F i j=>asF N m p.1.length F p.2 i j) hi;have e2:=e.trans g1;generalize hk:(p.1.filter λx=>!pW p.2 x).length=k at *;have hl:(Bf 4 Cz default (p.1.filter λx=>!pW p.2 x))=.seq true 4 k λi=>Cz ((p.1.filter λx=>!pW p.2 x).getD i default):=by unfold Bf;rw[hk]
  unfold AW at e2;rw[Cd g2,Ae]at e2;refine⟨?_,Ar _⟩;unfold cN;rw[hl,hk];cases hz:(p.1.length - k).beq 0 with
  | true=>rw[hz,Ae]at e2;have c:=(Ds (ak wG (ak nH AR)) (c:=2) (hp:=(Er p).2) (Ar 2) e2).1;exact c.KN (.refl _) (.cons (.seq true 4 p.1.length k _ _ g3 λi hi=>by rw[g4 i hi];exact .refl _) (.refl _))
  | false=>rw[hz,Aj,D3 (by omega),Ae]at e2;have c:=(Ds (ak wG (ak nH AR)) (c:=2) (hp:=(Er p).2) (Ar 2) e2).1;exact c.KN (.refl _) (.cons (.seq true 4 p.1.length k _ _ g3 λi hi=>by rw[Cd hi,Ae,g4 i hi];exact .refl _) (.refl _))
def kDW:Af:=.EC Uy YH SB Er cN
def asH:kDW.Ok PG:=Af.EL asG
def mI{X:Type}(e:X->List AV)(z:X)(l k:List X):BQ l.length (λi=>e (l.getD i z)) (View.fn k.length λi=>e (k.getD i z))=λi=>e ((l++k).getD i z):=acg e z l k
def mJ{X:Type}(e:X->List AV)(z:X)(l:List X)(x:X):BQ l.length (λi=>e (l.getD i z)) (View.list [e x])=λi=>e ((l++[x]).getD i z):=ach e z l [x]
def vy{X:Type}(sz:Nat)(e:X->List AV)(z:X)(l:List X)(x:X):BS.seq true sz (l.length+1) (BQ l.length (λi=>e (l.getD i z)) (View.list [e x]))=Bf sz e z (l++[x]):=by unfold Bf;rw[mJ,CB];rfl
def apV{X:Type}(sz:Nat)(e:X->List AV)(z:X)(l k:List X):BS.seq true sz (l.length+k.length) (BQ l.length (λi=>e (l.getD i z)) (View.fn k.length λi=>e (k.getD i z)))=Bf sz e z (l++k):=by unfold Bf;rw[mI,CB]
def Uj(l:List Af):Env:=Cw [] [(Nl,1),(GX,5),(HP,0),(Xf,1),(eQ,0),(lX,0)] [] l
def asI(l:List AH)(key:An):CO 0 (Uj [Vh Nl 4,kDO]) 9 Xf [Bi l,AV.str key] [] =
 gC (D1) (C9) (D2 4) ([AV.tr 4 l.length λi=>AK (l.getD i default)]) λy0=>
 BA (cF) (Ga) (Fc) ([AV.sn 4 0 y0.fst,AV.fn (Fn.func 153) [] [AV.ptr 1 0 0]]) ([BS.seq true 4 y0.fst y0.snd,BS.arr true 1 [[AV.str key]]]) λy1=>
 some ((AV.sn 4 0 (List.filter (λx=>!pO y1.snd x) y1.fst).length,[BS.seq true 4 (List.filter (λx=>!pO y1.snd x) y1.fst).length λi=>AK ((List.filter (λx=>!pO y1.snd x) y1.fst).getD i default)])):=by kernel_rfl
def CX(l:List AH)(key:An):List AH:=l.filter λx=>!A5 x.key key
def NS(p:YO):List AV:=[Bi p.1,.str p.2]
def Qo(a:List AV):YO:=(Bm Da (a.getD 0 .Ak),Ia a 1)
def m9(p:YO):Qo (NS p)=p:=Cv (Og p.1) rfl
def acz:(Vh Nl 4).Ok PG:=UR fa
def abx:(Jy Nl 4).Ok PG:=J7 fa
def adJ(p:YO)(h:Ga p):At PG Xf (NS p) [] (.sn 4 0 (CX p.1 p.2).length) [Bf 4 AK default (CX p.1 p.2)]:=by refine iD (ak acz (ak ass AR)) ((asI p.1 p.2).trans ?_);rw[Wm h];exact Dw (p.1,p.2) (aeM (p.1,p.2)) h (.refl _) (.refl _)
def yN:Af:=.Ly Xf Qo Ga NS (λp=>(.sn 4 0 (CX p.1 p.2).length,[Bf 4 AK default (CX p.1 p.2)]))
def adK:yN.Ok PG:=Af.Mn adJ
def aib{R:Type}{l:List AH}{key:An}{k:YO->Option R}(h:l.length<=100000):gC Qo Ga NS [.tr 4 l.length λi=>AK (l.getD i default),.str key] k=k (l,key):=Bj (l,key) (m9 (l,key)) h (.refl _)
def agn:Af:=.spec Xf Qo Ga NS (λp=>Bi (CX p.1 p.2))
def snL{X:Type}(sz:Nat)(e:X->List AV)(z:X)(l:List X):By (.sn sz 0 l.length) [Bf sz e z l]=some (DQ sz e z l):=by show(bif Nat.ble l.length l.length then some (DQ sz e z l)else none)=_;rw[D3 (Ar _)];rfl
def anx:agn.Ok PG:=Af.BJ λp h=>(adJ p h).mZ (snL _ _ _ _)
def size_eq(x:AH):A6 (Uj []) 9 lX [AV.agg (AK x)] =
 some (AV.int .i64 (Ao (Ao ((↑x.key.length:Int)+(↑x.val.length:Int))+1))):=by kernel_rfl
def QN(x:AH):Nat:=x.key.length+x.val.length+1
def Ix(x:AH):Prop:=x.key.length<=2000/\x.val.length<=2000
def qB{n:Nat}(h:n<=1000000000):Ao (n:Int)=n:=wrap64 (by omega)
def oV{a b:Nat}(h:a+b<=1000000000):Ao ((a:Int)+(b:Int))=((a+b:Nat):Int):=by rw[show(a:Int)+(b:Int)=((a+b:Nat):Int) by omega];exact qB h
def anz(x:AH)(h:Ix x):At PG lX [.agg (AK x)] [] (.int .i64 (QN x)) []:=by have:=h.1;have:=h.2;refine Cx (λk hk=>by cases hk) ((size_eq x).trans ?_);rw[oV (by omega),show((x.key.length+x.val.length:Nat):Int)+1=((x.key.length+x.val.length+1:Nat):Int) by omega,qB (by omega)];rfl
def oW:Af:=.spec lX (λa=>Da (Bd a 0)) Ix (λx=>[.agg (AK x)]) (λx=>.int .i64 (QN x))
def adL:oW.Ok PG:=Af.BJ anz
def aic{R:Type}(x:AH)(k:AH->Option R):Option R:=gC (λa=>Da (Bd a 0)) Ix (λx=>[.agg (AK x)]) [.agg (AK x)] k
def adM{R:Type}{x:AH}{k:AH->Option R}(h:Ix x):aic x k=k x:=Bj x rfl h (.refl _)
def SSz(l:List AH)(s i:Int):St:={fr:=[(3,.int .i64 s),(6,Bi l),(7,.int .i64 l.length),(8,.int .i64 i)],hp:=[]}
def qC(N m:Nat)(l:List AH)(s i:Int):Option AV:=LP (Uj [oW]) N 0 eQ By 0 [] m (SSz l s i)
def apW(N:Nat)(l:List AH):A6 (Uj [oW]) (N+1) eQ [Bi l]=qC N N l 0 0:=by kernel_rfl
def adN(N m:Nat)(l:List AH)(s i:Int):qC N (m+1) l s i=bif decide (i<(l.length:Int))then rg i l.length (aic (l.getD i.toNat default) λy=>qC N m l (Ao (s+QN y)) (Ao (i+1)))else some (.int .i64 s):=by kernel_rfl
def FM(l:List AH):Nat:=(l.map QN).sum
def apX(a b:List AH):FM (a++b)=FM a+FM b:=by simp[FM]
def aeQ{l:List AH}(h:∀ x ∈ l,Ix x):FM l<=4001*l.length:=by
 induction l with
 | nil=>simp[FM]
 | cons x r ih=>
  have:=ih λy hy=>h y (by simp[hy]);have h1:=h x (by simp);have h2:QN x<=4001:=by unfold QN;have:=h1.1;have:=h1.2;omega
  have:FM (x::r)=QN x+FM r:=by simp[FM]
  rw[this,CR];omega
def Nw(l:List AH):Prop:=l.length<=100000 /\ ∀ x ∈ l,Ix x
def adO{l:List AH}(h:Nw l){i:Nat}(hi:i<l.length):Ix (l.getD i default):=h.2 _ (De hi)
def anA{l:List AH}{i:Nat}(h:i<l.length):FM (l.take (i+1))=FM (l.take i)+QN (l.getD i default):=by rw[Qh,apX,BR h];simp[FM,List.getD,BR h]
def anB(l:List AH)(h:Nw l):At PG eQ [Bi l] [] (.int .i64 (FM l)) []:=by
 obtain⟨N,hN⟩:∃ N,N=200000:=⟨_,rfl⟩
 have hl:=h.1;refine Cx (ak adL AR) ((apW N l).trans ?_);have:=fy (n:=l.length) (λi m=>qC N m l (FM (l.take i):Nat) (i:Nat)=some (.int .i64 (FM l:Nat))) (λm=>?_) (λi m hi ih=>?_) 0 N (Bu _) (by omega)
 ·simpa [FM] using this
 ·rw[adN,AN (by omega),Aj,TG (Ar _)]
 ·have hb:=aeQ (l:=l.take (i+1)) λx hx=>h.2 x (az hx);rw[List.length_take]at hb;have e:=anA hi;rw[adN,Ax (by omega),Ae,B8 hi,BV,adM (adO h hi),oV (by omega),Cs (by omega),<- e];exact ih
def kSz:Af:=.spec eQ (λa=>Bm Da (a.getD 0 .Ak)) Nw (λl=>[Bi l]) (λl=>.int .i64 (FM l))
def asJ:kSz.Ok PG:=Af.BJ anB
def qSz{R:Type}{l:List AH}{k:List AH->Option R}(h:Nw l):gC (λa=>Bm Da (a.getD 0 .Ak)) Nw (λl=>[Bi l]) [Bi l] k=k l:=Bj l (Og l) h (.refl _)
abbrev LX:=List AH × AH × Int
def Vy(p:LX):List AV:=[Bi p.1,.agg (AK p.2.1),.int .i64 p.2.2]
def cO:List Af:=[oW,yN,kSz,Jy Nl 4]
def asK:∀ k ∈ cO,k.Ok PG:=ak adL (ak adK (ak asJ (ak abx AR)))
def SPu(l:List AH)(room s g:Int):St:={fr:=[(2,.int .i64 room),(7,.sn 4 0 l.length),(8,.int .i64 s),(9,.int .i64 g)],hp:=[Bf 4 AK default l]}
def asL(N:Nat)(p:LX):A6 (Uj cO) (N+1) S0 (Vy p) =
 gC (Qo) (Ga) (NS) ([AV.tr 4 p.fst.length λi=>AK (p.fst.getD i default),AV.str p.snd.fst.key]) λy0=>
 bif(CX y0.fst y0.snd).length.ble (CX y0.fst y0.snd).length then
  bif(((CX y0.fst y0.snd).length+1)*56).ble 140737488355328&&((CX y0.fst y0.snd).length+1).ble 140737488355328 then
   bif((CX y0.fst y0.snd).length+1).ble ((CX y0.fst y0.snd).length+1)&&true then
    gC (λa=>Bm Da (a.getD 0 AV.Ak)) (Nw) (λl=>[Bi l]) ([AV.tr 4 ((CX y0.fst y0.snd).length+1) (BQ (CX y0.fst y0.snd).length (λi=>AK ((CX y0.fst y0.snd).getD i default)) (View.list [AK p.snd.fst]))]) λy1=>
    LP (Uj cO) (N) 0 (S0) By 0 [] (N) ({fr:=[(2,AV.int .i64 p.snd.snd),(7,AV.sn 4 0 ((CX y0.fst y0.snd).length+1)),(8,AV.int .i64 (↑(FM y1):Int)),(9,AV.int .i64 0)],hp:=[BS.seq true 4 ((CX y0.fst y0.snd).length+1) (BQ (CX y0.fst y0.snd).length (λi=>AK ((CX y0.fst y0.snd).getD i default)) (View.list [AK p.snd.fst]))]})
   else none
  else none
 else none:=by kernel_rfl
def aeR(N:Nat)(m:Nat)(l:List AH)(room:Int)(s:Int)(g:Int):LP (Uj cO) N 0 S0 By 0 [] (m+1) (SPu l room s g) =
 bif decide (g<(↑l.length:Int))then
  bif decide (room<s)then
   bif decide (0<=g)&&decide (g<(↑l.length:Int))then
    bif g.toNat.blt l.length then
     gC (λa=>Da (Bd a 0)) (Ix) (λx=>[AV.agg (AK x)]) ([AV.agg (AK (l.getD g.toNat default))]) λy2=>
     LP (Uj cO) (N) (0) (S0) (By) 0 ([]) (m) (SPu l room (Ao (s - (↑(QN y2):Int))) (Ao (g+1)))
    else none
   else none
  else
   bif decide ((↑l.length:Int)<=(↑l.length:Int))then
    bif decide ((↑l.length:Int)<=(↑(↑l.length:Int).toNat:Int))then
     bif decide (0<=g)&&decide (g<=(↑(↑l.length:Int).toNat:Int))then
      bif Nat.blt 0 l.length then
       bif(((↑l.length:Int).toNat - g.toNat).beq 0||((↑l.length:Int).toNat - g.toNat+g.toNat).ble l.length)&&true then
        gC (D1) (C9) (D2 4) ([AV.tr 4 ((↑l.length:Int).toNat - g.toNat) λi=>AK (l.getD (i+g.toNat) default)]) λy3=>
        some (AV.tr 4 y3.fst y3.snd)
       else none
      else none
     else none
    else none
   else none
 else
  bif decide ((↑l.length:Int)<=(↑l.length:Int))then
   bif decide ((↑l.length:Int)<=(↑(↑l.length:Int).toNat:Int))then
    bif decide (0<=g)&&decide (g<=(↑(↑l.length:Int).toNat:Int))then
     bif Nat.blt 0 l.length then
      bif(((↑l.length:Int).toNat - g.toNat).beq 0||((↑l.length:Int).toNat - g.toNat+g.toNat).ble l.length)&&true then
       gC (D1) (C9) (D2 4) ([AV.tr 4 ((↑l.length:Int).toNat - g.toNat) λi=>AK (l.getD (i+g.toNat) default)]) λy4=>
       some (AV.tr 4 y4.fst y4.snd)
      else none
     else none
    else none
   else none
  else none:=by kernel_rfl
def R9(room:Int):List AH->List AH
 | []=>[]
 | x::r=>bif decide (room<(FM (x::r):Int))then R9 room r else x::r
def GC(p:LX):List AH:=R9 p.2.2 (CX p.1 p.2.1.key++[p.2.1])
def OS(p:LX):Prop:=Nw p.1/\Ix p.2.1/\p.1.length<=10000
def Z0(l:List AH)(k:An):(CX l k).length<=l.length:=KS _ _
def apY{l:List AH}{k:An}(h:Nw l):Nw (CX l k):=⟨CI (Z0 l k) h.1,λx hx=>h.2 x ((Gz.1 hx).1)⟩
def acA(room:Int):∀ l,(R9 room l).length<=l.length
 | []=>Ar _
 | x::r=>by
  unfold R9;cases decide (room<(FM (x::r):Int))with
  | true=>have:=acA room r;simp;omega
  | false=>exact Ar _
def adP{l:List AH}{g:Nat}(hg:g<=l.length)(h0:0<l.length)(hl:l.length<=100000){K:Nat × (Nat->List AV)->Option AV} :
  (bif decide ((l.length:Int)<=(l.length:Int))then bif decide ((l.length:Int)<=(((l.length:Int).toNat:Nat):Int))then bif decide ((0:Int)<=(g:Int))&&decide ((g:Int)<=(((l.length:Int).toNat:Nat):Int))then bif Nat.blt 0 l.length then
   bif(((l.length:Int).toNat - (g:Int).toNat).beq 0||((l.length:Int).toNat - (g:Int).toNat+(g:Int).toNat).ble l.length)&&true then gC D1 C9 (D2 4) [.tr 4 ((l.length:Int).toNat - (g:Int).toNat) λi=>AK (l.getD (i+(g:Int).toNat) default)] K else none else none else none else none else none)
   = K (l.length - g,λi=>AK (l.getD (i+g) default)):=by
 simp only[BV];rw[Ax (JG _),Ax (by omega),Ax (by omega),Ae,Ae,CV,Ae,Cd h0,Ae,D3 (by omega),Bool.or_true,CV,Ae];exact Wm (by omega)
def vv(p:LX)(h:OS p):At PG S0 (Vy p) [] (Bi (GC p)) []:=by
 obtain⟨h1,h2,h3⟩:=h;obtain⟨N,hN⟩:∃ N,N=200000:=⟨_,rfl⟩
 have ho:=apY (k:=p.2.1.key) h1;have hol:=Z0 p.1 p.2.1.key;obtain⟨l,hl⟩:∃ l,l=CX p.1 p.2.1.key++[p.2.1]:=⟨_,rfl⟩
 have hlen:l.length=(CX p.1 p.2.1.key).length+1:=by rw[hl,CB];rfl
 have hlo:Nw l:=⟨by omega,λx hx=>by
  rw[hl]at hx;rcases Cp.1 hx with h | h
  ·exact ho.2 x h
  ·simp at h;exact h ▸ h2⟩
 have run:∀ d g m,g+d=l.length->d<m -> ∃ k,k<=l.length/\R9 p.2.2 (l.drop g)=l.drop k/\LP (Uj cO) N 0 S0 By 0 [] m (SPu l p.2.2 (FM (l.drop g):Nat) (g:Nat))=some (.tr 4 (l.length - k) λi=>AK (l.getD (i+k) default)):=by
  intro d
  induction d with
  | zero=>intro g m hg hm;obtain⟨m,rfl⟩:=B3 m (by omega);refine⟨g,by omega,by rw[Gj (by omega)];rfl,?_⟩;rw[aeR,AN (by omega),Aj];exact adP (by omega) (by omega) (by omega)
  | succ d ih=>
   intro g m hg hm;obtain⟨m,rfl⟩:=B3 m (by omega);have Sv:g<l.length:=by omega
   have hd:=drop_cons (z:=(default:AH)) Sv;have hs:FM (l.drop g)=QN (l.getD g default)+FM (l.drop (g+1)):=by rw[hd];simp[FM]
   have hb:=aeQ (l:=l.drop g) λx hx=>hlo.2 x (Qd hx);rw[XC]at hb;rw[aeR,Ax (by omega),Ae];cases hc:decide (p.2.2<((FM (l.drop g):Nat):Int))with
   | true=>
    rw[Ae,Ax (by omega),CV,Ae,BV,Cd Sv,Ae];obtain⟨k,k1,k2,k3⟩:=ih (g+1) m (by omega) (by omega);refine⟨k,k1,?_,?_⟩
    ·rw[hd,R9,<- hd,hc,Ae];exact k2
    ·refine(adM (adO hlo Sv)).trans ?_;rw[show((FM (l.drop g):Nat):Int) - (QN (l.getD g default):Nat)=((FM (l.drop (g+1)):Nat):Int) by omega,qB (by omega),Cs (by omega)];exact k3
   | false=>refine⟨g,by omega,by rw[hd,R9,<- hd,hc,Aj],?_⟩;rw[Aj];exact adP (by omega) (by omega) (by omega)
 obtain⟨k,k1,k2,k3⟩:=run l.length 0 N (by omega) (by omega);rw[Hf]at k2 k3;have e:=asL N p;rw[aib h1.1]at e;simp only at e;rw[D3 (Ar _),Ae,D3 (by omega),D3 (by omega),CV,Ae,D3 (Ar _),CV,Ae]at e;have hq:(.tr 4 ((CX p.1 p.2.1.key).length+1) (BQ (CX p.1 p.2.1.key).length (λi=>AK ((CX p.1 p.2.1.key).getD i default)) (View.list [AK p.2.1])):AV)=Bi l:=by rw[mJ,hl];unfold Bi DQ;rw[CB];rfl
 rw[hq,qSz hlo]at e;have hb2:BS.seq true 4 ((CX p.1 p.2.1.key).length+1) (BQ (CX p.1 p.2.1.key).length (λi=>AK ((CX p.1 p.2.1.key).getD i default)) (View.list [AK p.2.1]))=Bf 4 AK default l:=by rw[hl];exact vy _ _ _ _ _
 rw[hb2]at e;rw[show(CX p.1 p.2.1.key).length+1=l.length from hlen.symm]at e;have c:=Cx asK (e.trans k3);refine c.res ?_;show Br _ (Bi (R9 p.2.2 (CX p.1 p.2.1.key++[p.2.1])));rw[<- hl,k2];unfold Bi DQ;rw[XC];refine .N2 λi hi=>?_;have:(l.drop k).getD i default=l.getD (i+k) default:=by simp only[List.getD,Qe];rw[Nat.add_comm]
 rw[this];exact .refl _
def yO:Af:=.spec S0 (λa=>(Bm Da (a.getD 0 .Ak),Da (Bd a 1),AS a 2)) OS Vy (λp=>Bi (GC p))
def adQ:yO.Ok PG:=Af.BJ vv
def fG(key:An):AV:=.fn (.func ZG) [] [.tp [.str key] 0]
def eG(l:List Af):Env:=Cw [] [(Nl,0),(HP,0),(ZG,0),(Xf,1)] [] l
def xG(a:List AV):AH × An:=(Da (Bd a 0),aia a)
def yG(q:AH × An):List AV:=[.agg (AK q.1),.tp [.str q.2] 0]
def au3(q:AH × An):A6 (eG []) 9 ZG (yG q)=some (.bool (A5 q.1.key q.2)):=by kernel_rfl
def kCG:Af:=.spec ZG xG (λ_=>True) yG (λq=>.bool (A5 q.1.key q.2))
def asM:kCG.Ok PG:=Af.BJ λq _=>Cx (λk hk=>by cases hk) (au3 q)
def gG{R:Type}(q:AH × An)(k:AH × An->Option R):Option R:=gC xG (λ_=>True) yG (yG q) k
def au4{R:Type}(q:AH × An)(k:AH × An->Option R):gG q k=k q:=Bj q rfl trivial (.refl _)
def SIG(l:List AH)(key:An)(i:Int):St:={fr:=[(0,Bi l),(1,fG key),(7,.int .i64 l.length),(8,.int .i64 i)],hp:=[]}
def qD(N m:Nat)(l:List AH)(key:An)(i:Int):Option AV:=LP (eG [kCG]) N 0 HP By 0 [] m (SIG l key i)
def au5(N:Nat)(p:YO):A6 (eG [kCG]) (N+1) HP [Bi p.1,fG p.2]=qD N N p.1 p.2 0:=by kernel_rfl
def au6(N m:Nat)(l:List AH)(key:An)(i:Int):qD N (m+1) l key i=bif decide (i<(l.length:Int))then rg i l.length (gG (l.getD i.toNat default,key) λq=>bif A5 q.1.key q.2 then some (.int .i64 i)else qD N m l key (Ao (i+1)))else some (.int .i64 (-1)):=by kernel_rfl
def qE(p:YO):List AV:=[Bi p.1,fG p.2]
def dIG(a:List AV):YO:=(Bm Da (a.getD 0 .Ak),match a.getD 1 .Ak with
 | .fn _ _ [.tp [.str s] _]=>s
 | _=>[])
def asN(p:YO)(h:Ga p):At PG HP (qE p) [] (.int .i64 (Dh (λx=>A5 x.key p.2) p.1 0)) []:=by
 obtain⟨N,hN⟩:∃ N,N=200000:=⟨_,rfl⟩
 refine Cx (ak asM AR) ((au5 N p).trans ?_);have:=fC (p:=λx=>A5 x.key p.2) (l:=p.1) (z:=default) (L:=λm i=>qD N m p.1 p.2 i) (A:=λi=>some (AV.int .i64 i)) h
  (λm i=>by
   rw[au6];cases hd:decide (i<(p.1.length:Int))with
   | false=>rfl
   | true=>
    rw[Ae,Ae];unfold rg;cases hg:decide (0<=i)with
    | false=>rfl
    | true=>have h1:=El hd;have h2:=El hg;rw[Cd (by omega),au4];rfl) p.1.length 0 N (by omega) (by unfold Ga at h;omega)
 rw[Hf]at this;exact this
def kIG:Af:=.spec HP dIG Ga qE (λp=>.int .i64 (Dh (λx=>A5 x.key p.2) p.1 0))
def asO:kIG.Ok PG:=Af.BJ asN
def qIG{R:Type}{l:List AH}{key:An}{k:YO->Option R}(h:l.length<=100000):gC dIG Ga qE [.tr 4 l.length λi=>AK (l.getD i default),.fn (.func ZG) [] [.tp [.str key] 0]] k=k (l,key):=Bj (l,key) (Cv (Og l) rfl) h (.refl _)
def kn8:List Af:=[kIG,Jy Nl 4,yN]
def aeS:∀ k ∈ kn8,k.Ok PG:=ak asO (ak abx (ak adK AR))
def asP(l:List AH)(key:An):A6 (eG kn8) 9 mg [Bi l,AV.str key] =
 gC (dIG) (Ga) (qE) ([AV.tr 4 l.length λi=>AK (l.getD i default),AV.fn (Fn.func ZG) [] [AV.tp [AV.str key] 0]]) λy0=>
 bif decide (Dh (λx=>A5 x.key y0.snd) y0.fst 0<0)then
  gC (D1) (C9) (D2 4) ([AV.tr 4 l.length λi=>AK (l.getD i default)]) λy1=>
  some (AV.Am [AV.agg [AV.str [],AV.str [],AV.bool false,AV.Al .f64 0 0],AV.tr 4 y1.fst y1.snd,AV.bool false])
 else
  bif decide (0<=Dh (λx=>A5 x.key y0.snd) y0.fst 0)&&decide (Dh (λx=>A5 x.key y0.snd) y0.fst 0<(↑l.length:Int))then
   gC (Qo) (Ga) (NS) ([AV.tr 4 l.length λi=>AK (l.getD i default),AV.str key]) λy2=>
   bif decide (0<=Dh (λx=>A5 x.key y0.snd) y0.fst 0)&&decide (Dh (λx=>A5 x.key y0.snd) y0.fst 0<(↑l.length:Int))then
    bif(CX y2.fst y2.snd).length.ble (CX y2.fst y2.snd).length then
     bif(((CX y2.fst y2.snd).length+1)*56).ble 140737488355328&&((CX y2.fst y2.snd).length+1).ble 140737488355328 then
      bif((CX y2.fst y2.snd).length+1).ble ((CX y2.fst y2.snd).length+1)&&true then
       some (AV.Am [AV.agg (AK (l.getD (Dh (λx=>A5 x.key y0.snd) y0.fst 0).toNat default)),AV.tr 4 ((CX y2.fst y2.snd).length+1) (BQ (CX y2.fst y2.snd).length (λi=>AK ((CX y2.fst y2.snd).getD i default)) (View.list [AK (l.getD (Dh (λx=>A5 x.key y0.snd) y0.fst 0).toNat default)])),AV.bool true])
      else none
     else none
    else none
   else none
  else none:=by kernel_rfl
def yP(l:List AH)(key:An):Option AH:=l.find? λx=>A5 x.key key
def F4(p:YO):AH × List AH × Bool:=match yP p.1 p.2 with
 | some x=>(x,CX p.1 p.2++[x],true)
 | none=>(default,p.1,false)
def nI(o:AH × List AH × Bool):AV:=.Am [.agg (AK o.1),Bi o.2.1,.bool o.2.2]
def alC{X:Type}{p:X->Bool}{l:List X}(h:∀ x ∈ l,p x=false):l.find? p=none:=List.find?_eq_none.2 λx hx=>by rw[h x hx];simp
def adR{X:Type}{p:X->Bool}{z:X}:∀ (l:List X) (k:Nat),k<l.length->p (l.getD k z)=true->(∀ x ∈ l.take k,p x=false)->l.find? p=some (l.getD k z)
 | [],k,h,_,_=>absurd h (C5 k)
 | x::r,0,_,h,_=>by
  have:p x=true:=by simpa using h
  simp[this]
 | x::r,k+1,h,h1,h2=>by have hx:p x=false:=h2 x (by simp);rw[List.find?_cons,hx];have:=adR (z:=z) r k (by simpa using h) (by simpa using h1) λy hy=>h2 y (by simp[hy]);simpa using this
def apZ(p:YO)(h:Ga p):At PG mg (NS p) [] (nI (F4 p)) []:=by
 unfold Ga at h;have e:=asP p.1 p.2;rw[qIG h]at e;simp only at e;by_cases hi:Dh (λx=>A5 x.key p.2) p.1 0 = -1
 ·have hn:=alC ((ZO p.1 0).1 hi);rw[Ax (by omega),Ae,Wm h]at e;have:nI (F4 p)=.Am [.agg (AK default),Bi p.1,.bool false]:=by
   unfold F4 yP;rw[hn];rfl
  rw[this];exact Cx aeS e
 ·obtain⟨k,h1,h2,h3,h4⟩:=tc default p.1 0 hi;rw[Ev]at h1;have hf:=adR (z:=default) p.1 k h2 h3 h4;have ho:=Z0 p.1 p.2;rw[h1]at e;rw[AN (by omega),Aj,Ax (by omega),Ax (by omega),CV,Ae,aib h]at e;simp only[BV]at e;rw[D3 (Ar _),Ae,D3 (by omega),D3 (by omega),CV,Ae,D3 (Ar _),CV,Ae]at e;have:nI (F4 p)=.Am [.agg (AK (p.1.getD k default)),Bi (CX p.1 p.2++[p.1.getD k default]),.bool true]:=by
   unfold F4 yP;rw[hf];rfl
  rw[this];have hq:Bi (CX p.1 p.2++[p.1.getD k default])=.tr 4 ((CX p.1 p.2).length+1) (BQ (CX p.1 p.2).length (λi=>AK ((CX p.1 p.2).getD i default)) (View.list [AK (p.1.getD k default)])):=by rw[mJ];unfold Bi DQ;rw[CB];rfl
  rw[hq];exact Cx aeS e
def yQ:Af:=.spec mg Qo Ga NS (λp=>nI (F4 p))
def adS:yQ.Ok PG:=Af.BJ apZ
def eS(l:List Af):Env:=Cw [] [(lH,0),(ZE,0),(eC,0)] [] l
def asQ(x:Entry):A6 (eS []) 9 lH [AV.agg (Bt x)] =
 some (AV.int .i64 (Ao (Ao ((↑x.key.length:Int)+(↑x.val.length:Int))+1))):=by kernel_rfl
def ap0(b:Bool)(n:Int)(h:Int)(l:Int):A6 (eS []) 9 eC [AV.bool b,AV.int .i64 n,AV.int .i64 h,AV.int .i64 l] =
 bif decide (h<=n)then
  some (AV.bool true)
 else
  bif decide (n<=l)then
   some (AV.bool false)
  else
   some (AV.bool b):=by kernel_rfl
def anC(k:Int):A6 (eS []) 9 eg [AV.int .i64 k] =
 bif decide (k=1)then
  some (AV.bool true)
 else
  some (AV.bool (decide (k=4))):=by kernel_rfl
def alD(k:Int):A6 (eS []) 9 ed [AV.int .i64 k] =
 bif decide (k=2)then
  some (AV.bool true)
 else
  bif decide (k=3)then
   some (AV.bool true)
  else
   some (AV.bool (decide (k=4))):=by kernel_rfl
def anD(o:Md.Op)(c:EE):A6 (eS []) 9 ee [AV.agg (P5 o),AV.agg (D4 c)] =
 bif decide (o.kind<1)then
  some (AV.int .i64 8)
 else
  bif decide (5<o.kind)then
   some (AV.int .i64 8)
  else
   bif !decide (o.kind=5)then
    bif A5 o.key []then
     some (AV.int .i64 8)
    else
     bif decide (c.maxKey<(↑o.key.length:Int))then
      some (AV.int .i64 4)
     else
      bif decide (c.RA<(↑o.val.length:Int))then
       some (AV.int .i64 4)
      else
       bif decide (c.RA<(↑o.Bc.length:Int))then
        some (AV.int .i64 4)
       else
        some (AV.int .i64 0)
   else
    bif decide (c.maxKey<(↑o.key.length:Int))then
     some (AV.int .i64 4)
    else
     bif decide (c.RA<(↑o.val.length:Int))then
      some (AV.int .i64 4)
     else
      bif decide (c.RA<(↑o.Bc.length:Int))then
       some (AV.int .i64 4)
      else
       some (AV.int .i64 0):=by kernel_rfl
def rA(o:Md.Op)(v:Au)(s n:Int)(x:An)(a b:Bool)(c:Int)(r:An)(h:Bool):Option AV:=some (.agg [.Al .f64 v.re v.im,.int .i64 o.kind,.str o.key,.str x,.bool a,.bool b,.int .i64 s,.int .i64 n,.int .i64 c,.str r,.bool h])
def asR(o:Md.Op)(v:Au)(s:Int)(n:Int)(x:AH)(room:Bool):A6 (eS []) 9 lF [AV.agg (P5 o),AV.Al .f64 v.re v.im,AV.int .i64 s,AV.int .i64 n,AV.agg (AK x),AV.bool room] =
 bif decide (o.kind=2)then
  bif !room then
   rA o v s n [] false false 3 [] false
  else
   bif decide (o.kind=1)then
    bif !x.has then
     rA o v s n [] false false 1 [] false
    else
     rA o v s n [] false false 0 x.val true
   else
    bif decide (o.kind=2)then
     rA o v s n o.val true false 0 [] false
    else
     bif decide (o.kind=3)then
      rA o v s n [] true true 0 [] false
     else
      bif decide (o.kind=4)then
       bif bif x.has then o.IU else !o.IU then
        bif !x.has then
         rA o v s n o.val true false 0 [] false
        else
         bif A5 x.val o.Bc then
          rA o v s n o.val true false 0 [] false
         else
          bif x.has then
           rA o v s n [] false false 2 x.val x.has
          else
           rA o v s n [] false false 2 [] x.has
       else
        bif x.has then
         rA o v s n [] false false 2 x.val x.has
        else
         rA o v s n [] false false 2 [] x.has
      else
       rA o v s n [] false false 0 [] false
 else
  bif decide (o.kind=3)then
   bif !room then
    rA o v s n [] false false 3 [] false
   else
    bif decide (o.kind=1)then
     bif !x.has then
      rA o v s n [] false false 1 [] false
     else
      rA o v s n [] false false 0 x.val true
    else
     bif decide (o.kind=2)then
      rA o v s n o.val true false 0 [] false
     else
      bif decide (o.kind=3)then
       rA o v s n [] true true 0 [] false
      else
       bif decide (o.kind=4)then
        bif bif x.has then o.IU else !o.IU then
         bif !x.has then
          rA o v s n o.val true false 0 [] false
         else
          bif A5 x.val o.Bc then
           rA o v s n o.val true false 0 [] false
          else
           bif x.has then
            rA o v s n [] false false 2 x.val x.has
           else
            rA o v s n [] false false 2 [] x.has
        else
         bif x.has then
          rA o v s n [] false false 2 x.val x.has
         else
          rA o v s n [] false false 2 [] x.has
       else
        rA o v s n [] false false 0 [] false
  else
   bif decide (o.kind=4)then
    bif !room then
     rA o v s n [] false false 3 [] false
    else
     bif decide (o.kind=1)then
      bif !x.has then
       rA o v s n [] false false 1 [] false
      else
       rA o v s n [] false false 0 x.val true
     else
      bif decide (o.kind=2)then
       rA o v s n o.val true false 0 [] false
      else
       bif decide (o.kind=3)then
        rA o v s n [] true true 0 [] false
       else
        bif decide (o.kind=4)then
         bif bif x.has then o.IU else !o.IU then
          bif !x.has then
           rA o v s n o.val true false 0 [] false
          else
           bif A5 x.val o.Bc then
            rA o v s n o.val true false 0 [] false
           else
            bif x.has then
             rA o v s n [] false false 2 x.val x.has
            else
             rA o v s n [] false false 2 [] x.has
         else
          bif x.has then
           rA o v s n [] false false 2 x.val x.has
          else
           rA o v s n [] false false 2 [] x.has
        else
         rA o v s n [] false false 0 [] false
   else
    bif decide (o.kind=1)then
     bif !x.has then
      rA o v s n [] false false 1 [] false
     else
      rA o v s n [] false false 0 x.val true
    else
     bif decide (o.kind=2)then
      rA o v s n o.val true false 0 [] false
     else
      bif decide (o.kind=3)then
       rA o v s n [] true true 0 [] false
      else
       bif decide (o.kind=4)then
        bif bif x.has then o.IU else !o.IU then
         bif !x.has then
          rA o v s n o.val true false 0 [] false
         else
          bif A5 x.val o.Bc then
           rA o v s n o.val true false 0 [] false
          else
           bif x.has then
            rA o v s n [] false false 2 x.val x.has
           else
            rA o v s n [] false false 2 [] x.has
        else
         bif x.has then
          rA o v s n [] false false 2 x.val x.has
         else
          rA o v s n [] false false 2 [] x.has
       else
        rA o v s n [] false false 0 [] false:=by kernel_rfl
def SC:∀ k ∈ ([]:List Af),k.Ok PG:=λk hk=>by cases hk
def jS(x:Entry):Nat:=x.key.length+x.val.length+1
def Uk(x:Entry):Prop:=x.key.length<=2000/\x.val.length<=2000
def ap1(x:Entry)(h:Uk x):At PG lH [.agg (Bt x)] [] (.int .i64 (jS x)) []:=by have:=h.1;have:=h.2;refine Cx SC ((asQ x).trans ?_);rw[oV (by omega),show((x.key.length+x.val.length:Nat):Int)+1=((x.key.length+x.val.length+1:Nat):Int) by omega,qB (by omega)];rfl
def yR:Af:=.spec lH (λa=>DG (Bd a 0)) Uk (λx=>[.agg (Bt x)]) (λx=>.int .i64 (jS x))
def ap2:yR.Ok PG:=Af.BJ ap1
def aid{R:Type}(x:Entry)(k:Entry->Option R):Option R:=gC (λa=>DG (Bd a 0)) Uk (λx=>[.agg (Bt x)]) [.agg (Bt x)] k
def ap3{R:Type}{x:Entry}{k:Entry->Option R}(h:Uk x):aid x k=k x:=Bj x rfl h (.refl _)
def SBy(l:List Entry)(s i:Int):St:={fr:=[(3,.int .i64 s),(7,AY l),(8,.int .i64 l.length),(9,.int .i64 i)],hp:=[]}
def jT(N m:Nat)(l:List Entry)(s i:Int):Option AV:=LP (eS [yR]) N 0 ZE By 0 [] m (SBy l s i)
def au7(N:Nat)(t:BZ):A6 (eS [yR]) (N+1) ZE [.agg (Cn t)]=jT N N t.log 0 0:=by kernel_rfl
def ago(N m:Nat)(l:List Entry)(s i:Int):jT N (m+1) l s i=bif decide (i<(l.length:Int))then rg i l.length (bif(l.getD i.toNat default).write then aid (l.getD i.toNat default) λy=>jT N m l (Ao (s+jS y)) (Ao (i+1))else jT N m l s (Ao (i+1)))else some (.int .i64 s):=by kernel_rfl
def cP(x:Entry):Nat:=bif x.write then jS x else 0
def Iu(l:List Entry):Nat:=(l.map cP).sum
def ajQ{l:List Entry}{i:Nat}(h:i<l.length):Iu (l.take (i+1))=Iu (l.take i)+cP (l.getD i default):=by
 have:∀ a b:List Entry,Iu (a++b)=Iu a+Iu b:=λa b=>by simp[Iu]
 rw[Qh,BR h,this];simp[Iu,List.getD,BR h]
def MA(l:List Entry):Prop:=l.length<=100000 /\ ∀ x ∈ l,Uk x
def alE{l:List Entry}(h:∀ x ∈ l,Uk x):Iu l<=4001*l.length:=by
 induction l with
 | nil=>simp[Iu]
 | cons x r ih=>
  have:=ih λy hy=>h y (by simp[hy]);have h1:=h x (by simp);have h2:cP x<=4001:=by unfold cP jS;have:=h1.1;have:=h1.2;cases x.write <;> simp <;> omega
  have:Iu (x::r)=cP x+Iu r:=by simp[Iu]
  rw[this,CR];omega
def alF(t:BZ)(h:MA t.log):At PG ZE [.agg (Cn t)] [] (.int .i64 (Iu t.log)) []:=by
 obtain⟨N,hN⟩:∃ N,N=200000:=⟨_,rfl⟩
 have hl:=h.1;refine Cx (ak ap2 AR) ((au7 N t).trans ?_);have:=fy (n:=t.log.length) (λi m=>jT N m t.log (Iu (t.log.take i):Nat) (i:Nat)=some (.int .i64 (Iu t.log:Nat))) (λm=>?_) (λi m hi ih=>?_) 0 N (Bu _) (by omega)
 ·simpa [Iu] using this
 ·rw[ago,AN (by omega),Aj,TG (Ar _)]
 ·have hb:=alE (l:=t.log.take (i+1)) λx hx=>h.2 x (az hx);rw[List.length_take]at hb;have e:=ajQ hi;rw[ago,Ax (by omega),Ae,B8 hi,BV,Cs (by omega)];unfold cP at e;cases hw:(t.log.getD i default).write with
  | true=>rw[hw,Ae]at e;rw[Ae,ap3 (h.2 _ (De hi)),oV (by omega),<- e];exact ih
  | false=>rw[hw,Aj,Iy]at e;rw[Aj];rw[e]at ih;exact ih
def aeT:Af:=.spec ZE (λa=>KI (Bd a 0)) (λt=>MA t.log) (λt=>[.agg (Cn t)]) (λt=>.int .i64 (Iu t.log))
def alG:aeT.Ok PG:=Af.BJ alF
def aP(b:Bool)(n h l:Int):Bool:=bif decide (h<=n)then true else bif decide (n<=l)then false else b
abbrev BM:=Bool × Int × Int × Int
def qF(p:BM):List AV:=[.bool p.1,.int .i64 p.2.1,.int .i64 p.2.2.1,.int .i64 p.2.2.2]
def anE(p:BM)(_:True):At PG eC (qF p) [] (.bool (aP p.1 p.2.1 p.2.2.1 p.2.2.2)) []:=Cx SC ((ap0 p.1 p.2.1 p.2.2.1 p.2.2.2).trans (by unfold aP;cases decide (p.2.2.1<=p.2.1) <;> cases decide (p.2.1<=p.2.2.2) <;> rfl))
def agp:Af:=.spec eC (λa=>(Kr a 0,AS a 1,AS a 2,AS a 3)) (λ_=>True) qF (λp=>.bool (aP p.1 p.2.1 p.2.2.1 p.2.2.2))
def anF:agp.Ok PG:=Af.BJ anE
def Xv(k:Int):Bool:=decide (k=1)||decide (k=4)
def PD(k:Int):Bool:=decide (k=2)||(decide (k=3)||decide (k=4))
def alH(k:Int)(_:True):At PG eg [.int .i64 k] [] (.bool (Xv k)) []:=Cx SC ((anC k).trans (by unfold Xv;cases decide (k=1) <;> rfl))
def akj(k:Int)(_:True):At PG ed [.int .i64 k] [] (.bool (PD k)) []:=Cx SC ((alD k).trans (by unfold PD;cases decide (k=2) <;> cases decide (k=3) <;> rfl))
def wH:Af:=.spec eg (λa=>AS a 0) (λ_=>True) (λk=>[.int .i64 k]) (λk=>.bool (Xv k))
def vA:Af:=.spec ed (λa=>AS a 0) (λ_=>True) (λk=>[.int .i64 k]) (λk=>.bool (PD k))
def aby:wH.Ok PG:=Af.BJ alH
def aaU:vA.Ok PG:=Af.BJ akj
def GM(o:Md.Op)(c:EE):Int:=
 bif decide (o.kind<1)||decide (5<o.kind)then 8
 else bif !decide (o.kind=5)&&A5 o.key []then 8
 else bif decide (c.maxKey<(o.key.length:Int))||(decide (c.RA<(o.val.length:Int))||decide (c.RA<(o.Bc.length:Int)))then 4 else 0
abbrev OC:=Md.Op × EE
def cQ(p:OC):List AV:=[.agg (P5 p.1),.agg (D4 p.2)]
def alI(p:OC)(_:True):At PG ee (cQ p) [] (.int .i64 (GM p.1 p.2)) []:=Cx SC ((anD p.1 p.2).trans (by unfold GM;cases decide (p.1.kind<1) <;> cases decide (5<p.1.kind) <;> cases decide (p.1.kind=5) <;> cases A5 p.1.key [] <;> cases decide (p.2.maxKey<(p.1.key.length:Int)) <;> cases decide (p.2.RA<(p.1.val.length:Int)) <;> cases decide (p.2.RA<(p.1.Bc.length:Int)) <;> rfl))
def wI:Af:=.spec ee (λa=>(aH (Bd a 0),U0 (Bd a 1))) (λ_=>True) cQ (λp=>.int .i64 (GM p.1 p.2))
def abz:wI.Ok PG:=Af.BJ alI
def Oh(o:Md.Op)(v:Au)(s n:Int)(x:AH)(room:Bool):Entry:=
 let e:Entry:=⟨v,o.kind,o.key,[],false,false,s,n,0,[],false⟩
 bif PD o.kind && !room then {e with code:=3}
 else bif decide (o.kind=1)then bif !x.has then {e with code:=1}else {e with res:=x.val,IT:=true}
 else bif decide (o.kind=2)then {e with write:=true,val:=o.val}
 else bif decide (o.kind=3)then {e with write:=true,del:=true}
 else bif decide (o.kind=4)then
  bif(bif x.has then o.IU else !o.IU)&&(!x.has||A5 x.val o.Bc)then {e with write:=true,val:=o.val}
  else {e with code:=2,IT:=x.has,res:=bif x.has then x.val else []}
 else e
structure YI where
 o:Md.Op
 v:Au
 s:Int
 n:Int
 x:AH
 room:Bool
def qG(p:YI):List AV:=[.agg (P5 p.o),.Al .f64 p.v.re p.v.im,.int .i64 p.s,.int .i64 p.n,.agg (AK p.x),.bool p.room]
def dRs(a:List AV):YI:=⟨aH (Bd a 0),⟨(Ci a 1).1,(Ci a 1).2⟩,AS a 2,AS a 3,Da (Bd a 4),Kr a 5⟩
def ap4(p:YI)(_:True):At PG lF (qG p) [] (.agg (Bt (Oh p.o p.v p.s p.n p.x p.room))) []:=Cx SC ((asR p.o p.v p.s p.n p.x p.room).trans (by
 unfold Oh PD rA;by_cases h1:p.o.kind=1
 ·simp only[h1];cases p.x.has <;> rfl
 ·by_cases h2:p.o.kind=2
  ·simp only[h2];cases p.room <;> rfl
  ·by_cases h3:p.o.kind=3
   ·simp only[h3];cases p.room <;> rfl
   ·by_cases h4:p.o.kind=4
    ·simp only[h4];cases p.room <;> cases p.x.has <;> cases p.o.IU <;> cases A5 p.x.val p.o.Bc <;> rfl
    ·rw[AN h1,AN h2,AN h3,AN h4];rfl))
def acB:Af:=.spec lF dRs (λ_=>True) qG (λp=>.agg (Bt (Oh p.o p.v p.s p.n p.x p.room)))
def ajR:acB.Ok PG:=Af.BJ ap4
def cS(l:List Af):Env:=Cw [] [(Ri,0),(ZA,0),(Rf,0),(aaa,0),(aac,0),(lD,0),(ai5,0)] [] l
def asS(a:Int)(b:Int):A6 (cS []) 9 lD [AV.int .i64 a,AV.int .i64 b] =
 bif !decide (a=a)then
  bif !decide (b=b)then
   some (AV.int .i64 0)
  else
   some (AV.int .i64 (-1))
 else
  bif !decide (b=b)then
   some (AV.int .i64 1)
  else
   bif decide (a<b)then
    some (AV.int .i64 (-1))
   else
    bif decide (b<a)then
     some (AV.int .i64 1)
    else
     some (AV.int .i64 0):=by kernel_rfl
def EF(a b:Int):Int:=bif decide (a<b)then -1 else bif decide (b<a)then 1 else 0
def KA(p:Int × Int):List AV:=[.int .i64 p.1,.int .i64 p.2]
def ap5(p:Int × Int)(_:True):At PG lD (KA p) [] (.int .i64 (EF p.1 p.2)) []:=Cx SC ((asS p.1 p.2).trans (by unfold EF;rw[Ax (rfl:p.1=p.1),Ax (rfl:p.2=p.2)];cases decide (p.1<p.2) <;> cases decide (p.2<p.1) <;> rfl))
def TQ:Af:=.spec lD (λa=>(AS a 0,AS a 1)) (λ_=>True) KA (λp=>.int .i64 (EF p.1 p.2))
def U1:TQ.Ok PG:=Af.BJ ap5
def fd0(F:Nat->Seen)(s:Int):A6 (cS [TQ]) 30 Ri [AV.tr 7 0 λi=>BH (F i),AV.int .i64 s] =
 some (AV.Am [AV.agg [AV.int .i64 0,AV.int .i64 0,AV.Al .f64 0 0,AV.int .i64 0,AV.int .i64 0,AV.str [],AV.bool false],AV.bool false]):=by kernel_rfl
def fd1(F:Nat->Seen)(s:Int):A6 (cS [TQ]) 30 Ri [AV.tr 7 1 λi=>BH (F i),AV.int .i64 s] =
 gC (λa=>(AS a 0,AS a 1)) (λx=>True) (KA) ([AV.int .i64 (F 0).Ah,AV.int .i64 s]) λy0=>
 bif decide (EF y0.fst y0.snd<0)then
  some (AV.Am [AV.agg [AV.int .i64 0,AV.int .i64 0,AV.Al .f64 0 0,AV.int .i64 0,AV.int .i64 0,AV.str [],AV.bool false],AV.bool false])
 else
  gC (λa=>(AS a 0,AS a 1)) (λx=>True) (KA) ([AV.int .i64 (F 0).Ah,AV.int .i64 s]) λy1=>
  bif !decide (EF y1.fst y1.snd=0)then
   some (AV.Am [AV.agg [AV.int .i64 0,AV.int .i64 0,AV.Al .f64 0 0,AV.int .i64 0,AV.int .i64 0,AV.str [],AV.bool false],AV.bool false])
  else
   some (AV.Am [AV.agg (BH (F 0)),AV.bool true]):=by kernel_rfl
def fd2(F:Nat->Seen)(s:Int):A6 (cS [TQ]) 30 Ri [AV.tr 7 2 λi=>BH (F i),AV.int .i64 s] =
 gC (λa=>(AS a 0,AS a 1)) (λx=>True) (KA) ([AV.int .i64 (F 1).Ah,AV.int .i64 s]) λy2=>
 bif decide (EF y2.fst y2.snd<0)then
  some (AV.Am [AV.agg [AV.int .i64 0,AV.int .i64 0,AV.Al .f64 0 0,AV.int .i64 0,AV.int .i64 0,AV.str [],AV.bool false],AV.bool false])
 else
  gC (λa=>(AS a 0,AS a 1)) (λx=>True) (KA) ([AV.int .i64 (F 0).Ah,AV.int .i64 s]) λy3=>
  bif decide (EF y3.fst y3.snd<0)then
   gC (λa=>(AS a 0,AS a 1)) (λx=>True) (KA) ([AV.int .i64 (F 1).Ah,AV.int .i64 s]) λy4=>
   bif !decide (EF y4.fst y4.snd=0)then
    some (AV.Am [AV.agg [AV.int .i64 0,AV.int .i64 0,AV.Al .f64 0 0,AV.int .i64 0,AV.int .i64 0,AV.str [],AV.bool false],AV.bool false])
   else
    some (AV.Am [AV.agg (BH (F 1)),AV.bool true])
  else
   gC (λa=>(AS a 0,AS a 1)) (λx=>True) (KA) ([AV.int .i64 (F 0).Ah,AV.int .i64 s]) λy5=>
   bif !decide (EF y5.fst y5.snd=0)then
    some (AV.Am [AV.agg [AV.int .i64 0,AV.int .i64 0,AV.Al .f64 0 0,AV.int .i64 0,AV.int .i64 0,AV.str [],AV.bool false],AV.bool false])
   else
    some (AV.Am [AV.agg (BH (F 0)),AV.bool true]):=by kernel_rfl
def fd3(F:Nat->Seen)(s:Int):A6 (cS [TQ]) 30 Ri [AV.tr 7 3 λi=>BH (F i),AV.int .i64 s] =
 gC (λa=>(AS a 0,AS a 1)) (λx=>True) (KA) ([AV.int .i64 (F 1).Ah,AV.int .i64 s]) λy6=>
 bif decide (EF y6.fst y6.snd<0)then
  gC (λa=>(AS a 0,AS a 1)) (λx=>True) (KA) ([AV.int .i64 (F 2).Ah,AV.int .i64 s]) λy7=>
  bif decide (EF y7.fst y7.snd<0)then
   some (AV.Am [AV.agg [AV.int .i64 0,AV.int .i64 0,AV.Al .f64 0 0,AV.int .i64 0,AV.int .i64 0,AV.str [],AV.bool false],AV.bool false])
  else
   gC (λa=>(AS a 0,AS a 1)) (λx=>True) (KA) ([AV.int .i64 (F 2).Ah,AV.int .i64 s]) λy8=>
   bif !decide (EF y8.fst y8.snd=0)then
    some (AV.Am [AV.agg [AV.int .i64 0,AV.int .i64 0,AV.Al .f64 0 0,AV.int .i64 0,AV.int .i64 0,AV.str [],AV.bool false],AV.bool false])
   else
    some (AV.Am [AV.agg (BH (F 2)),AV.bool true])
 else
  gC (λa=>(AS a 0,AS a 1)) (λx=>True) (KA) ([AV.int .i64 (F 0).Ah,AV.int .i64 s]) λy9=>
  bif decide (EF y9.fst y9.snd<0)then
   gC (λa=>(AS a 0,AS a 1)) (λx=>True) (KA) ([AV.int .i64 (F 1).Ah,AV.int .i64 s]) λjU=>
   bif !decide (EF jU.fst jU.snd=0)then
    some (AV.Am [AV.agg [AV.int .i64 0,AV.int .i64 0,AV.Al .f64 0 0,AV.int .i64 0,AV.int .i64 0,AV.str [],AV.bool false],AV.bool false])
   else
    some (AV.Am [AV.agg (BH (F 1)),AV.bool true])
  else
   gC (λa=>(AS a 0,AS a 1)) (λx=>True) (KA) ([AV.int .i64 (F 0).Ah,AV.int .i64 s]) λy11=>
   bif !decide (EF y11.fst y11.snd=0)then
    some (AV.Am [AV.agg [AV.int .i64 0,AV.int .i64 0,AV.Al .f64 0 0,AV.int .i64 0,AV.int .i64 0,AV.str [],AV.bool false],AV.bool false])
   else
    some (AV.Am [AV.agg (BH (F 0)),AV.bool true]):=by kernel_rfl
def iE{R:Type}{a b:Int}{k:Int × Int->Option R}:gC (λa=>(AS a 0,AS a 1)) (λ_=>True) KA [.int .i64 a,.int .i64 b] k=k (a,b):=Bj (a,b) rfl trivial (.refl _)
def Xw(a b:Int):decide (EF a b<0)=decide (a<b):=by
 unfold EF;by_cases h:a<b
 ·simp[h]
 ·by_cases h2:b<a <;> simp[h,h2]
def aQ(a b:Int):decide (EF a b=0)=decide (a=b):=by
 unfold EF;by_cases h:a<b
 ·have:a ≠ b:=by omega
  simp[h,this]
 ·by_cases h2:b<a
  ·have:a ≠ b:=by omega
   simp[h,h2,this]
  ·have:a=b:=by omega
   simp[this]
def Fe(l:List Seen):Prop:=l.length<=3/\l.Pairwise λa b=>a.Ah<b.Ah
def CA(l:List Seen)(s:Int):Seen × Bool:=match l.find? λx=>decide (x.Ah=s)with
 | some x=>(x,true)
 | none=>(default,false)
abbrev SI:=List Seen × Int
def MU(p:SI):List AV:=[B7 p.1,.int .i64 p.2]
def Ul(a:List AV):SI:=(Bm EU (a.getD 0 .Ak),AS a 1)
def Wn(p:SI):AV:=.Am [.agg (BH (CA p.1 p.2).1),.bool (CA p.1 p.2).2]
def anG(p:SI)(h:Fe p.1):At PG Ri (MU p) [] (Wn p) []:=by
 obtain⟨l,s⟩:=p;obtain⟨h1,h2⟩:=h
 match l,h1,h2 with
 | [],_,_=>exact Cx (ak U1 AR) (fd0 (λi=>([]:List Seen).getD i default) s)
 | [a],_,_=>
  refine Cx (ak U1 AR) ((fd1 (λi=>[a].getD i default) s).trans ?_);simp only[iE,Xw,aQ];show(bif decide (a.Ah<s)then _ else bif !decide (a.Ah=s)then _ else some (AV.Am [.agg (BH a),.bool true]))=some (Wn ([a],s));unfold Wn CA;by_cases ha:a.Ah=s
  ·have:¬ a.Ah<s:=by omega
   simp only[List.find?,ha,decide_true,Dr,Aj,show decide (s<s)=false by simp]
  ·by_cases hb:a.Ah<s <;> simp only[List.find?,ha,hb,decide_true,decide_false,EP,Ae,Aj] <;> rfl
 | [a,b],_,h2=>
  have Gn:a.Ah<b.Ah:=by simp at h2;exact h2
  refine Cx (ak U1 AR) ((fd2 (λi=>[a,b].getD i default) s).trans ?_);simp only[iE,Xw,aQ];show(bif decide (b.Ah<s)then _ else bif decide (a.Ah<s)then bif !decide (b.Ah=s)then _ else some (AV.Am [.agg (BH b),.bool true])else bif !decide (a.Ah=s)then _ else some (AV.Am [.agg (BH a),.bool true]))=some (Wn ([a,b],s));unfold Wn CA;by_cases ha:a.Ah=s
  ·have e1:¬ b.Ah<s:=by omega
   have e2:¬ a.Ah<s:=by omega
   simp only[List.find?,ha,decide_true,Dr,Aj,AN e1,show decide (s<s)=false by simp]
  ·by_cases hb:b.Ah=s
   ·have e2:a.Ah<s:=by omega
    simp only[List.find?,ha,hb,e2,decide_true,decide_false,Dr,Ae,Aj,show decide (s<s)=false by simp]
   ·by_cases h3:b.Ah<s <;> by_cases h4:a.Ah<s <;> simp only[List.find?,ha,hb,h3,h4,decide_true,decide_false,EP,Ae,Aj] <;> rfl
 | [a,b,c],_,h2=>
  have Gn:a.Ah<b.Ah/\a.Ah<c.Ah/\b.Ah<c.Ah:=by simp at h2;exact⟨h2.1.1,h2.1.2,h2.2⟩
  refine Cx (ak U1 AR) ((fd3 (λi=>[a,b,c].getD i default) s).trans ?_);simp only[iE,Xw,aQ];show(bif decide (b.Ah<s)then bif decide (c.Ah<s)then _ else bif !decide (c.Ah=s)then _ else some (AV.Am [.agg (BH c),.bool true])else bif decide (a.Ah<s)then bif !decide (b.Ah=s)then _ else some (AV.Am [.agg (BH b),.bool true])else bif !decide (a.Ah=s)then _ else some (AV.Am [.agg (BH a),.bool true]))=some (Wn ([a,b,c],s));unfold Wn CA;by_cases ha:a.Ah=s
  ·have e1:¬ b.Ah<s:=by omega
   have e2:¬ a.Ah<s:=by omega
   simp only[List.find?,ha,decide_true,Dr,Aj,AN e1,show decide (s<s)=false by simp]
  ·by_cases hb:b.Ah=s
   ·have e2:a.Ah<s:=by omega
    simp only[List.find?,ha,hb,e2,decide_true,decide_false,Dr,Ae,Aj,show decide (s<s)=false by simp]
   ·by_cases hc:c.Ah=s
    ·have e2:a.Ah<s:=by omega
     have e3:b.Ah<s:=by omega
     simp only[List.find?,ha,hb,hc,e2,e3,decide_true,decide_false,Dr,Ae,Aj,show decide (s<s)=false by simp]
    ·by_cases h3:b.Ah<s <;> by_cases h4:a.Ah<s <;> by_cases h5:c.Ah<s <;> simp only[List.find?,ha,hb,hc,h3,h4,h5,decide_true,decide_false,EP,Ae,Aj] <;> rfl
def gE:Af:=.spec Ri Ul (λp=>Fe p.1) MU Wn
def mK:gE.Ok PG:=Af.BJ anG
def gI{R:Type}{l:List Seen}{s:Int}{k:SI->Option R}(h:Fe l):gC Ul (λp=>Fe p.1) MU [B7 l,.int .i64 s] k=k (l,s):=Bj (l,s) (Cv (Nq l) rfl) h (.refl _)
def au8(l:List Seen)(s:Int)(n:Int):A6 (cS [gE]) 9 ZA [B7 l,AV.int .i64 s,AV.int .i64 n] =
 gC (Ul) (λp=>Fe p.fst) (MU) ([B7 l,AV.int .i64 s]) λcT=>
 bif !(CA cT.fst cT.snd).snd then
  some (AV.int .i64 0)
 else
  bif decide ((CA cT.fst cT.snd).fst.num<n)then
   some (AV.int .i64 0)
  else
   bif decide (n=(CA cT.fst cT.snd).fst.num)then
    some (AV.int .i64 1)
   else
    some (AV.int .i64 2):=by kernel_rfl
def P8(l:List Seen)(s n:Int):Int:=bif !(CA l s).2 then 0 else bif decide ((CA l s).1.num<n)then 0 else bif decide (n=(CA l s).1.num)then 1 else 2
abbrev qH:=List Seen × Int × Int
def bu(p:qH):List AV:=[B7 p.1,.int .i64 p.2.1,.int .i64 p.2.2]
def anH(p:qH)(h:Fe p.1):At PG ZA (bu p) [] (.int .i64 (P8 p.1 p.2.1 p.2.2)) []:=by refine Cx (ak mK AR) ((au8 p.1 p.2.1 p.2.2).trans ?_);rw[gI h];unfold P8;cases (CA p.1 p.2.1).2 <;> cases decide ((CA p.1 p.2.1).1.num<p.2.2) <;> cases decide (p.2.2=(CA p.1 p.2.1).1.num) <;> rfl
def xI:Af:=.spec ZA (λa=>(Bm EU (a.getD 0 .Ak),AS a 1,AS a 2)) (λp=>Fe p.1) bu (λp=>.int .i64 (P8 p.1 p.2.1 p.2.2))
def acC:xI.Ok PG:=Af.BJ anH
def eE(l:List Af):Env:=Cw [(Rj,0,[3,7,8,9,1000])] [(Rj,1),(dY,5),(ZK,0),(SX,0)] [] l
abbrev MV:=List An × (An->Au)
def Ic(ks:List An)(s:An):List An:=bif Ck s ks then ks else ks++[s]
def EG{Y:Type}(V:An->Y)(s:An)(v:Y):An->Y:=λx=>bif A5 x s then v else V x
def uF{Y:Type}(e:Y->AV)(V:An->Y)(s:An)(v:Y):(λx=>bif A5 x s then e v else e (V x))=λx=>e (EG V s v x):=by funext x;unfold EG;cases A5 x s <;> rfl
def SEn(l:List AH)(ks:List An)(val:An->AV)(i:Int):St:={fr:=[(3,.mp 0),(7,Bi l),(8,.int .i64 l.length),(9,.int .i64 i),(1000,.undef)],hp:=[.pmap true ks val]}
def au9(N:Nat)(l:List AH):CO 0 (eE []) (N+1) Rj [Bi l] [] =
 LP (eE []) (N) (0) (Rj) (Cm (0) (0)) 0 [] (N) ({fr:=[(3,AV.mp 0),(7,AV.tr 4 l.length λi=>AK (l.getD i default)),(8,AV.int .i64 (↑l.length:Int)),(9,AV.int .i64 0),(1000,AV.undef)],hp:=[BS.pmap true [] λx=>AV.int .i64 0]}):=by kernel_rfl
def agq(N:Nat)(m:Nat)(l:List AH)(ks:List An)(val:An->AV)(i:Int):LP (eE []) N 0 Rj (Cm 0 0) 0 [] (m+1) (SEn l ks val i) =
 bif decide (i<(↑l.length:Int))then
  bif decide (0<=i)&&decide (i<(↑l.length:Int))then
   LP (eE []) (N) (0) (Rj) (Cm 0 0) 0 ([]) (m) ({fr:=[(3,AV.mp 0),(7,AV.tr 4 l.length λi=>AK (l.getD i default)),(8,AV.int .i64 (↑l.length:Int)),(9,AV.int .i64 (Ao (i+1))),(1000,AV.undef)],hp:=[BS.pmap true (bif Ck (l.getD i.toNat default).key ks then ks else ks++[(l.getD i.toNat default).key]) λx=>bif A5 x (l.getD i.toNat default).key then AV.Al .f64 (l.getD i.toNat default).Ag.re (l.getD i.toNat default).Ag.im else val x]})
  else none
 else
  some ((AV.mp 0,[BS.pmap true ks val])):=by kernel_rfl
def ava(e:Entry)(ks:List An)(V:An->Au):CO 1 (eE [Lo]) 9 dY [AV.agg (Bt e),AV.mp 0] [BS.pmap true ks λk=>eV (V k)] =
 bif !e.write then
  some ((AV.bool true,[BS.pmap true ks λk=>AV.Al .f64 (V k).re (V k).im]))
 else
  bif Ck e.key ks then
   gC (Dq) (V2) (Dp) ([AV.Al .f64 (V e.key).re (V e.key).im,AV.Al .f64 e.Ag.re e.Ag.im]) λy0=>
   some ((AV.bool !AP y0.fst y0.snd,[BS.pmap true ks λk=>AV.Al .f64 (V k).re (V k).im]))
  else
   some ((AV.bool false,[BS.pmap true ks λk=>AV.Al .f64 (V k).re (V k).im])):=by kernel_rfl
def KH(s:An):∀ ks:List An,Ck s ks=true ↔ s ∈ ks
 | []=>by simp[Ck]
 | a::r=>by
  unfold Ck;rw[DV];cases h:s == a with
  | true=>simp at h;simp[h]
  | false=>simp at h;rw[Aj,KH s r];simp[h]
def iF(M:MV)(x:AH):MV:=(Ic M.1 x.key,EG M.2 x.key x.Ag)
def Dx(l:List AH):MV:=l.foldl iF ([],λ_=>default)
def akk{l:List AH}{i:Nat}(h:i<l.length):Dx (l.take (i+1))=iF (Dx (l.take i)) (l.getD i default):=by unfold Dx;rw[Qh,List.foldl_append,BR h];simp[List.getD,BR h]
def fj{ks:List An}{s x:An}:x ∈ Ic ks s ↔ x=s\/x ∈ ks:=by
 unfold Ic;cases h:Ck s ks with
 | true=>have:=(KH s ks).1 h;rw[Ae];exact⟨.inr,λh=>h.elim (λe=>e ▸ this) id⟩
 | false=>rw[Aj];simp[or_comm]
def qI(M:MV):Heap:=[.pmap true M.1 λk=>eV (M.2 k)]
def anI(l:List AH)(h:l.length<=100000):At PG Rj [Bi l] [] (.mp 0) (qI (Dx l)):=by
 obtain⟨N,hN⟩:∃ N,N=200000:=⟨_,rfl⟩
 have run:∀ d i m (val:An->AV),i+d=l.length->d<m->(∀ k ∈ (Dx (l.take i)).1,val k=eV ((Dx (l.take i)).2 k)) -> ∃ iG,LP (eE []) N 0 Rj (Cm 0 0) 0 [] m (SEn l (Dx (l.take i)).1 val (i:Nat))=some (.mp 0,[.pmap true (Dx l).1 iG]) /\ ∀ k ∈ (Dx l).1,iG k=eV ((Dx l).2 k):=by
  intro d
  induction d with
  | zero=>intro i m val hi hm hv;obtain⟨m,rfl⟩:=B3 m (by omega);rw[TG (by omega)]at hv ⊢;refine⟨val,?_,hv⟩;rw[agq,AN (by omega),Aj]
  | succ d ih=>
   intro i m val hi hm hv;obtain⟨m,rfl⟩:=B3 m (by omega);have hil:i<l.length:=by omega
   have ht:=akk hil;obtain⟨iG,h1,h2⟩:=ih (i+1) m (λx=>bif A5 x (l.getD i default).key then eV (l.getD i default).Ag else val x) (by omega) (by omega) (λk hk=>by
    rw[ht]at hk ⊢;show _=eV (EG (Dx (l.take i)).2 (l.getD i default).key (l.getD i default).Ag k);unfold EG;cases hb:A5 k (l.getD i default).key with
    | true=>rfl
    | false=>
     rw[Aj,Aj];refine hv k ?_;rcases fj.1 hk with e | e
     ·rw[e,eD]at hb;cases hb
     ·exact e)
   refine⟨iG,?_,h2⟩;rw[agq,Ax (by omega),Ae,Ax (by omega),CV,Ae,BV,Cs (by omega)];rw[ht]at h1;exact h1
 obtain⟨iG,h1,h2⟩:=run l.length 0 N (λ_=>.int .i64 0) (by omega) (by omega) (λk hk=>by simp[Dx]at hk);have c:=iD SC ((au9 N l).trans h1);exact c.KN (.refl _) (.cons (.pmap true _ _ _ λs hs=>by rw[h2 s hs];exact .refl _) .nil)
def oc:Af:=.Ly Rj (λa=>Bm Da (a.getD 0 .Ak)) (λl=>l.length<=100000) (λl=>[Bi l]) (λl=>(.mp 0,qI (Dx l)))
def acD:oc.Ok PG:=Af.Mn anI
def avb{R:Type}{l:List AH}{k:List AH->Option R}(h:l.length<=100000):gC (λa=>Bm Da (a.getD 0 .Ak)) (λ(l:List AH)=>l.length<=100000) (λl=>[Bi l]) [Bi l] k=k l:=Bj l (Og l) h (.refl _)
def Nr(e:Entry)(M:MV):Bool:=!e.write||(Ck e.key M.1 && !AP (M.2 e.key) e.Ag)
abbrev EM:=Entry × MV
def QO(p:EM):List AV × Heap:=([.agg (Bt p.1),.mp 0],qI p.2)
def dMV(b:BS):MV:=match b with
 | .pmap _ ks val=>(ks,λk=>match val k with
  | .Al _ a b=>⟨a,b⟩
  | _=>default)
 | _=>([],λ_=>default)
def dEM(a:List AV)(h:Heap):EM:=(DG (Bd a 0),dMV (Ab h 0))
def jV(p:EM):Prop:=AU p.1.Ag /\ ∀ k ∈ p.2.1,AU (p.2.2 k)
def ajS(p:EM)(h:jV p):At PG dY (QO p).1 (QO p).2 (.bool (Nr p.1 p.2)) (QO p).2/\(QO p).2.length<=(QO p).2.length:=by
 refine Ds (ak Np AR) (c:=1) (n:=9) (Ar 1) ((ava p.1 p.2.1 p.2.2).trans ?_);unfold Nr;cases hw:p.1.write with
 | false=>rfl
 | true=>
  cases hm:Ck p.1.key p.2.1 with
  | false=>rfl
  | true=>simp only[Dr,Aj,Ae,Bool.false_or,Tj];rw[Ik (h.2 _ ((KH _ _).1 hm)) h.1];rfl
def mL:Af:=.EC dY dEM jV QO (λp=>(.bool (Nr p.1 p.2),(QO p).2))
def aaG:mL.Ok PG:=Af.EL ajS
def acE{R:Type}(p:EM)(k:EM->Option R):Option R:=BA dEM jV QO (QO p).1 (QO p).2 k
def aaH{R:Type}{p:EM}{k:EM->Option R}(h:jV p):acE p k=k p:=Dw p rfl h (.refl _) (.refl _)
def SRi(l:List Entry)(M:MV)(upto floor:Au)(i:Int):St:={fr:=[(1,eV upto),(7,.mp 0),(8,eV floor),(16,AY l),(17,.int .i64 l.length),(18,.int .i64 i)],hp:=qI M}
def qJ(N m:Nat)(l:List Entry)(M:MV)(upto floor:Au)(i:Int):Option AV:=LP (eE [Lo,oc,mL]) N 0 ZK By 0 [] m (SRi l M upto floor i)
def avc(N:Nat)(t:BZ)(upto:Au)(done:List AH):A6 (eE [Lo,oc,mL]) (N+1) ZK [.agg (Cn t),eV upto,Bi done] =
 gC (λa=>Bm Da (a.getD 0 .Ak)) (λ(l:List AH)=>l.length<=100000) (λl=>[Bi l]) [Bi done] λy=>qJ N N t.log (Dx y) upto t.floor 0:=by kernel_rfl
def agr(N m:Nat)(l:List Entry)(M:MV)(upto floor:Au)(i:Int):qJ N (m+1) l M upto floor i =
 bif decide (i<(l.length:Int))then rg i l.length (acE (l.getD i.toNat default,M) λq=>bif !Nr q.1 q.2 then some (eV floor)else gC Dq V2 Dp [eV upto,eV (l.getD i.toNat default).Ag] λy=>bif AP y.1 y.2 then some (eV floor)else qJ N m l M upto (l.getD i.toNat default).Ag (Ao (i+1)))else some (eV floor):=by kernel_rfl
def Xx(M:MV)(upto:Au):Au->List Entry->Au
 | floor,[]=>floor
 | floor,e::r=>bif !Nr e M||AP upto e.Ag then floor else Xx M upto e.Ag r
structure Um where
 t:BZ
 upto:Au
 done:List AH
def XQ(p:Um):Au:=Xx (Dx p.done) p.upto p.t.floor p.t.log
def qK(p:Um):List AV:=[.agg (Cn p.t),eV p.upto,Bi p.done]
def dRi(a:List AV):Um:=⟨KI (Bd a 0),⟨(Ci a 1).1,(Ci a 1).2⟩,Bm Da (a.getD 2 .Ak)⟩
def jW(p:Um):Prop:=p.t.log.length<=100000/\p.done.length<=100000/\AU p.upto/\(∀ e ∈ p.t.log,AU e.Ag) /\ ∀ x ∈ p.done,AU x.Ag
def acF{l:List AH}(h:∀ x ∈ l,AU x.Ag):∀ k ∈ (Dx l).1,AU ((Dx l).2 k):=by
 have:∀ (l:List AH) (M:MV),(∀ x ∈ l,AU x.Ag)->(∀ k ∈ M.1,AU (M.2 k)) -> ∀ k ∈ (l.foldl iF M).1,AU ((l.foldl iF M).2 k):=by
  intro l
  induction l with
  | nil=>intro M _ h;exact h
  | cons x r ih=>
   intro M hl hM;refine ih _ (λy hy=>hl y (by simp[hy])) λk hk=>?_;show AU (EG M.2 x.key x.Ag k);unfold EG;cases hb:A5 k x.key with
   | true=>exact hl x (by simp)
   | false=>
    rcases fj.1 hk with e | e
    ·rw[e,eD]at hb;cases hb
    ·exact hM k e
 exact this l _ h (λk hk=>by simp at hk)
def anJ(p:Um)(h:jW p):At PG ZK (qK p) [] (eV (XQ p)) []:=by
 obtain⟨h1,h2,h3,h4,h5⟩:=h;obtain⟨N,hN⟩:∃ N,N=200000:=⟨_,rfl⟩
 have hM:=acF h5;have run:∀ d i m floor,i+d=p.t.log.length->d<m->qJ N m p.t.log (Dx p.done) p.upto floor (i:Nat)=some (eV (Xx (Dx p.done) p.upto floor (p.t.log.drop i))):=by
  intro d
  induction d with
  | zero=>intro i m floor hi hm;obtain⟨m,rfl⟩:=B3 m (by omega);rw[agr,AN (by omega),Aj,Gj (by omega)];rfl
  | succ d ih=>
   intro i m floor hi hm;obtain⟨m,rfl⟩:=B3 m (by omega);have hil:i<p.t.log.length:=by omega
   have hv:=h4 _ (De (z:=(default:Entry)) hil);rw[agr,Ax (by omega),Ae,B8 hil,BV,aaH ⟨hv,hM⟩,drop_cons (z:=(default:Entry)) hil,Xx];simp only;cases hs:Nr (p.t.log.getD i default) (Dx p.done)with
   | false=>rfl
   | true=>
    rw[Dr,Aj,Bool.false_or];refine(Ik h3 hv).trans ?_;simp only;cases AP p.upto (p.t.log.getD i default).Ag with
    | true=>rfl
    | false=>rw[Aj,Aj,Cs (by omega)];exact ih (i+1) m _ (by omega) (by omega)
 refine Cx (ak Np (ak acD (ak aaG AR))) ((avc N p.t p.upto p.done).trans ?_);rw[avb h2];have:=run p.t.log.length 0 N p.t.floor (by omega) (by omega);rw[Hf]at this;exact this
def ags:Af:=.spec ZK dRi jW qK (λp=>eV (XQ p))
def anK:ags.Ok PG:=Af.BJ anJ
def eP(l:List Af):Env:=Cw [(Px,0,[4,5,6,16,17,18,1004]),(Im,0,[2,4,6,7,37,38,39,1005])] [(Nl,1),(Il,0),(GX,5),(dX,1)] [] l
def alJ:(Jy Il 11).Ok PG:=J7 Rm
def avd(p:C3):CO 0 (eP [Vh Nl 4,Jy Il 11]) 9 dX [AV.agg (Dg p)] [] =
 gC (D1) (C9) (D2 11) ([AY p.out]) λy0=>
 gC (D1) (C9) (D2 4) ([Bi p.done]) λy1=>
 some ((AV.agg [AV.int .i64 p.num,AV.tr 11 y0.fst y0.snd,AV.sn 4 0 y1.fst],[BS.seq true 4 y1.fst y1.snd])):=by kernel_rfl
def MW(p:C3):Prop:=p.out.length<=100000/\p.done.length<=100000
def asT(p:C3)(h:MW p):At PG dX [.agg (Dg p)] [] (.agg [.int .i64 p.num,AY p.out,.sn 4 0 p.done.length]) [Bf 4 AK default p.done]:=by refine iD (ak acz (ak alJ AR)) ((avd p).trans ?_);refine(Wm (sz:=11) h.1).trans ?_;exact(Wm (sz:=4) h.2)
def qL:Af:=.Ly dX (λa=>Is (Bd a 0)) MW (λp=>[.agg (Dg p)]) (λp=>(.agg [.int .i64 p.num,AY p.out,.sn 4 0 p.done.length],[Bf 4 AK default p.done]))
def wJ:qL.Ok PG:=Af.Mn asT
def qCp{R:Type}{p:C3}{k:C3->Option R}(h:MW p):gC (λa=>Is (Bd a 0)) MW (λp=>[.agg (Dg p)]) [.agg (Dg p)] k=k p:=Bj p (ZN p) h (.refl _)
abbrev MC:=List An × (An->Int)
def Qp(M:MC)(s:An):MC:=(Ic M.1 s,EG M.2 s (Ao ((bif Ck s M.1 then M.2 s else 0)+1)))
def JL(l:List An):MC:=l.foldl Qp ([],λ_=>0)
def aeU(l:List An)(h:l.length<=1000000):(∀ k,k ∈ (JL l).1 ↔ k ∈ l) /\ ∀ k ∈ (JL l).1,1<=(JL l).2 k/\(JL l).2 k<=l.length:=by
 have:∀ (l:List An) (M:MC) (n:Nat),n+l.length<=1000000->(∀ k ∈ M.1,1<=M.2 k/\M.2 k<=n)->(∀ k,k ∈ (l.foldl Qp M).1 ↔ k ∈ M.1\/k ∈ l) /\ ∀ k ∈ (l.foldl Qp M).1,1<=(l.foldl Qp M).2 k/\(l.foldl Qp M).2 k<=(n+l.length:Nat):=by
  intro l
  induction l with
  | nil=>intro M n _ h;exact⟨λk=>by simp,by simpa using h⟩
  | cons s r ih=>
   intro M n hn hM;obtain⟨h1,h2⟩:=ih (Qp M s) (n+1) (by simp at hn;omega) (λk hk=>by
    show 1<=EG M.2 s _ k/\EG M.2 s _ k<=_;unfold EG;cases hb:A5 k s with
    | true=>
     rw[Ae];cases hm:Ck s M.1 with
     | true=>have:=hM s ((KH _ _).1 hm);rw[Ae,wrap64 (by simp at hn;omega)];omega
     | false=>rw[Aj,wrap64 (by omega)];omega
    | false=>
     rcases fj.1 hk with e | e
     ·rw[e,eD]at hb;cases hb
     ·have:=hM k e;rw[Aj];omega)
   refine⟨λk=>?_,λk hk=>?_⟩
   ·rw[RF,h1];show k ∈ Ic M.1 s\/k ∈ r ↔ _;rw[fj,Dz,or_comm (a:=k=s),or_assoc]
   ·have:=h2 k hk;rw[RF,CR];omega
 obtain⟨h1,h2⟩:=this l ([],λ_=>0) 0 (by omega) (λk hk=>by simp at hk);exact⟨λk=>by unfold JL;rw[h1];simp,λk hk=>by have:=h2 k hk;unfold JL;omega⟩
def acG(l:List An)(s:An):JL (l++[s])=Qp (JL l) s:=by unfold JL;rw[List.foldl_append];rfl
def hTr(p:C3)(M:MC):Heap:=[.arr true 3 [[.int .i64 0,.Ak,.Ak]],.arr true 3 [[.int .i64 p.num,AY p.out,.sn 4 2 p.done.length]],Bf 4 AK default p.done,.arr true 1 [[.mp 4]],.pmap true M.1 λk=>.int .i64 (M.2 k)]
def STr(p:C3)(M:MC)(l:List Entry)(i:Int):St:={fr:=[(4,.ptr 0 0 0),(5,.ptr 1 0 0),(6,.ptr 3 0 0),(16,AY l),(17,.int .i64 l.length),(18,.int .i64 i),(1004,.undef)],hp:=hTr p M}
def Vz:List Af:=[qL,kDT]
def ap6:∀ k ∈ Vz,k.Ok PG:=ak wJ (ak asC AR)
def cU(N m:Nat)(p:C3)(M:MC)(l:List Entry)(i:Int):Option AV:=LP (eP Vz) N 0 Px By 0 [] m (STr p M l i)
def ave(N:Nat)(p:C3)(t:BZ):A6 (eP Vz) (N+1) Px [.agg (Dg p),.agg (Cn t)]=gC (λa=>Is (Bd a 0)) MW (λp=>[.agg (Dg p)]) [.agg (Dg p)] λy=>cU N N y (JL []) t.log 0:=by kernel_rfl
def avf(N:Nat)(m:Nat)(p:C3)(M:MC)(l:List Entry)(i:Int):LP (eP Vz) N 0 Px By 0 [] (m+1) (STr p M l i) =
 bif decide (i<(↑l.length:Int))then
  bif decide (0<=i)&&decide (i<(↑l.length:Int))then
   bif(l.getD i.toNat default).write then
    bif Ck (l.getD i.toNat default).key M.fst then
     LP (eP Vz) (N) (0) (Px) (By) 0 ([]) (m) ({fr:=[(4,AV.ptr 0 0 0),(5,AV.ptr 1 0 0),(6,AV.ptr 3 0 0),(16,AY l),(17,AV.int .i64 (↑l.length:Int)),(18,AV.int .i64 (Ao (i+1))),(1004,AV.undef)],hp:=[BS.arr true 3 [[AV.int .i64 0,AV.Ak,AV.Ak]],BS.arr true 3 [[AV.int .i64 p.num,AY p.out,AV.sn 4 2 p.done.length]],BS.seq true 4 p.done.length λi=>AK (p.done.getD i default),BS.arr true 1 [[AV.mp 4]],BS.pmap true (bif Ck (l.getD i.toNat default).key M.fst then M.fst else M.fst++[(l.getD i.toNat default).key]) λx=>bif A5 x (l.getD i.toNat default).key then AV.int .i64 (Ao (M.snd (l.getD i.toNat default).key+1))else AV.int .i64 (M.snd x)]})
    else
     LP (eP Vz) (N) (0) (Px) (By) 0 ([]) (m) ({fr:=[(4,AV.ptr 0 0 0),(5,AV.ptr 1 0 0),(6,AV.ptr 3 0 0),(16,AY l),(17,AV.int .i64 (↑l.length:Int)),(18,AV.int .i64 (Ao (i+1))),(1004,AV.undef)],hp:=[BS.arr true 3 [[AV.int .i64 0,AV.Ak,AV.Ak]],BS.arr true 3 [[AV.int .i64 p.num,AY p.out,AV.sn 4 2 p.done.length]],BS.seq true 4 p.done.length λi=>AK (p.done.getD i default),BS.arr true 1 [[AV.mp 4]],BS.pmap true (bif Ck (l.getD i.toNat default).key M.fst then M.fst else M.fst++[(l.getD i.toNat default).key]) λx=>bif A5 x (l.getD i.toNat default).key then AV.int .i64 1 else AV.int .i64 (M.snd x)]})
   else
    LP (eP Vz) (N) (0) (Px) (By) 0 ([]) (m) (STr p M l (Ao (i+1)))
  else none
 else
  BA (YE) (Sz) (EJ) ([AV.sn 4 0 p.done.length,AV.fn (Fn.func dW) [] [AV.ptr 1 0 0]]) ([BS.seq true 4 p.done.length λi=>AK (p.done.getD i default),BS.arr true 1 [[AV.mp 2]],BS.pmap true M.fst λk=>AV.int .i64 (M.snd k)]) λy2=>
  bif(List.filter (λx=>!pT y2.snd x) y2.fst).length.ble (List.filter (λx=>!pT y2.snd x) y2.fst).length&&true then
   some (AV.agg [AV.int .i64 p.num,AY p.out,AV.tr 4 (List.filter (λx=>!pT y2.snd x) y2.fst).length λi=>AK ((List.filter (λx=>!pT y2.snd x) y2.fst).getD i default)])
  else none:=by kernel_rfl
def aeV(N m:Nat)(p:C3)(M:MC)(l:List Entry)(i:Int):cU N (m+1) p M l i =
 bif decide (i<(l.length:Int))then rg i l.length (bif(l.getD i.toNat default).write then cU N m p (Qp M (l.getD i.toNat default).key) l (Ao (i+1))else cU N m p M l (Ao (i+1)))
 else BA YE Sz EJ (EJ (p.done,M)).1 (EJ (p.done,M)).2 λy=>bif(List.filter (λx=>!pT y.2 x) y.1).length.ble (List.filter (λx=>!pT y.2 x) y.1).length&&true then some (.agg [.int .i64 p.num,AY p.out,Bi (List.filter (λx=>!pT y.2 x) y.1)])else none:=by
 refine(avf N m p M l i).trans ?_;have key:∀ (s:An) (v:Int),BS.pmap true (bif Ck s M.1 then M.1 else M.1++[s]) (λx=>bif A5 x s then AV.int .i64 v else AV.int .i64 (M.2 x))=.pmap true (Ic M.1 s) λk=>.int .i64 (EG M.2 s v k):=λs v=>by rw[uF (λn=>AV.int .i64 n)];rfl
 rw[key,key];have hL:∀ v:Int,v=(bif Ck (l.getD i.toNat default).key M.1 then M.2 (l.getD i.toNat default).key else 0)->cU N m p (Qp M (l.getD i.toNat default).key) l (Ao (i+1))=LP (eP Vz) N 0 Px By 0 [] m {fr:=[(4,.ptr 0 0 0),(5,.ptr 1 0 0),(6,.ptr 3 0 0),(16,AY l),(17,.int .i64 l.length),(18,.int .i64 (Ao (i+1))),(1004,.undef)],hp:=hTr p (Ic M.1 (l.getD i.toNat default).key,EG M.2 (l.getD i.toNat default).key (Ao (v+1)))}:=λv hv=>by rw[hv];rfl
 unfold rg;cases hd:decide (i<(l.length:Int))with
 | false=>rfl
 | true=>
  rw[Ae,Ae];cases hw:(l.getD i.toNat default).write with
  | false=>rfl
  | true=>
   rw[Ae,Ae];cases hm:Ck (l.getD i.toNat default).key M.1 with
   | true=>rw[Ae,hL (M.2 (l.getD i.toNat default).key) (by rw[hm,Ae])];rfl
   | false=>rw[Aj,hL 0 (by rw[hm,Aj])];rfl
def Vi(l:List Entry):List An:=(l.filter λe=>e.write).map λe=>e.key
def akl{l:List Entry}{i:Nat}(h:i<l.length):Vi (l.take (i+1))=Vi (l.take i)++bif(l.getD i default).write then [(l.getD i default).key]else []:=by
 unfold Vi;rw[Qh,XB,List.map_append,BR h];have e:l.getD i default=l[i]:=by simp[List.getD,BR h]
 rw[e];cases hw:l[i].write <;> simp[hw]
def aR(p:C3)(l:List Entry):C3:={p with done:=p.done.filter λx=>Ck x.key (Vi l)}
def asU{ks:List An}(h:ks.length<=1000000)(x:AH):(!pT (JL ks) x)=Ck x.key ks:=by
 obtain⟨h1,h2⟩:=aeU ks h;unfold pT;cases hm:Ck x.key (JL ks).1 with
 | true=>have hk:=(KH _ _).1 hm;have:=h2 _ hk;rw[Ae,AN (by omega),EP];exact((KH _ _).2 ((h1 _).1 hk)).symm
 | false=>
  rw[Aj,Dr];cases hm2:Ck x.key ks with
  | false=>rfl
  | true=>rw[(KH _ _).2 ((h1 _).2 ((KH _ _).1 hm2))]at hm;cases hm
abbrev PT:=C3 × BZ
def qM(p:PT):List AV:=[.agg (Dg p.1),.agg (Cn p.2)]
def jX(p:PT):Prop:=MW p.1/\p.2.log.length<=100000
def anL(p:PT)(h:jX p):At PG Px (qM p) [] (.agg (Dg (aR p.1 p.2.log))) []:=by
 obtain⟨h1,h2⟩:=h;obtain⟨N,hN⟩:∃ N,N=200000:=⟨_,rfl⟩
 have:=fy (n:=p.2.log.length) (λi m=>cU N m p.1 (JL (Vi (p.2.log.take i))) p.2.log (i:Nat)=some (.agg (Dg (aR p.1 p.2.log)))) (λm=>?_) (λi m hi ih=>?_) 0 N (Bu _) (by omega)
 ·exact Cx ap6 ((ave N p.1 p.2).trans ((qCp h1).trans this))
 ·rw[aeV,AN (by omega),Aj,TG (Ar _)];refine(Dw (p.1.done,JL (Vi p.2.log)) (aeO _) h1.2 (.refl _) (.refl _)).trans ?_;have hk:(Vi p.2.log).length<=1000000:=by unfold Vi;rw[OK];have:=KS (λe:Entry=>e.write) p.2.log;omega
  simp only[asU hk];rw[D3 (Ar _)];rfl
 ·rw[aeV,Ax (by omega),Ae,B8 hi,BV,Cs (by omega)];rw[akl hi]at ih;cases hw:(p.2.log.getD i default).write with
  | true=>rw[hw,Ae,acG]at ih;rw[Ae];exact ih
  | false=>rw[hw,Aj,FY]at ih;rw[Aj];exact ih
def agt:Af:=.spec Px (λa=>(Is (Bd a 0),KI (Bd a 1))) jX qM (λp=>.agg (Dg (aR p.1 p.2.log)))
def anM:agt.Ok PG:=Af.BJ anL
def Kl:List Af:=[qL,kDF]
def avg(N:Nat)(p:C3)(m:Ad):A6 (eP Kl) (N+1) Im [AV.agg (Dg p),AV.agg (Aq m)] =
 gC (λa=>Is (Bd a 0)) (MW) (λp=>[AV.agg (Dg p)]) ([AV.agg (Dg p)]) λy3=>
 bif decide ((↑p.out.length:Int)=0)then
  bif y3.done.length.ble y3.done.length&&true&&true then
   some (AV.Am [AV.agg (Dg y3),AV.bool false])
  else none
 else
  bif !decide (m.num=p.num)then
   bif y3.done.length.ble y3.done.length&&true&&true then
    some (AV.Am [AV.agg (Dg y3),AV.bool false])
   else none
  else
   bif !decide (m.code=0)then
    bif y3.done.length.ble y3.done.length&&true&&true then
     some (AV.Am [AV.agg [AV.int .i64 y3.num,AV.Ak,Bi y3.done],AV.bool true])
    else none
   else
    LP (eP Kl) (N) 0 (Im) By 0 [] (N) ({fr:=[(2,AV.ptr 0 0 0),(4,AV.ptr 1 0 0),(6,AV.ptr 2 0 0),(7,AV.ptr 4 0 0),(37,AY p.out),(38,AV.int .i64 (↑p.out.length:Int)),(39,AV.int .i64 0),(1005,AV.undef)],hp:=[BS.arr true 3 [Dg p],BS.arr true 3 [[AV.int .i64 0,AV.Ak,AV.Ak]],BS.arr true 3 [[AV.int .i64 y3.num,AV.Ak,AV.sn 4 3 y3.done.length]],BS.seq true 4 y3.done.length λi=>AK (y3.done.getD i default),BS.arr true 1 [[AV.mp 5]],BS.pmap true [] λx=>AV.int .i64 0]}):=by kernel_rfl
def hFl(p:C3)(M:MC):Heap:=[.arr true 3 [Dg p],.arr true 3 [[.int .i64 0,.Ak,.Ak]],.arr true 3 [[.int .i64 p.num,.Ak,.sn 4 3 p.done.length]],Bf 4 AK default p.done,.arr true 1 [[.mp 5]],.pmap true M.1 λk=>.int .i64 (M.2 k)]
def jY(p:C3)(M:MC)(i:Int):St:={fr:=[(2,.ptr 0 0 0),(4,.ptr 1 0 0),(6,.ptr 2 0 0),(7,.ptr 4 0 0),(37,AY p.out),(38,.int .i64 p.out.length),(39,.int .i64 i),(1005,.undef)],hp:=hFl p M}
def avh(N:Nat)(m:Nat)(p:C3)(M:MC)(i:Int):LP (eP Kl) N 0 Im By 0 [] (m+1) (jY p M i) =
 bif decide (i<(↑p.out.length:Int))then
  bif decide (0<=i)&&decide (i<(↑p.out.length:Int))then
   bif Ck (p.out.getD i.toNat default).key M.fst then
    LP (eP Kl) (N) (0) (Im) (By) 0 ([]) (m) ({fr:=[(2,AV.ptr 0 0 0),(4,AV.ptr 1 0 0),(6,AV.ptr 2 0 0),(7,AV.ptr 4 0 0),(37,AY p.out),(38,AV.int .i64 (↑p.out.length:Int)),(39,AV.int .i64 (Ao (i+1))),(1005,AV.undef)],hp:=[BS.arr true 3 [Dg p],BS.arr true 3 [[AV.int .i64 0,AV.Ak,AV.Ak]],BS.arr true 3 [[AV.int .i64 p.num,AV.Ak,AV.sn 4 3 p.done.length]],BS.seq true 4 p.done.length λi=>AK (p.done.getD i default),BS.arr true 1 [[AV.mp 5]],BS.pmap true (bif Ck (p.out.getD i.toNat default).key M.fst then M.fst else M.fst++[(p.out.getD i.toNat default).key]) λx=>bif A5 x (p.out.getD i.toNat default).key then AV.int .i64 (Ao (M.snd (p.out.getD i.toNat default).key+1))else AV.int .i64 (M.snd x)]})
   else
    LP (eP Kl) (N) (0) (Im) (By) 0 ([]) (m) ({fr:=[(2,AV.ptr 0 0 0),(4,AV.ptr 1 0 0),(6,AV.ptr 2 0 0),(7,AV.ptr 4 0 0),(37,AY p.out),(38,AV.int .i64 (↑p.out.length:Int)),(39,AV.int .i64 (Ao (i+1))),(1005,AV.undef)],hp:=[BS.arr true 3 [Dg p],BS.arr true 3 [[AV.int .i64 0,AV.Ak,AV.Ak]],BS.arr true 3 [[AV.int .i64 p.num,AV.Ak,AV.sn 4 3 p.done.length]],BS.seq true 4 p.done.length λi=>AK (p.done.getD i default),BS.arr true 1 [[AV.mp 5]],BS.pmap true (bif Ck (p.out.getD i.toNat default).key M.fst then M.fst else M.fst++[(p.out.getD i.toNat default).key]) λx=>bif A5 x (p.out.getD i.toNat default).key then AV.int .i64 1 else AV.int .i64 (M.snd x)]})
  else none
 else
  BA (YC) (QM) (EH) ([AV.sn 4 0 p.done.length,AV.fn (Fn.func dV) [] [AV.ptr 1 0 0]]) ([BS.seq true 4 p.done.length λi=>AK (p.done.getD i default),BS.arr true 1 [[AV.mp 2]],BS.pmap true M.fst λk=>AV.int .i64 (M.snd k)]) λy4=>
  LP (eP Kl) (N) (0) (Im) (By) 2 ([]) (N) ({fr:=[(4,AV.ptr 0 0 0),(6,AV.ptr 1 0 0),(56,AY p.out),(57,AV.int .i64 (↑p.out.length:Int)),(58,AV.int .i64 0)],hp:=[BS.arr true 3 [[AV.int .i64 0,AV.Ak,AV.Ak]],BS.arr true 3 [[AV.int .i64 p.num,AV.Ak,AV.sn 4 2 (List.filter (λx=>!pF y4.snd x) y4.fst).length]],BS.seq true 4 (List.filter (λx=>!pF y4.snd x) y4.fst).length λi=>AK ((List.filter (λx=>!pF y4.snd x) y4.fst).getD i default)]}):=by kernel_rfl
def aeW(N m:Nat)(p:C3)(M:MC)(i:Int):LP (eP Kl) N 0 Im By 0 [] (m+1) (jY p M i) =
 bif decide (i<(p.out.length:Int))then rg i p.out.length (LP (eP Kl) N 0 Im By 0 [] m (jY p (Qp M (p.out.getD i.toNat default).key) (Ao (i+1))))
 else BA YC QM EH (EH (p.done,M)).1 (EH (p.done,M)).2 λy=>LP (eP Kl) N 0 Im By 2 [] N {fr:=[(4,.ptr 0 0 0),(6,.ptr 1 0 0),(56,AY p.out),(57,.int .i64 p.out.length),(58,.int .i64 0)],hp:=[.arr true 3 [[.int .i64 0,.Ak,.Ak]],.arr true 3 [[.int .i64 p.num,.Ak,.sn 4 2 (y.1.filter λx=>!pF y.2 x).length]],Bf 4 AK default (y.1.filter λx=>!pF y.2 x)]}:=by
 refine(avh N m p M i).trans ?_;have key:∀ (s:An) (v:Int),BS.pmap true (bif Ck s M.1 then M.1 else M.1++[s]) (λx=>bif A5 x s then AV.int .i64 v else AV.int .i64 (M.2 x))=.pmap true (Ic M.1 s) λk=>.int .i64 (EG M.2 s v k):=λs v=>by rw[uF (λn=>AV.int .i64 n)];rfl
 rw[key,key];have hL:∀ v:Int,v=(bif Ck (p.out.getD i.toNat default).key M.1 then M.2 (p.out.getD i.toNat default).key else 0)->LP (eP Kl) N 0 Im By 0 [] m (jY p (Qp M (p.out.getD i.toNat default).key) (Ao (i+1)))=LP (eP Kl) N 0 Im By 0 [] m {fr:=[(2,.ptr 0 0 0),(4,.ptr 1 0 0),(6,.ptr 2 0 0),(7,.ptr 4 0 0),(37,AY p.out),(38,.int .i64 p.out.length),(39,.int .i64 (Ao (i+1))),(1005,.undef)],hp:=hFl p (Ic M.1 (p.out.getD i.toNat default).key,EG M.2 (p.out.getD i.toNat default).key (Ao (v+1)))}:=λv hv=>by rw[hv];rfl
 unfold rg;cases hd:decide (i<(p.out.length:Int))with
 | false=>rfl
 | true=>
  rw[Ae,Ae];cases hm:Ck (p.out.getD i.toNat default).key M.1 with
  | true=>rw[Ae,hL (M.2 (p.out.getD i.toNat default).key) (by rw[hm,Ae])];rfl
  | false=>rw[Aj,hL 0 (by rw[hm,Aj])];rfl
def jZ(num:Int)(out:List Entry)(l:List AH)(i:Int):St:={fr:=[(4,.ptr 0 0 0),(6,.ptr 1 0 0),(56,AY out),(57,.int .i64 out.length),(58,.int .i64 i)],hp:=[.arr true 3 [[.int .i64 0,.Ak,.Ak]],.arr true 3 [[.int .i64 num,.Ak,.sn 4 2 l.length]],Bf 4 AK default l]}
def agu(N:Nat)(m:Nat)(num:Int)(out:List Entry)(l:List AH)(i:Int):LP (eP Kl) N 0 Im By 2 [] (m+1) (jZ num out l i) =
 bif decide (i<(↑out.length:Int))then
  bif decide (0<=i)&&decide (i<(↑out.length:Int))then
   bif l.length.ble l.length then
    bif((l.length+1)*56).ble 140737488355328&&(l.length+1).ble 140737488355328 then
     LP (eP Kl) (N) (0) (Im) (By) 2 ([]) (m) ({fr:=[(4,AV.ptr 0 0 0),(6,AV.ptr 1 0 0),(56,AY out),(57,AV.int .i64 (↑out.length:Int)),(58,AV.int .i64 (Ao (i+1)))],hp:=[BS.arr true 3 [[AV.int .i64 0,AV.Ak,AV.Ak]],BS.arr true 3 [[AV.int .i64 num,AV.Ak,AV.sn 4 2 (l.length+1)]],BS.seq true 4 (l.length+1) (BQ l.length (λi=>AK (l.getD i default)) (View.list [[AV.str (out.getD i.toNat default).key,AV.str [],AV.bool false,AV.Al .f64 (out.getD i.toNat default).Ag.re (out.getD i.toNat default).Ag.im]]))]})
    else none
   else none
  else none
 else
  bif l.length.ble l.length&&true&&true then
   some (AV.Am [AV.agg [AV.int .i64 num,AV.Ak,AV.tr 4 l.length λi=>AK (l.getD i default)],AV.bool true])
  else none:=by kernel_rfl
def asV{ks:List An}(h:ks.length<=1000000)(x:AH):pF (JL ks) x=Ck x.key ks:=by
 obtain⟨h1,h2⟩:=aeU ks h;unfold pF;cases hm:Ck x.key (JL ks).1 with
 | true=>have hk:=(KH _ _).1 hm;have:=h2 _ hk;rw[Ae,Ax (by omega)];exact((KH _ _).2 ((h1 _).1 hk)).symm
 | false=>
  rw[Aj];cases hm2:Ck x.key ks with
  | false=>rfl
  | true=>rw[(KH _ _).2 ((h1 _).2 ((KH _ _).1 hm2))]at hm;cases hm
def LU(e:Entry):AH:=⟨e.key,[],false,e.Ag⟩
def gK(p:C3):List AH:=(p.done.filter λx=>!Ck x.key (p.out.map λe=>e.key))++p.out.map LU
def Ht(p:C3)(m:Ad):C3 × Bool:=
 bif decide ((p.out.length:Int)=0)then(p,false)else bif !decide (m.num=p.num)then(p,false)else bif !decide (m.code=0)then({p with out:=[]},true)else(⟨p.num,[],gK p⟩,true)
abbrev PM:=C3 × Ad
def qN(p:PM):List AV:=[.agg (Dg p.1),.agg (Aq p.2)]
def oFl(p:PM):AV:=.Am [.agg (Dg (Ht p.1 p.2).1),.bool (Ht p.1 p.2).2]
def mM:∀ k ∈ Kl,k.Ok PG:=ak wJ (ak asx AR)
def asW{num:Int}{out:List Entry}{done:List AH}{N:Nat}(hl:done.length<=100000)(ho:out.length<=100000):∀ i m,i<=out.length->out.length - i<m->LP (eP Kl) N 0 Im By 2 [] m (jZ num out (done++(out.take i).map LU) (i:Nat))=some (.Am [.agg [.int .i64 num,.Ak,Bi (done++out.map LU)],.bool true]):=by
 refine fy (n:=out.length) (λi m=>LP (eP Kl) N 0 Im By 2 [] m (jZ num out (done++(out.take i).map LU) (i:Nat))=some (.Am [.agg [.int .i64 num,.Ak,Bi (done++out.map LU)],.bool true])) (λm=>?_) (λi m hi ih=>?_)
 ·rw[agu,AN (by omega),Aj,TG (Ar _),D3 (Ar _)];rfl
 ·have hlen:(done++(out.take i).map LU).length<=200000:=by rw[CB,OK,List.length_take];omega
  rw[agu,Ax (by omega),Ae,Ax (by omega),CV,Ae,D3 (Ar _),Ae,D3 (by omega),D3 (by omega),CV,Ae,Cs (by omega)];have e:out.take (i+1)=out.take i++[out.getD i default]:=by rw[Qh,BR hi];simp[List.getD,BR hi]
  rw[e,List.map_append,<- JE]at ih;have hs:=vy 4 AK (default:AH) (done++(out.take i).map LU) (LU (out.getD i default));have hb:∀ l:List AH,jZ num out (l++[LU (out.getD i default)]) ((i+1:Nat):Int)={fr:=[(4,.ptr 0 0 0),(6,.ptr 1 0 0),(56,AY out),(57,.int .i64 out.length),(58,.int .i64 ((i+1:Nat):Int))],hp:=[.arr true 3 [[.int .i64 0,.Ak,.Ak]],.arr true 3 [[.int .i64 num,.Ak,.sn 4 2 (l.length+1)]],Bf 4 AK default (l++[LU (out.getD i default)])]}:=λl=>by unfold jZ;rw[CB];rfl
  have NZ:=ih;simp only[NP,List.map_nil]at NZ;rw[hb,<- hs]at NZ;exact NZ
def ajT(p:PM)(h:MW p.1):At PG Im (qN p) [] (oFl p) []:=by
 obtain⟨N,hN⟩:∃ N,N=200000:=⟨_,rfl⟩
 have e:=avg N p.1 p.2;have h1:=h.1;have h2:=h.2;rw[qCp h]at e;simp only[D3 (Ar p.1.done.length),Bool.and_self,Ae]at e;unfold oFl Ht;cases ha:decide ((p.1.out.length:Int)=0)with
 | true=>rw[ha,Ae]at e;exact Cx mM e
 | false=>
  rw[ha,Aj]at e;cases hb:!decide (p.2.num=p.1.num)with
  | true=>rw[hb,Ae]at e;exact Cx mM e
  | false=>
   rw[hb,Aj]at e;cases hc:!decide (p.2.code=0)with
   | true=>rw[hc,Ae]at e;exact(Cx mM e).res (.Am (.cons (.agg (.cons (.refl _) (.cons FA (.cons (.refl _) .nil)))) (.cons (.refl _) .nil)))
   | false=>
    rw[hc,Aj]at e;have run:=fy (n:=p.1.out.length) (λi m=>LP (eP Kl) N 0 Im By 0 [] m (jY p.1 (JL ((p.1.out.take i).map λe=>e.key)) (i:Nat))=some (.Am [.agg [.int .i64 p.1.num,.Ak,Bi (gK p.1)],.bool true])) (λm=>?_) (λi m hi ih=>?_) 0 N (Bu _) (by omega)
    ·exact(Cx mM (e.trans run)).res (.Am (.cons (.agg (.cons (.refl _) (.cons FA (.cons (.refl _) .nil)))) (.cons (.refl _) .nil)))
    ·rw[aeW,AN (by omega),Aj,TG (Ar _)];refine(Dw (pre:=QM) (p.1.done,JL (p.1.out.map λe=>e.key)) (aeN _) h2 (.refl _) (.refl _)).trans ?_;simp only[asV (ks:=p.1.out.map λe=>e.key) (by rw[OK];omega)];have:=asW (num:=p.1.num) (out:=p.1.out) (done:=p.1.done.filter λx=>!Ck x.key (p.1.out.map λe=>e.key)) (N:=N) (CI (KS _ _) h2) h1 0 N (Bu _) (by omega);rw[List.take_zero,List.map_nil,FY]at this;exact this
    ·rw[aeW,Ax (by omega),Ae,B8 hi,BV,Cs (by omega)];have e:p.1.out.take (i+1)=p.1.out.take i++[p.1.out.getD i default]:=by rw[Qh,BR hi];simp[List.getD,BR hi]
     rw[e,List.map_append]at ih;rw[<- acG];exact ih
def acH:Af:=.spec Im (λa=>(Is (Bd a 0),Dj (Bd a 1))) (λp=>MW p.1) qN oFl
def ajU:acH.Ok PG:=Af.BJ ajT
def K0{X:Type}(c:X->X->Bool):List X->X->List X->List X
 | [],x,B=>x::B
 | a::A,x,B=>bif c x a then K0 c A x (a::B)else(a::A).reverse++x::B
def TR{X:Type}(c:X->X->Bool)(P:List X)(x:X):List X:=K0 c P.reverse x []
def P9{X:Type}(c:X->X->Bool)(l:List X):List X:=l.foldl (TR c) []
def uG{X:Type}(c:X->X->Bool):∀ (A:List X) (x:X) (B:List X),K0 c A x B=K0 c A x []++B
 | [],_,_=>rfl
 | a::A,x,B=>by
  unfold K0;cases c x a with
  | true=>rw[Ae,Ae,uG c A x (a::B),uG c A x [a],JE];rfl
  | false=>rw[Aj,Aj,JE];rfl
def abA{X:Type}(c:X->X->Bool):∀ (A:List X) (x:X) (B:List X),(K0 c A x B).Perm (x::A++B)
 | [],_,_=>.refl _
 | a::A,x,B=>by
  unfold K0;cases c x a with
  | true=>rw[Ae];refine(abA c A x (a::B)).trans ?_;exact .cons x (List.perm_middle)
  | false=>rw[Aj];refine List.perm_middle.trans (.cons x ?_);exact(List.reverse_perm _).append_right B
def ml{X:Type}(c:X->X->Bool)(P:List X)(x:X):(TR c P x).Perm (x::P):=by refine(abA c _ x []).trans (.cons x ?_);show(P.reverse++[]).Perm P;rw[FY];exact List.reverse_perm _
def ZR{X:Type}(c:X->X->Bool)(l:List X):(P9 c l).Perm l:=by
 have:∀ (l P:List X),(l.foldl (TR c) P).Perm (P++l):=by
  intro l
  induction l with
  | nil=>intro P;rw[FY];exact .refl _
  | cons x r ih=>intro P;rw[RF];refine(ih _).trans ?_;refine((ml c P x).append_right r).trans ?_;exact List.perm_middle.symm
 exact this l []
def aaI{X:Type}{c:X->X->Bool}(tr:∀ x y z,c x y=true->c y z=true->c x z=true):∀ (A:List X) (x:X) (B:List X),
  (A.reverse++B).Pairwise (λa b=>c a b=true)->(∀ b ∈ B,c x b=true)->(∀ a ∈ A,c x a=true\/c a x=true)->(K0 c A x B).Pairwise λa b=>c a b=true
 | [],x,B,h,hB,_=>R4.2 ⟨hB,h⟩
 | a::A,x,B,h,hB,hA=>by
  unfold K0;cases hc:c x a with
  | true=>
   rw[Ae];refine aaI tr A x (a::B) (by rw[List.reverse_cons,JE]at h;exact h) (λb hb=>?_) λb hb=>hA b (by simp[hb]);rcases Dz.1 hb with rfl | hb
   ·exact hc
   ·exact hB b hb
  | false=>
   rw[Aj];have ha:c a x=true:=(hA a (by simp)).resolve_left (by rw[hc];simp);obtain⟨h1,h2,h3⟩:=R1.1 h;refine R1.2 ⟨h1,R4.2 ⟨hB,h2⟩,λy hy z hz=>?_⟩;have QE:c y x=true:=by
    rw[List.reverse_cons]at hy h1;obtain⟨_,_,g3⟩:=R1.1 h1;rcases Cp.1 hy with hy | hy
    ·exact tr _ _ _ (g3 y hy a (by simp)) ha
    ·rw[DO.1 hy];exact ha
   rcases Dz.1 hz with rfl | hz
   ·exact QE
   ·exact h3 y hy z hz
def aay{X:Type}{c:X->X->Bool}(tr:∀ x y z,c x y=true->c y z=true->c x z=true)(l:List X)(hl:l.Pairwise λa b=>c a b=true\/c b a=true):(P9 c l).Pairwise λa b=>c a b=true:=by
 have:∀ (l P:List X),P.Pairwise (λa b=>c a b=true)->(P++l).Pairwise (λa b=>c a b=true\/c b a=true)->(l.foldl (TR c) P).Pairwise λa b=>c a b=true:=by
  intro l
  induction l with
  | nil=>intro P h _;exact h
  | cons x r ih=>
   intro P h h2;rw[RF];refine ih _ ?_ ?_
   ·unfold TR;refine aaI tr _ x [] (by rw[List.reverse_reverse,FY];exact h) (λb hb=>by simp at hb) λa ha=>?_;exact((R1.1 h2).2.2 a (by simpa using ha) x (by simp)).symm
   ·have:(P++x::r).Perm (TR c P x++r):=List.perm_middle.trans ((ml c P x).symm.append_right r);exact this.pairwise h2 (λh=>h.symm)
 exact this l [] .nil (by simpa using hl)
def anN{X:Type}{c:X->X->Bool}(tr:∀ x y z,c x y=true->c y z=true->c x z=true)(ir:∀ x,c x x=false){l l':List X}(hp:l.Perm l')(hl:l.Pairwise λa b=>c a b=true\/c b a=true):P9 c l=P9 c l':=by refine List.Perm.eq_of_pairwise (λa b _ _ h1 h2=>?_) (aay tr l hl) (aay tr l' (hp.pairwise hl λh=>h.symm)) ((ZR c l).trans (hp.trans (ZR c l').symm));have:=tr a b a h1 h2;rw[ir]at this;cases this
def Gq(l:List Af):Env:=Cw [(KE,0,[0,1,2,3,8]),(KE,2,[0,1,2,3,8,9])] [(KE,5),(Jr,5),(aiZ,5),(ai6,0),(Pu,0)] [] l
abbrev Q1:=(Int × Int) × BZ
def j4(p:Q1):List AV:=[.int .i64 p.1.1,.int .i64 p.1.2,.tp (Cn p.2) 0]
def xC(p:Q1):A6 (Gq [Lo,TQ]) 9 Pu (j4 p) =
 bif decide (0<=p.fst.fst)&&decide (p.fst.fst<(↑p.snd.log.length:Int))then
  bif decide (0<=p.fst.snd)&&decide (p.fst.snd<(↑p.snd.log.length:Int))then
   gC (Dq) (V2) (Dp) ([AV.Al .f64 (p.snd.log.getD p.fst.fst.toNat default).Ag.re (p.snd.log.getD p.fst.fst.toNat default).Ag.im,AV.Al .f64 (p.snd.log.getD p.fst.snd.toNat default).Ag.re (p.snd.log.getD p.fst.snd.toNat default).Ag.im]) λy0=>
   bif AP y0.fst y0.snd then
    some (AV.int .i64 (-1))
   else
    gC (Dq) (V2) (Dp) ([AV.Al .f64 (p.snd.log.getD p.fst.snd.toNat default).Ag.re (p.snd.log.getD p.fst.snd.toNat default).Ag.im,AV.Al .f64 (p.snd.log.getD p.fst.fst.toNat default).Ag.re (p.snd.log.getD p.fst.fst.toNat default).Ag.im]) λy1=>
    bif AP y1.fst y1.snd then
     some (AV.int .i64 1)
    else
     gC (λa=>(AS a 0,AS a 1)) (λx=>True) (KA) ([AV.int .i64 p.fst.fst,AV.int .i64 p.fst.snd]) λy2=>
     some (AV.int .i64 (EF y2.fst y2.snd))
  else none
 else none:=by kernel_rfl
def axw(a:List AV):List AV:=match a.getD 2 .Ak with
 | .tp c _=>c
 | _=>[]
def dC1(a:List AV):Q1:=((AS a 0,AS a 1),KI (axw a))
def VT(t:BZ):Prop:=t.log.length<=100000 /\ ∀ e ∈ t.log,AU e.Ag
def cV(p:Q1):Prop:=VT p.2/\0<=p.1.1/\p.1.1<p.2.log.length/\0<=p.1.2/\p.1.2<p.2.log.length
def VA(t:BZ)(a b:Int):Int:=bif AP (t.log.getD a.toNat default).Ag (t.log.getD b.toNat default).Ag then -1 else bif AP (t.log.getD b.toNat default).Ag (t.log.getD a.toNat default).Ag then 1 else EF a b
def Lf:Af:=.spec Pu dC1 cV j4 λp=>.int .i64 (VA p.2 p.1.1 p.1.2)
def fS:AV:=.fn (.func Pu) [] [.ptr 1 0 0]
def hS(t:BZ):Heap:=[.arr true 3 [Cn t]]
def eI(i:Int):List AV:=[.int .i64 i]
def SS0(n:Nat)(F:Nat->Int)(t:BZ)(i:Int):St:={fr:=[(0,.sn 1 0 n),(1,.int .i64 0),(2,.int .i64 n),(3,fS),(8,.int .i64 i)],hp:=.seq true 1 n (λi=>eI (F i))::hS t}
def SS2(n:Nat)(F:Nat->Int)(t:BZ)(i j:Int):St:={fr:=[(0,.sn 1 0 n),(1,.int .i64 0),(2,.int .i64 n),(3,fS),(8,.int .i64 i),(9,.int .i64 j)],hp:=.seq true 1 n (λi=>eI (F i))::hS t}
def avi(N:Nat)(n:Nat)(F:Nat->Int)(t:BZ):CO 2 (Gq [Lf]) (N+1) KE [AV.sn 1 0 n,AV.int .i64 0,AV.int .i64 (↑n:Int),fS] ((BS.seq true 1 n λi=>eI (F i))::hS t) =
 LP (Gq [Lf]) (N) (2) (KE) (Cm (2) (2)) 0 [] (N) ({fr:=[(0,AV.sn 1 0 n),(1,AV.int .i64 0),(2,AV.int .i64 (↑n:Int)),(3,AV.fn (Fn.func Pu) [] [AV.ptr 1 0 0]),(8,AV.int .i64 1)],hp:=[BS.seq true 1 n λi=>[AV.int .i64 (F i)],BS.arr true 3 [Cn t]]}):=by kernel_rfl
def xJ(N:Nat)(m:Nat)(n:Nat)(F:Nat->Int)(t:BZ)(i:Int):LP (Gq [Lf]) N 2 KE (Cm 2 2) 0 [] (m+1) (SS0 n F t i) =
 bif decide (i<(↑n:Int))then
  LP (Gq [Lf]) (N) (2) (KE) (Cm 2 2) 2 ([m]) (N) ({fr:=[(0,AV.sn 1 0 n),(1,AV.int .i64 0),(2,AV.int .i64 (↑n:Int)),(3,AV.fn (Fn.func Pu) [] [AV.ptr 1 0 0]),(8,AV.int .i64 i),(9,AV.int .i64 i)],hp:=[BS.seq true 1 n λi=>[AV.int .i64 (F i)],BS.arr true 3 [Cn t]]})
 else
  some ((AV.Am [],[BS.seq true 1 n λi=>[AV.int .i64 (F i)],BS.arr true 3 [Cn t]])):=by kernel_rfl
def agv(N:Nat)(m:Nat)(M:Nat)(n:Nat)(F:Nat->Int)(t:BZ)(i:Int)(j:Int):LP (Gq [Lf]) N 2 KE (Cm 2 2) 2 [M] (m+1) (SS2 n F t i j) =
 bif decide (0<j)then
  bif decide (0<=j)&&decide (j<(↑n:Int))then
   bif j.toNat.blt n then
    bif decide (0<=Ao (j - 1))&&decide (Ao (j - 1)<(↑n:Int))then
     bif(Ao (j - 1)).toNat.blt n then
      gC (dC1) (cV) (j4) ([AV.int .i64 (F j.toNat),AV.int .i64 (F (Ao (j - 1)).toNat),AV.tp (Cn t) 0]) λy3=>
      bif decide (VA y3.snd y3.fst.fst y3.fst.snd<0)then
       bif decide (0<=Ao (j - 1))&&decide (Ao (j - 1)<(↑n:Int))then
        bif(Ao (j - 1)).toNat.blt n then
         bif decide (0<=j)&&decide (j<(↑n:Int))then
          bif j.toNat.blt n then
           bif decide (0<=j)&&decide (j<(↑n:Int))then
            bif j.toNat.blt n&&true then
             bif decide (0<=Ao (j - 1))&&decide (Ao (j - 1)<(↑n:Int))then
              bif(Ao (j - 1)).toNat.blt n&&Nat.ble 1 (bif(Ao (j - 1)).toNat.beq j.toNat then [AV.int .i64 (F (Ao (j - 1)).toNat)]else [AV.int .i64 (F (Ao (j - 1)).toNat)]).length then
               LP (Gq [Lf]) (N) (2) (KE) (Cm 2 2) 2 ([M]) (m) ({fr:=[(0,AV.sn 1 0 n),(1,AV.int .i64 0),(2,AV.int .i64 (↑n:Int)),(3,AV.fn (Fn.func Pu) [] [AV.ptr 1 0 0]),(8,AV.int .i64 i),(9,AV.int .i64 (Ao (j - 1)))],hp:=[BS.seq true 1 n λi'=>bif i'.beq (Ao (j - 1)).toNat then AV.int .i64 (F j.toNat)::List.drop 1 (bif(Ao (j - 1)).toNat.beq j.toNat then [AV.int .i64 (F (Ao (j - 1)).toNat)]else [AV.int .i64 (F (Ao (j - 1)).toNat)])else bif i'.beq j.toNat then [AV.int .i64 (F (Ao (j - 1)).toNat)]else [AV.int .i64 (F i')],BS.arr true 3 [Cn t]]})
              else none
             else none
            else none
           else none
          else none
         else none
        else none
       else none
      else
       LP (Gq [Lf]) (N) (2) (KE) (Cm 2 2) 0 [] (M) ({fr:=[(0,AV.sn 1 0 n),(1,AV.int .i64 0),(2,AV.int .i64 (↑n:Int)),(3,AV.fn (Fn.func Pu) [] [AV.ptr 1 0 0]),(8,AV.int .i64 (Ao (i+1)))],hp:=[BS.seq true 1 n λi=>[AV.int .i64 (F i)],BS.arr true 3 [Cn t]]})
     else none
    else none
   else none
  else none
 else
  LP (Gq [Lf]) (N) (2) (KE) (Cm 2 2) 0 [] (M) ({fr:=[(0,AV.sn 1 0 n),(1,AV.int .i64 0),(2,AV.int .i64 (↑n:Int)),(3,AV.fn (Fn.func Pu) [] [AV.ptr 1 0 0]),(8,AV.int .i64 (Ao (i+1)))],hp:=[BS.seq true 1 n λi=>[AV.int .i64 (F i)],BS.arr true 3 [Cn t]]}):=by kernel_rfl
def De{X:Type}{l:List X}{z:X}{i:Nat}(h:i<l.length):l.getD i z ∈ l:=by rw[List.getD,BR h];exact R5 h
def wy(p:Q1)(h:cV p):At PG Pu (j4 p) [] (.int .i64 (VA p.2 p.1.1 p.1.2)) []:=by refine Cx (ak Np (ak U1 AR)) ((xC p).trans ?_);obtain⟨⟨-,hv⟩,h1,h2,h3,h4⟩:=h;have va:=hv _ (De (z:=default) (show p.1.1.toNat<p.2.log.length by omega));have vb:=hv _ (De (z:=default) (show p.1.2.toNat<p.2.log.length by omega));rw[Ax h1,Ax h2,Ax h3,Ax h4,Ik va vb,Ik vb va,iE];unfold VA;dsimp only [Bool.and_true,cond_true];cases AP (p.2.log.getD p.1.1.toNat default).Ag (p.2.log.getD p.1.2.toNat default).Ag <;> cases AP (p.2.log.getD p.1.2.toNat default).Ag (p.2.log.getD p.1.1.toNat default).Ag <;> rfl
def nA:Lf.Ok PG:=Af.BJ wy
def qC1{R:Type}{a b:Int}{t:BZ}{k:Q1->Option R}(h:cV ((a,b),t)):gC dC1 cV j4 [.int .i64 a,.int .i64 b,.tp (Cn t) 0] k=k ((a,b),t):=Bj ((a,b),t) (Cv rfl (Rh t)) h (.refl _)
def qO(N m n:Nat)(F:Nat->Int)(t:BZ)(i:Int):Option (AV × Heap):=LP (Gq [Lf]) N 2 KE (Cm 2 2) 0 [] m (SS0 n F t i)
def qP(N m M n:Nat)(F:Nat->Int)(t:BZ)(i j:Int):Option (AV × Heap):=LP (Gq [Lf]) N 2 KE (Cm 2 2) 2 [M] m (SS2 n F t i j)
def j5(F:Nat->Int)(k:Nat):Nat->Int:=λi=>bif i.beq k then F (k+1)else bif i.beq (k+1)then F k else F i
def ap7(N m M n:Nat)(F:Nat->Int)(t:BZ)(i:Int){k:Nat}(hn:n<=100000)(hk:k+1<n)(h:cV ((F (k+1),F k),t)) :
  qP N (m+1) M n F t i ((k+1:Nat):Int)=bif decide (VA t (F (k+1)) (F k)<0)then qP N m M n (j5 F k) t i (k:Int)else qO N M n F t (Ao (i+1)):=by
 have e:=agv N m M n F t i ((k+1:Nat):Int);have hw:Ao (((k+1:Nat):Int) - 1)=(k:Int):=(wrap64 (by omega)).trans (by omega);rw[hw,BV,BV,Cd hk,Cd (show k<n by omega),Ax (show(0:Int)<((k+1:Nat):Int) by omega),Ax (show(0:Int)<=((k+1:Nat):Int) by omega),Ax (show((k+1:Nat):Int)<(n:Int) by omega),
  Ax (show(0:Int)<=(k:Int) by omega),Ax (show(k:Int)<(n:Int) by omega),AM.beq_false (show k ≠ k+1 by omega),qC1 h]at e
 refine e.trans ?_;have hF:(λi'=>bif Nat.beq i' k then [AV.int .i64 (F (k+1))]else bif Nat.beq i' (k+1)then [AV.int .i64 (F k)]else [AV.int .i64 (F i')])=λi'=>eI (j5 F k i'):=by funext i';unfold j5;cases Nat.beq i' k <;> cases Nat.beq i' (k+1) <;> rfl
 cases hc:decide (VA t (F (k+1)) (F k)<0)with
 | false=>rfl
 | true=>show LP (Gq [Lf]) N 2 KE (Cm 2 2) 2 [M] m {fr:=[(0,AV.sn 1 0 n),(1,AV.int .i64 0),(2,AV.int .i64 n),(3,fS),(8,AV.int .i64 i),(9,AV.int .i64 k)],hp:=[BS.seq true 1 n λi'=>bif Nat.beq i' k then [AV.int .i64 (F (k+1))]else bif Nat.beq i' (k+1)then [AV.int .i64 (F k)]else [AV.int .i64 (F i')],BS.arr true 3 [Cn t]]}=_;rw[hF];rfl
def ap8(N m M n:Nat)(F:Nat->Int)(t:BZ)(i:Int):qP N (m+1) M n F t i 0=qO N M n F t (Ao (i+1)):=(agv N m M n F t i 0).trans rfl
def YJ(t:BZ)(l:List Int):Prop:=∀ a ∈ l,0<=a/\a<t.log.length
def HK(t:BZ)(a b:Int):Bool:=decide (VA t a b<0)
def ap9(A B:List Int)(a x:Int):j5 (λi=>(A++a::x::B).getD i 0) A.length=λi=>(A++x::a::B).getD i 0:=by
 funext i;unfold j5;have g:∀ (u v:Int) (i:Nat),(A++u::v::B).getD i 0=if i<A.length then A.getD i 0 else if i=A.length then u else if i=A.length+1 then v else B.getD (i - A.length - 2) 0:=by
  intro u v i;simp only[List.getD];by_cases h:i<A.length
  ·rw[Ay h,DY h]
  ·rw[AE h,FC (by omega)];by_cases h1:i=A.length
   ·rw[Ay h1,h1,LN];rfl
   ·rw[AE h1];by_cases h2:i=A.length+1
    ·rw[Ay h2,h2,show A.length+1 - A.length=1 by omega];rfl
    ·rw[AE h2,show i - A.length=(i - A.length - 2)+2 by omega];rfl
 dsimp only;rw[g,g,g,g];by_cases h1:i=A.length
 ·rw[AM.beq_true h1];simp[h1];intro h;omega
 ·rw[AM.beq_false h1,Aj];by_cases h2:i=A.length+1
  ·rw[AM.beq_true h2];simp[h2];intro h;omega
  ·rw[AM.beq_false h2,Aj,AE h1,AE h2,AE h1,AE h2]
def aqa{t:BZ}(hv:VT t)(N M:Nat)(i:Int):∀ (A:List Int) (x:Int) (B:List Int) (m:Nat),A.length<m->A.length+B.length<100000->YJ t A->YJ t [x] ->
  qP N m M (A.length+1+B.length) (λi=>(A.reverse++x::B).getD i 0) t i (A.length:Nat)=qO N M (A.length+1+B.length) (λi=>(K0 (HK t) A x B).getD i 0) t (Ao (i+1)):=by
 intro A
 induction A with
 | nil=>
  intro x B m hm _ _ _;obtain⟨m,rfl⟩:∃ k,m=k+1:=⟨m - 1,by simp at hm;omega⟩
  exact ap8 N m M _ _ t i
 | cons a A ih=>
  intro x B m hm hn hA hx;obtain⟨m,rfl⟩:=B3 m (by omega);rw[CR]at hm hn ⊢;have ea:((a::A).reverse++x::B).getD A.length 0=a:=by simp only[List.getD];rw[List.reverse_cons,JE,FC (by simp),List.length_reverse,LN];rfl
  have ex:((a::A).reverse++x::B).getD (A.length+1) 0=x:=by simp only[List.getD];rw[FC (by simp),List.length_reverse,CR,LN];rfl
  have pa:=hA a (by simp);have px:=hx x (by simp);rw[ap7 N m M _ _ t i (k:=A.length) (by omega) (by omega) (by rw[ea,ex];exact⟨hv,px.1,px.2,pa.1,pa.2⟩),ea,ex];unfold K0;show(bif HK t x a then _ else _)=_;cases hc:HK t x a with
  | false=>rfl
  | true=>rw[Ae,Ae,List.reverse_cons,JE];have:=ap9 A.reverse B a x;rw[List.length_reverse]at this;rw[show [a]++x::B=a::x::B from rfl,this];have e:=ih x (a::B) m (by omega) (by rw[CR];omega) (λy hy=>hA y (by simp[hy])) hx;rw[CR,show A.length+1+(B.length+1)=A.length+1+1+B.length by omega]at e;exact e
def acI{X:Type}(c:X->X->Bool)(P:List X)(x:X):(TR c P x).length=P.length+1:=(ml c P x).length_eq
def aqb{t:BZ}(hv:VT t)(N:Nat):∀ (R P:List Int) (m:Nat),R.length<m->P.length+R.length<N->N<=100000->YJ t (P++R) ->
  qO N m (P.length+R.length) (λi=>(P++R).getD i 0) t (P.length:Nat)=some (.Am [],Bf 1 eI 0 (R.foldl (TR (HK t)) P)::hS t):=by
 intro R
 induction R with
 | nil=>
  intro P m hm _ _ _;obtain⟨m,rfl⟩:∃ k,m=k+1:=⟨m - 1,by simp at hm;omega⟩
  rw[FY];refine(xJ N m _ _ t _).trans ?_;rw[AN (by simp)];rfl
 | cons x R ih=>
  intro P m hm hn hN hP;obtain⟨m,rfl⟩:=B3 m (by omega);rw[CR]at hm hn ⊢;have e:=xJ N m (P.length+(R.length+1)) (λi=>(P++x::R).getD i 0) t (P.length:Nat);rw[Ax (by omega),Ae]at e;refine e.trans ?_;have e2:=aqa hv N m (P.length:Nat) P.reverse x R N (by simp;omega) (by simp;omega) (λa ha=>hP a (by simp at ha ⊢;exact Or.inl ha)) (λa ha=>hP a (by simp at ha ⊢;exact Or.inr (Or.inl ha)));rw[List.length_reverse,List.reverse_reverse,show P.length+1+R.length=P.length+(R.length+1) by omega,Cs (by omega),uG]at e2;refine e2.trans ?_;have e3:=ih (TR (HK t) P x) m (by omega) (by rw[acI];omega) hN (λa ha=>?_)
  ·rw[acI,show P.length+1+R.length=P.length+(R.length+1) by omega]at e3;exact e3
  ·rcases Cp.1 ha with ha | ha
   ·have:=(ml (HK t) P x).mem_iff.1 ha;rcases Dz.1 this with rfl | h
    ·exact hP _ (by simp)
    ·exact hP _ (by simp[h])
   ·exact hP _ (by simp[ha])
abbrev LT:=List Int × BZ
def Jm(p:LT):List AV × Heap:=([.sn 1 0 p.1.length,.int .i64 0,.int .i64 p.1.length,fS],Bf 1 eI 0 p.1::hS p.2)
def DD(p:LT):List AV × Heap:=([.sn 1 0 p.1.length,fS],Bf 1 eI 0 p.1::hS p.2)
def Jn(_:List AV)(h:Heap):LT:=(Kt (λc=>AS c 0) (Ab h 0),KI (af (Ab h 1)))
def asX(a:List AV)(p:LT):Jn a (Jm p).2=p:=Cv (S6 (sz:=1) (e:=eI) (z:=0) (d:=λc=>AS c 0) (λ_=>rfl) p.1) (Rh p.2)
def II(p:LT):Prop:=p.1.length<=12/\VT p.2/\YJ p.2 p.1
def GS(p:LT):AV × Heap:=(.Am [],Bf 1 eI 0 (P9 (HK p.2) p.1)::hS p.2)
def aqc(p:LT)(h:II p):At PG KE (Jm p).1 (Jm p).2 (GS p).1 (GS p).2/\(Jm p).2.length<=(GS p).2.length:=by
 obtain⟨h1,h2,h3⟩:=h;refine Ds (ak nA AR) (c:=2) (n:=100+1) (Ar 2) ((avi 100 p.1.length (λi=>p.1.getD i 0) p.2).trans ?_)
 match hp:p.1,h1,h3 with
 | [],_,_=>refine(xJ 100 99 0 _ p.2 1).trans ?_;rw[AN (by omega)];unfold GS;rw[hp];rfl
 | x::R,h1,h3=>have:=aqb h2 100 R [x] 100 (by simp at h1;omega) (by simp at h1 ⊢;omega) (by omega) h3;unfold GS;rw[hp];rw[FD,Nat.add_comm]at this;exact this
def LY:Af:=.EC KE Jn II Jm GS
def aqd:LY.Ok PG:=Af.EL aqc
section
set_option maxHeartbeats 4000000
def axx(F:Nat->Int)(t:BZ):CO 2 (Gq [LY]) 30 Jr [AV.sn 1 0 0,fS] ((BS.seq true 1 0 λi=>eI (F i))::hS t)=BA Jn II Jm [.sn 1 0 0,.int .i64 0,.int .i64 (0:Nat),fS] ((BS.seq true 1 0 λi=>eI (F i))::hS t) λy=>some (GS y):=by kernel_rfl
def axy(F:Nat->Int)(t:BZ):CO 2 (Gq [LY]) 30 Jr [AV.sn 1 0 1,fS] ((BS.seq true 1 1 λi=>eI (F i))::hS t)=BA Jn II Jm [.sn 1 0 1,.int .i64 0,.int .i64 (1:Nat),fS] ((BS.seq true 1 1 λi=>eI (F i))::hS t) λy=>some (GS y):=by kernel_rfl
def axz(F:Nat->Int)(t:BZ):CO 2 (Gq [LY]) 30 Jr [AV.sn 1 0 2,fS] ((BS.seq true 1 2 λi=>eI (F i))::hS t)=BA Jn II Jm [.sn 1 0 2,.int .i64 0,.int .i64 (2:Nat),fS] ((BS.seq true 1 2 λi=>eI (F i))::hS t) λy=>some (GS y):=by kernel_rfl
def axA(F:Nat->Int)(t:BZ):CO 2 (Gq [LY]) 30 Jr [AV.sn 1 0 3,fS] ((BS.seq true 1 3 λi=>eI (F i))::hS t)=BA Jn II Jm [.sn 1 0 3,.int .i64 0,.int .i64 (3:Nat),fS] ((BS.seq true 1 3 λi=>eI (F i))::hS t) λy=>some (GS y):=by kernel_rfl
def axB(F:Nat->Int)(t:BZ):CO 2 (Gq [LY]) 30 Jr [AV.sn 1 0 4,fS] ((BS.seq true 1 4 λi=>eI (F i))::hS t)=BA Jn II Jm [.sn 1 0 4,.int .i64 0,.int .i64 (4:Nat),fS] ((BS.seq true 1 4 λi=>eI (F i))::hS t) λy=>some (GS y):=by kernel_rfl
def axC(F:Nat->Int)(t:BZ):CO 2 (Gq [LY]) 30 Jr [AV.sn 1 0 5,fS] ((BS.seq true 1 5 λi=>eI (F i))::hS t)=BA Jn II Jm [.sn 1 0 5,.int .i64 0,.int .i64 (5:Nat),fS] ((BS.seq true 1 5 λi=>eI (F i))::hS t) λy=>some (GS y):=by kernel_rfl
def axD(F:Nat->Int)(t:BZ):CO 2 (Gq [LY]) 30 Jr [AV.sn 1 0 6,fS] ((BS.seq true 1 6 λi=>eI (F i))::hS t)=BA Jn II Jm [.sn 1 0 6,.int .i64 0,.int .i64 (6:Nat),fS] ((BS.seq true 1 6 λi=>eI (F i))::hS t) λy=>some (GS y):=by kernel_rfl
def axE(F:Nat->Int)(t:BZ):CO 2 (Gq [LY]) 30 Jr [AV.sn 1 0 7,fS] ((BS.seq true 1 7 λi=>eI (F i))::hS t)=BA Jn II Jm [.sn 1 0 7,.int .i64 0,.int .i64 (7:Nat),fS] ((BS.seq true 1 7 λi=>eI (F i))::hS t) λy=>some (GS y):=by kernel_rfl
def axF(F:Nat->Int)(t:BZ):CO 2 (Gq [LY]) 30 Jr [AV.sn 1 0 8,fS] ((BS.seq true 1 8 λi=>eI (F i))::hS t)=BA Jn II Jm [.sn 1 0 8,.int .i64 0,.int .i64 (8:Nat),fS] ((BS.seq true 1 8 λi=>eI (F i))::hS t) λy=>some (GS y):=by kernel_rfl
def axG(F:Nat->Int)(t:BZ):CO 2 (Gq [LY]) 30 Jr [AV.sn 1 0 9,fS] ((BS.seq true 1 9 λi=>eI (F i))::hS t)=BA Jn II Jm [.sn 1 0 9,.int .i64 0,.int .i64 (9:Nat),fS] ((BS.seq true 1 9 λi=>eI (F i))::hS t) λy=>some (GS y):=by kernel_rfl
def avj(F:Nat->Int)(t:BZ):CO 2 (Gq [LY]) 30 Jr [AV.sn 1 0 10,fS] ((BS.seq true 1 10 λi=>eI (F i))::hS t)=BA Jn II Jm [.sn 1 0 10,.int .i64 0,.int .i64 (10:Nat),fS] ((BS.seq true 1 10 λi=>eI (F i))::hS t) λy=>some (GS y):=by kernel_rfl
def avk(F:Nat->Int)(t:BZ):CO 2 (Gq [LY]) 30 Jr [AV.sn 1 0 11,fS] ((BS.seq true 1 11 λi=>eI (F i))::hS t)=BA Jn II Jm [.sn 1 0 11,.int .i64 0,.int .i64 (11:Nat),fS] ((BS.seq true 1 11 λi=>eI (F i))::hS t) λy=>some (GS y):=by kernel_rfl
def avl(F:Nat->Int)(t:BZ):CO 2 (Gq [LY]) 30 Jr [AV.sn 1 0 12,fS] ((BS.seq true 1 12 λi=>eI (F i))::hS t)=BA Jn II Jm [.sn 1 0 12,.int .i64 0,.int .i64 (12:Nat),fS] ((BS.seq true 1 12 λi=>eI (F i))::hS t) λy=>some (GS y):=by kernel_rfl
def asY:∀ n,n<=12 -> ∀ (F:Nat->Int) (t:BZ),CO 2 (Gq [LY]) 30 Jr [AV.sn 1 0 n,fS] ((BS.seq true 1 n λi=>eI (F i))::hS t)=BA Jn II Jm [.sn 1 0 n,.int .i64 0,.int .i64 n,fS] ((BS.seq true 1 n λi=>eI (F i))::hS t) λy=>some (GS y)
 | 0,_=>axx
 | 1,_=>axy
 | 2,_=>axz
 | 3,_=>axA
 | 4,_=>axB
 | 5,_=>axC
 | 6,_=>axD
 | 7,_=>axE
 | 8,_=>axF
 | 9,_=>axG
 | 10,_=>avj
 | 11,_=>avk
 | 12,_=>avl
 | n+13,h=>absurd h (by omega)
def anO(p:LT)(h:II p):At PG Jr (DD p).1 (DD p).2 (GS p).1 (GS p).2/\(DD p).2.length<=(GS p).2.length:=by refine Ds (ak aqd AR) (c:=2) (n:=30) (Ar 2) ((asY p.1.length h.1 (λi=>p.1.getD i 0) p.2).trans ?_);exact Dw p (asX _ p) h (.refl _) (.refl _)
def agw:Af:=.EC Jr Jn II DD GS
def anP:agw.Ok PG:=Af.EL anO
end
end Go.Hd
end
section
namespace Go.AM
section
variable {R:Type}
structure aie(R K:Type) where
 f:List K->(K->Option R)->Option R
 sm:∀ {l:List K} {g:K->Option R} {r:R},f l g=some r -> ∀ k ∈ l,g k=some r
 ev:∀ {l:List K} {g:K->Option R} {r:R},l ≠ []->(∀ k ∈ l,g k=some r)->f l g=some r
open Classical in
def wL(R K:Type):∃ f:List K->(K->Option R)->Option R,(∀ {l:List K} {g:K->Option R} {r:R},f l g=some r -> ∀ k ∈ l,g k=some r)/\(∀ {l:List K} {g:K->Option R} {r:R},l ≠ []->(∀ k ∈ l,g k=some r)->f l g=some r):=by
 refine⟨λl g=>if h:∃ r,∀ k ∈ l,g k=some r then some (Classical.choose h)else none,λ{l g r} h=>?_,λ{l g r} hl h=>?_⟩
 ·dsimp only at h;split at h
  ·rename_i hh;intro k hk;rw[ax hh k hk];exact h
  ·cases h
 ·have hh:∃ r,∀ k ∈ l,g k=some r:=⟨r,h⟩
  show(if h:∃ r,∀ k ∈ l,g k=some r then some (Classical.choose h)else none)=some r;rw[dif_pos hh];obtain⟨k,hk⟩:=List.exists_mem_of_ne_nil l hl;rw[<- ax hh k hk,h k hk]
instance (R K:Type):Inhabited (aie R K):=⟨⟨Classical.choose (wL R K),(ax (wL R K)).1,(ax (wL R K)).2⟩⟩
def yS(R K:Type):aie R K:=Classical.choice ⟨default⟩
def qQ{K:Type}(l:List K)(f:K->Option R):Option R:=(yS R K).f l f
def anQ{K:Type}{l:List K}{f:K->Option R}{r:R}(h:qQ l f=some r):∀ k ∈ l,f k=some r:=(yS R K).sm h
def asZ{K:Type}{l:List K}{f:K->Option R}{r:R}(hl:l ≠ [])(h:∀ k ∈ l,f k=some r):qQ l f=some r:=(yS R K).ev hl h
def Iz(s:List UInt8)(l:List (List UInt8)):List (List UInt8):=l.filter λx=>!A5 x s
def yT(env:Env)(run:Gh R)(nt:Nat)(ops:Array Oper)(draw:Bool)(s:St)(k:St->Option R):Option R:=
 match draw with
 | true=>KY env run nt ops true ops.toList 0 [] s k
 | false=>match ops.toList with
  | []=>KY env run nt ops false [] 0 [] s k
  | o::rest=>match o.op with
   | .next x false=>bif PU nt o.dst then np ops o s.fr λg fr=>match g with
     | true=>match KK (Bb fr) x with
      | .ptr b 0 0=>match Ab s.hp b with
       | .Fz true ks val rem _=>bif rem.isEmpty then KY env run nt ops false rest 1 [] {fr:=KX fr o.dst (.Am [.bool false]),hp:=s.hp} k
         else qQ rem λy=>KY env run nt ops false rest 1 [] {fr:=KX fr o.dst (.Am [.bool true,.str y,val y]),hp:=Fm s.hp b (.Fz true ks val (Iz y rem) (some y))} k
       | _=>none
      | _=>none
     | false=>none
    else none
   | _=>KY env run nt ops false (o::rest) 0 [] s k
def HL(env:Env)(run:Gh R)(fn nt n base:Nat):(cur:Nat)->Code->OD R
 | _,.skip,k,s=>k .normal s
 | _,.region id ops draw,k,s=>bj (env.zU fn id) s λs=>yT env run nt ops draw s λs'=>k .normal s'
 | cur,.seq a b,k,s=>HL env run fn nt n base cur a (λe s'=>match e with
  | .normal=>HL env run fn nt n base cur b k s'
  | e=>k e s') s
 | cur,.cond c a b,k,s=>match KK (Bb s.fr) c with
  | .bool c=>bif c then HL env run fn nt n base cur a k s else HL env run fn nt n base cur b k s
  | _=>.none
 | _,.block id a,k,s=>HL env run fn nt n base id a (λe s'=>match e with
  | .exit Jf=>bif Nat.beq Jf id then k .normal s' else k (.exit Jf) s'
  | e=>k e s') s
 | cur,.loop a,k,s=>PV (norm base (env.live fn cur)) (HL env run fn nt n base cur a) n k (norm base (env.live fn cur) s)
 | _,.exit id,k,s=>k (.exit id) s
 | _,.ret,k,s=>k .ret s
 | _,_,_,_=>.none
section
variable {P:Program} {env:Env} {run:Gh R} {r:R} {nt n base fn:Nat}
def gL(nt base:Nat)(k:AX->St->Option R)(r:R)(s:St)(w:World)(I:Nat->Prop)(φ:Ac)(a:Act)(Q:Exit->Act->World->Prop):Prop:=
 ∀ (e:AX) (s':St) (a':Act) (w':World) (φ':Ac) (I':Nat->Prop),k e s'=some r->base<=s'.hp.length->nt<=a'.tmps.size->a'.defers=a.defers->BC w' I' φ' s' a'->Step base (Ab s.hp) φ I w (Ab s'.hp) φ' I' w'->Q e.x a' w'
def gL.after{k:AX->St->Option R}{s s1:St}{w w1:World}{I I1:Nat->Prop}{φ Dd:Ac}{a a1:Act}{Q:Exit->Act->World->Prop}(h:gL nt base k r s w I φ a Q)(hd:a1.defers=a.defers)
  (hs:Step base (Ab s.hp) φ I w (Ab s1.hp) Dd I1 w1):gL nt base k r s1 w1 I1 Dd a1 Q:=
 λe s' a' w' φ' I' h0 hb h1 h2 h3 h4=>h e s' a' w' φ' I' h0 hb h1 (h2.trans hd) h3 (hs.trans h4)
def aqe(Bh:DH P env)(hrun:EN P run)(hm:P.follows .mixedOrders=true){id:Nat}{ops:Array Oper}{draw:Bool}{s:St}{k:St->Option R}(A8:AD (.region id ops draw)=true)
  (h:yT env run nt ops draw s k=some r):∀ (w:World) (I:Nat->Prop) (φ:Ac) (a:Act),BC w I φ s a->nt<=a.tmps.size -> ∀ Q:Exit->Act->World->Prop,
   (∀ s' a' w' φ' I',k s'=some r->s.hp.length<=s'.hp.length->nt<=a'.tmps.size->a'.defers=a.defers->BC w' I' φ' s' a'->(∀ base,base<=s.hp.length->Step base (Ab s.hp) φ I w (Ab s'.hp) φ' I' w')->Q .normal a' w') ->
    (Code.region id ops draw).wp P Q a w:=by
 have plain:KY env run nt ops draw ops.toList 0 [] s k=some r -> ∀ (w:World) (I:Nat->Prop) (φ:Ac) (a:Act),BC w I φ s a->nt<=a.tmps.size -> ∀ Q:Exit->Act->World->Prop,
   (∀ s' a' w' φ' I',k s'=some r->s.hp.length<=s'.hp.length->nt<=a'.tmps.size->a'.defers=a.defers->BC w' I' φ' s' a'->(∀ base,base<=s.hp.length->Step base (Ab s.hp) φ I w (Ab s'.hp) φ' I' w')->Q .normal a' w') ->
    (Code.region id ops draw).wp P Q a w:=λh w I φ a hs ha Q hQ=>
  let ⟨s',h1,h2,h3⟩:=abj Bh hrun hm (id:=id) A8 h
  h3 w I φ a hs ha Q λa' w' φ' I' c1 c2 c3 c4=>hQ s' a' w' φ' I' h1 h2 c1 c2 c3 c4
 cases draw with
 | true=>exact plain h
 | false=>
  unfold yT at h;simp only at h;cases hl:ops.toList with
  | nil=>rw[hl]at h;exact plain (by rw[hl];exact h)
  | cons o rest=>
   rw[hl]at h;simp only at h;split at h
   ·rename_i x ho;intro w I φ a hs ha Q hQ;obtain⟨hd,h⟩:=BG h;obtain⟨g,Jk,h,hg,Ij⟩:=tu h;cases g with
    | false=>cases h
    | true=>
     simp only at h;split at h
     ·rename_i b CL;split at h
      ·rename_i ks val rem cur hb;have Dm:AZ (Ab s.hp b)=true:=by rw[hb];rfl
       obtain⟨B,oo,sz,e1,hrb⟩:=hs.hh.TH (b:=b) (by rw[hb];exact λh=>h) (by rw[hb];rfl);have azy:=hrb;rw[hb]at hrb;obtain⟨rfl,rfl,mm,since,seen,mes,clock,e3,e4,e5,Ez,⟨hsc,hold⟩,yU,GP,ahF⟩:=hrb;have Vu:Fp w I φ (Bb Jk) a:=by rw[Ij];exact hs.fr
       have hp:=Vu.eval x;rw[CL]at hp;generalize Ec:a.eval x=u at hp;cases hp with
       | ptr _ B' o' sz' _ _ q AI hq=>
        rw[e1]at AI;cases AI;simp at hq;subst hq;refine wp_region_list ?_;rw[hl];unfold wpList;rw[Ay (mz hs.fr hg)];refine .inl ?_;unfold Oper.wp;have hex:∀ ww:World,(execOp a.eval o).run P ww=((Instr.next (.pointer (some ⟨B,0,none⟩)) false o.type).run P ww).andThen λv ww=>.ok (.value v) ww:=by intro ww;simp[execOp,ho,Ec]
        rw[hex];have axH:∀ y ∈ ks,∃ (i:Nat) (e:MapEntry),ks[i]? = some y/\mes[i]? = some e:=by
         intro y hy;obtain⟨i,hi,rfl⟩:=List.mem_iff_getElem.1 hy;have:i<mes.size:=by rw[Ez.1];exact hi
         exact⟨i,mes[i],BR hi,Cy this⟩
        have fin:∀ {w1:World} {I1:Nat->Prop} {Dd:Ac} {s1:St},BC w1 I1 Dd s1 a->True -> ∀ {v:AV} {u:Value} {hp':Heap} {BO:Ac} {I2:Nat->Prop} {w2:World},
          KY env run nt ops false rest 1 [] {fr:=KX Jk o.dst v,hp:=hp'} k=some r->RV w2 I2 BO v u->Fp w2 I2 BO (Bb Jk) a->RH w2 I2 BO (Ab hp')->s.hp.length<=hp'.length ->
          (∀ base,base<=s.hp.length->Step base (Ab s.hp) φ I w (Ab hp') BO I2 w2)->wpList P ops Q rest (a.put o.dst u) w2:=by
         intro w1 I1 Dd s1 _ _ v u hp' BO I2 w2 hk hv hf hh hle hst;obtain⟨s',g1,g2,g3⟩:=abg Bh hrun rest 1 [] _ k hk;refine g3 w2 I2 BO (a.put o.dst u) ⟨hh,hf.put hv (my hd ha)⟩ (by simpa using ha) Q λa' Qz Vs VZ c1 c2 c3 c4=>hQ s' a' Qz Vs VZ g1 (CI hle g2) c1 (by simpa using c2) c3 λbase hb=>?_;exact(hst base hb).trans (c4 base (CI hb hle))
        rcases run_next_at (P:=P) w o.type B mm since clock seen mes clock e3 e5 (λx hx=>by obtain⟨i,hi,rfl⟩:=List.mem_iff_getElem.1 hx;exact hold i _ (by simp at hi;simp[hi])) hsc with ⟨h0,hr⟩ | ⟨e,he,w1,hw1,hr⟩
        ·
         have avm:rem=[]:=by
          cases hrm:rem with
          | nil=>rfl
          | cons y l=>
           exfalso;have hy:y ∈ rem:=by rw[hrm];simp
           obtain⟨i,e,k1,k2⟩:=axH y (GP y hy);have hns:e.born ∉ seen:=λhc=>(yU i y e k1 k2).1 hc hy;have hem:e ∈ mes:=Array.mem_of_getElem? k2;have:e ∈ leftOf mes seen:=by unfold leftOf;rw[Array.mem_filter];exact⟨hem,by simpa using hns⟩
           rw[TC h0]at this;simp at this
         rw[avm]at h;simp only[List.isEmpty_nil,Ae]at h;rw[hr];exact fin hs trivial h (.Am _ _ rfl λi c u e e'=>(by
          cases i with
          | zero=>simp at e e';subst e;subst e';exact .bool _
          | succ i=>simp at e)) Vu hs.hh (Ar _) λbase _=>Step.refl _ _ _ _ _
        ·
         unfold leftOf at he;rw[Array.mem_toList_iff,Array.mem_filter]at he;obtain⟨hem,hns⟩:=he;have hns:e.born ∉ seen:=by simpa using hns
         obtain⟨i,hi,rfl⟩:=Array.mem_iff_getElem.1 hem;have k2:mes[i]? = some mes[i]:=Cy hi;have hik:i<ks.length:=by rw[<- Ez.1];exact hi
         obtain⟨y,hy⟩:∃ y,ks[i]? = some y:=⟨_,BR hik⟩
         have hyr:y ∈ rem:=Classical.byContradiction λhc=>hns ((yU i y _ hy k2).2 hc);have hne:rem.isEmpty=false:=by cases rem with
          | nil=>simp at hyr
          | cons=>rfl
         rw[hne,Aj]at h;have h:=anQ h y hyr;have hw:RH w1 I φ (Ab s.hp)/\(∀ base,Step base (Ab s.hp) φ I w (Ab s.hp) φ I w1)/\w1.heap=w.heap:=by
          rcases hw1 with rfl | rfl
          ·exact⟨hs.hh,λ_=>Step.refl _ _ _ _ _,rfl⟩
          ·exact⟨(hs.hh.drew (base:=0)).1,λbase=>(hs.hh.drew (base:=base)).2,rfl⟩
         obtain⟨MI,axI,FU⟩:=hw;have qR:w1.heap[B]? = some (.mapIter (some mm) since seen clock):=by rw[FU];exact e3
         have e5':w1.heap[mm]? = some (.map mes clock):=by rw[FU];exact e5
         have aif:=MI.at e1 (by rw[hb];rfl);rw[hb]at aif;obtain⟨_,_,mm',azl,azq,mes',clock',f3,f4,f5,axJ,_⟩:=aif;rw[qR]at f3;cases f3;rw[e5']at f5;cases f5;have hmB:mm ≠ B:=by rintro rfl;rw[e3]at e5;cases e5
         have cp:∀ B',I B'->I B'/\(World.BI w1 B (.mapIter (some mm) since (seen.push mes[i].born) clock)).heap[B']? = w1.heap[B']? := λB' hB=>⟨hB,GL λe=>hs.hh.CP b B 0 0 Dm e1 (e ▸ hB)⟩
         have hcs:∀ B',Bv w1 B'<=Bv (World.BI w1 B (.mapIter (some mm) since (seen.push mes[i].born) clock)) B':=by
          intro B';by_cases Di:B'=B
          ·subst Di;unfold Bv;rw[qR];exact Bu _
          ·unfold Bv;rw[GL Di];exact Ar _
         have aih:=axJ.mono cp hcs;have hW:=λbase=>MI.abb e1 Dm qR (.mapIter (some mm) since (seen.push mes[i].born) clock) (λ_ _ _ h=>by cases h) (.Fz true ks val (Iz y rem) (some y)) rfl
          ⟨rfl,rfl,mm,since,seen.push mes[i].born,mes,clock,FR (CQ qR),e4,(GL hmB).trans e5',aih,⟨hsc,hold⟩,λj z e' a1 a2=>(by
           unfold Iz;rw[Array.mem_push,Gz,yU j z e' a1 a2];by_cases hz:z=y
           ·subst hz;have DC:=Ez.2.2.2.2 j i z a1 hy;subst DC;rw[k2]at a2;cases a2;simp[DV]
           ·have hnb:e'.born ≠ mes[i].born:=by
             intro hc;rcases Qg j i with hlt | heq | V3
             ·have:=Ez.2.2.2.1 j i _ _ hlt a2 k2;omega
             ·subst heq;rw[hy]at a1;exact hz (Option.some.inj a1).symm
             ·have:=Ez.2.2.2.1 i j _ _ V3 k2 a2;omega
            have hst:A5 z y=false:=by rw[DV];simpa using hz
            simp[hst,hnb]),λz hz=>GP z (Gz.1 hz).1,λz hz=>⟨i,mes[i],seen,(by cases hz;exact hy),k2,rfl⟩⟩ base
         have hgp:Ab (Fm s.hp b (.Fz true ks val (Iz y rem) (some y)))=BU (Ab s.hp) b (.Fz true ks val (Iz y rem) (some y)):=funext λb'=>ZS _ _ _ _;rw[hr];obtain⟨⟨t,t1,t2⟩,g2⟩:=aih.2.1 i y _ hy k2;have hst:=λbase=>(axI base).trans (hW base).2;refine fin (hp':=Fm s.hp b (.Fz true ks val (Iz y rem) (some y))) (BO:=φ) (I2:=I) hs trivial h (.Am _ _ rfl λi' c u ec eu=>?_) ?_ ?_ (Xb _ _ _) λbase _=>?_
         ·match i',ec,eu with
          | 0,ec,eu=>simp at ec eu;subst ec;subst eu;exact .bool _
          | 1,ec,eu=>simp at ec eu;subst ec;subst eu;rw[t1,t2];exact .str _ _ rfl
          | 2,ec,eu=>simp at ec eu;subst ec;subst eu;exact g2.mono (λB hB=>⟨hB,rfl⟩) (λ_=>Ar _) (Ac.IZ φ)
          | i'+3,ec,eu=>simp at ec
         ·exact Vu.step hs.hh (hst 0) (Ac.le_refl _)
         ·rw[hgp];exact(hW 0).1
         ·rw[hgp];exact hst base
      ·cases h
     ·cases h
   ·exact plain (by rw[hl];exact h)
def as0(Bh:DH P env)(hrun:EN P run)(hm:P.follows .mixedOrders=true):∀ (c:Code) (cur:Nat) (k:AX->St->Option R) (s:St) (r:R),AD c=true ->
  HL env run fn nt n base cur c k s=some r->base<=s.hp.length -> ∀ (w:World) (I:Nat->Prop) (φ:Ac) (a:Act),BC w I φ s a->nt<=a.tmps.size -> ∀ Q,gL nt base k r s w I φ a Q->c.wp P Q a w:=by
 intro c
 induction c with
 | skip=>intro cur k s r _ h hb w I φ a hs ha Q hQ;exact wp_skip (hQ .normal s a w φ I h hb ha rfl hs (Step.refl _ _ _ _ _))
 | region id ops draw=>intro cur k s r A8 h hb w I φ a hs ha Q hQ;unfold HL at h;obtain⟨s0,g1,g2,g3⟩:=mX _ _ _ h;obtain⟨I1,Dd,n1,n2⟩:=g3 w I φ a hs;exact aqe Bh hrun hm (id:=id) A8 g1 w I1 Dd a n1 ha Q λs' a' w' φ' I' c0 c00 c1 c2 c3 c4=>(hQ.after rfl (n2 base hb)) .normal s' a' w' φ' I' c0 (CI hb (CI g2 c00)) c1 c2 c3 (c4 base (CI hb g2))
 | seq x y Ys Yt=>
  intro cur k s r A8 h hb w I φ a hs ha Q hQ;obtain⟨X6,TN⟩:=A4 (show(AD x&&AD y)=true from A8);unfold HL at h;refine wp_seq (Ys _ _ _ _ X6 h hb w I φ a hs ha _ λe s1 a' w' φ' I' h1 b1 c1 c2 c3 c4=>?_);cases e with
  | normal=>exact Yt _ _ _ _ TN h1 b1 w' I' φ' a' c3 c1 Q (hQ.after c2 c4)
  | exit id=>exact hQ _ s1 a' w' φ' I' h1 b1 c1 c2 c3 c4
  | goto l=>exact hQ _ s1 a' w' φ' I' h1 b1 c1 c2 c3 c4
  | ret=>exact hQ _ s1 a' w' φ' I' h1 b1 c1 c2 c3 c4
 | cond c x y Ys Yt=>
  intro cur k s r A8 h hb w I φ a hs ha Q hQ;obtain⟨X6,TN⟩:=A4 (show(AD x&&AD y)=true from A8);unfold HL at h;split at h
  ·rename_i b Di;have MP:a.eval c=.bool b:=by
    have:=hs.fr.eval c;rw[Di]at this;generalize a.eval c=u at this;cases this;rfl
   cases b with
   | true=>exact wp_cond MP (Ys _ _ _ _ X6 h hb w I φ a hs ha Q hQ)
   | false=>exact wp_cond MP (Yt _ _ _ _ TN h hb w I φ a hs ha Q hQ)
  ·cases h
 | block id x ih=>
  intro cur k s r A8 h hb w I φ a hs ha Q hQ;unfold HL at h;refine Nz (ih _ _ _ _ A8 h hb w I φ a hs ha _ λe s1 a' w' φ' I' h1 b1 c1 c2 c3 c4=>?_);cases e with
  | exit Jf=>
   simp only at h1;cases N1:Nat.beq Jf id with
   | true=>rw[N1,Ae]at h1;have N1:=BN N1;subst N1;simp only[AX.x,Exit.inBlock,IW];exact hQ .normal s1 a' w' φ' I' h1 b1 c1 c2 c3 c4
   | false=>
    rw[N1,Aj]at h1;have hne:Jf ≠ id:=λe=>by subst e;simp at N1
    simp only[AX.x,Exit.inBlock,AE hne];exact hQ (.exit Jf) s1 a' w' φ' I' h1 b1 c1 c2 c3 c4
  | normal=>exact hQ _ s1 a' w' φ' I' h1 b1 c1 c2 c3 c4
  | goto l=>exact hQ _ s1 a' w' φ' I' h1 b1 c1 c2 c3 c4
  | ret=>exact hQ _ s1 a' w' φ' I' h1 b1 c1 c2 c3 c4
 | loop x ih=>
  intro cur k s r A8 h hb w I φ a hs ha Q hQ;unfold HL at h;have key:∀ m k s r,PV (norm base (env.live fn cur)) (HL env run fn nt n base cur x) m k s=some r->base<=s.hp.length -> ∀ (w:World) (I:Nat->Prop) (φ:Ac) (a:Act),BC w I φ s a->nt<=a.tmps.size -> ∀ Q,gL nt base k r s w I φ a Q->Ud P x Q a w:=by
   intro m
   induction m with
   | zero=>intro k s r h;cases h
   | succ m ihm=>
    intro k s r h hb w I φ a hs ha Q hQ;unfold PV at h;refine ZY (ih _ _ _ _ A8 h hb w I φ a hs ha _ λe s1 a' w' φ' I' h1 b1 c1 c2 c3 c4=>?_);cases e with
    | normal=>obtain⟨n1,Dd,n2,n3⟩:=Rp base (env.live fn cur) c3 b1;exact ihm _ _ _ h1 n1 w' I' Dd a' n2 c1 Q (hQ.after c2 (c4.trans n3))
    | exit id=>exact hQ _ s1 a' w' φ' I' h1 b1 c1 c2 c3 c4
    | goto l=>exact hQ _ s1 a' w' φ' I' h1 b1 c1 c2 c3 c4
    | ret=>exact hQ _ s1 a' w' φ' I' h1 b1 c1 c2 c3 c4
  obtain⟨n1,Dd,n2,n3⟩:=Rp base (env.live fn cur) hs hb;exact mA (key n k _ r h n1 w I Dd a n2 ha Q (hQ.after rfl n3))
 | exit id=>intro cur k s r _ h hb w I φ a hs ha Q hQ;exact wp_exit (hQ (.exit id) s a w φ I h hb ha rfl hs (Step.refl _ _ _ _ _))
 | ret=>intro cur k s r _ h hb w I φ a hs ha Q hQ;exact wp_ret (hQ .ret s a w φ I h hb ha rfl hs (Step.refl _ _ _ _ _))
 | label l=>intro cur k s r _ h;simp[HL]at h
 | goto l=>intro cur k s r _ h;simp[HL]at h
 | scope x ih=>intro cur k s r _ h;simp[HL]at h
 | rangeFunc f p a b=>intro cur k s r _ h;simp[HL]at h
 | refuse why=>intro cur k s r _ h;simp[HL]at h
end
def akm{φ φ':Ac}{I I':Nat->Prop}{w w':World}{res r:AV}{hp':Heap}{u:Value}(h:By res hp'=some r)(h1:RV w' I' φ' res u)(h2:RH w' I' φ' (Ab hp'))(h3:Step 0 (Ab []) φ I w (Ab hp') φ' I' w') :
  ∃ BO I2,RV w' I2 BO r u/\RH w' I2 BO (Ab [])/\Step 0 (Ab []) φ I w (Ab []) BO I2 w':=by
 unfold By at h;split at h
 ·rename_i r1 l1 g1 QI;obtain⟨hg,h⟩:=BG h;subst hg;cases h;replace QI:=UK.2 QI;obtain⟨s1,s2⟩:=(vg h2 depth).1 _ _ _ QI;have hr:=s2 (λB=>I' B\/Ft φ' l1 B) (λB hB=>.inl hB) (λB hB=>.inr hB) u h1;refine⟨Ac.no,λB=>I' B\/Ft φ' l1 B,hr,RH.empty w' _ λB hB=>hB.elim (h2.lt B) (Xr h2 s1),λb p hb=>absurd hb (C5 b),λB hB=>.inl (h3.F8 B hB),?_,λB hB=>(Fw hB).elim,h3.ext,λB hB hy=>h3.ok B (by
   rcases hB with (x | ⟨b,hb,o,sz,e⟩) | x
   ·exact .inl x
   ·cases hm:AZ (Ab hp' b)with
    | true=>exact .inr ⟨b,o,sz,hm,e⟩
    | false=>exact .inl (h2.Ea b B o sz (s1 b hb) hm e)
   ·exact(Fw x).elim) hy⟩
  rintro B (hB | ⟨b,hb,o,sz,e⟩)
  ·exact h3.F3 B hB
  ·cases hm:AZ (Ab hp' b)with
   | true=>exact .inr ((h3.mt B ⟨b,o,sz,hm,e⟩).imp id id)
   | false=>exact h3.F3 B (h2.Ea b B o sz (s1 b hb) hm e)
 ·cases h
def aii(env:Env)(fn:Func)(e:AX)(s:St):Option AV:=match e with
 | .normal | .ret=>Ip env.tt s fn.results.toList λvs=>By (Ge vs) s.hp
 | _=>.none
def axK(env:Env)(f:Nat)(e:AX)(s:St):Option AV:=match env.code f with
 | some fn=>aii env fn e s
 | .none=>.none
def oe(env:Env)(n f:Nat)(args:List AV):Option AV:=match env.code f with
 | some fn=>match fn.body with
  | some c=>HL env (Dl env n) f fn.ntmps n 0 0 c (aii env fn) {fr:=Ej 0 args,hp:=[]}
  | .none=>.none
 | .none=>.none
def anR{P:Program}{env:Env}(Bh:DH P env)(D6:It P env)(hm:P.follows .mixedOrders=true){n f:Nat}{args:List AV}{r:AV}
  (h:oe env n f args=some r):At P f args [] r []:=by
 unfold oe at h;cases hf:env.code f with
 | none=>rw[hf]at h;cases h
 | some fn=>
  rw[hf]at h;simp only at h;obtain⟨hfn,hbody,hname,A8⟩:=D6 f fn hf;cases hb:fn.body with
  | none=>rw[hb]at h;cases h
  | some c=>
   rw[hb]at h;simp only at h;intro w I φ ra hh hx;refine .inl ⟨?_,calls_of_wp hfn hb ?_⟩
   ·simp only[callFunc,Ce,run_program,Co,hfn,hname,hbody,I8,Hg,CS]
   ·have hst:BC w I φ {fr:=Ej 0 args,hp:=[]} {tmps:=ra++Array.replicate (fn.ntmps - ra.size) undef,defers:=[]}:=⟨hh,mD hx _⟩
    refine as0 Bh (Iw Bh D6 hm n) hm c 0 _ _ _ (A8 c hb) h (Ar _) w I φ _ hst (by simp;omega) _ λe s' a' w' φ' I' h1 b1 c1 c2 c3 c4=>?_;have key:(e=.normal\/e=.ret)/\Ip env.tt s' fn.results.toList (λvs=>By (Ge vs) s'.hp)=some r:=by
     cases e with
     | normal=>exact⟨.inl rfl,h1⟩
     | ret=>exact⟨.inr rfl,h1⟩
     | exit id=>cases h1
     | goto l=>cases h1
    obtain⟨he,h3⟩:=key;obtain⟨vs,h4,h5⟩:=lW Bh.tt _ _ h3;obtain⟨us,d1,d2,d3⟩:=h5 w' I' φ' a' c3;have Ew:(results fn a'.tmps).run P w'=.ok (if h:us.toArray.size=1 then us.toArray[0]else .tuple us.toArray) w':=by unfold results;rw[gj];simp only[map_eq_pure_bind,bind_assoc,pure_bind,Ce];exact(congrArg (λ(x:Result (List Value))=>x.andThen λus w=>(pure (if h:us.toArray.size=1 then us.toArray[0]else Value.tuple us.toArray):Sem Value).run P w) d1)
    have HZ:bodyPost P fn (λe w'=>∃ u,e=.returned u /\ ∃ φ' I',RV w' I' φ' r u/\RH w' I' φ' (Ab [])/\Step ([]:Heap).length (Ab []) φ I w (Ab []) φ' I' w') .normal a' w':=by
     refine⟨c2,_,Ew,_,rfl,?_⟩;refine akm h4 ?_ c3.hh c4;have KZ:us.length ≠ 1->RV w' I' φ' (.Am vs) (if h:us.toArray.size=1 then us.toArray[0]else .tuple us.toArray):=by intro hne;rw[dif_neg (by simpa using hne)];exact .Am _ _ (by simpa using d2) λi x u e e'=>d3 i x u e (by simpa using e')
     cases vs with
     | nil=>exact KZ (by simp at d2;omega)
     | cons v l=>
      cases l with
      | nil=>
       cases us with
       | nil=>simp at d2
       | cons u us=>
        cases us with
        | nil=>exact d3 0 v u rfl rfl
        | cons u' us=>simp at d2
      | cons v' l=>exact KZ (by simp at d2;omega)
    rcases he with rfl | rfl
    ·exact HZ
    ·exact HZ
section
variable (env:Env) (run:Gh R) (fn nt n base:Nat)
def XR:Nat->Code->List PE->(AX->St->Option R)->AX->St->Option R
 | _,_,[],k=>k
 | cur,.seq a b,.L::p,k=>XR cur a p λe s'=>match e with
  | .normal=>HL env run fn nt n base cur b k s'
  | e=>k e s'
 | cur,.seq _ b,.R::p,k=>XR cur b p k
 | cur,.cond _ a _,.L::p,k=>XR cur a p k
 | cur,.cond _ _ b,.R::p,k=>XR cur b p k
 | _,.block id a,_::p,k=>XR id a p λe s'=>match e with
  | .exit Jf=>bif Nat.beq Jf id then k .normal s' else k (.exit Jf) s'
  | e=>k e s'
 | cur,.loop a,.lp m::p,k=>XR cur a p λe s'=>match e with
  | .normal=>PV (norm base (env.live fn cur)) (HL env run fn nt n base cur a) m k (norm base (env.live fn cur) s')
  | e=>k e s'
 | _,_,_::_,k=>k
end
def axL(env:Env)(n f:Nat)(p:List PE)(m:Nat)(s:St):Option AV:=
 match sub (Fi env f) p with
 | .loop a=>PV (norm 0 (env.live f (NC 0 (Fi env f) p))) (HL env (Dl env n) f (Kq env f) n 0 (NC 0 (Fi env f) p) a) m
   (XR env (Dl env n) f (Kq env f) n 0 0 (Fi env f) p (axK env f)) s
 | _=>.none
def Lh(env:Env)(n f b:Nat)(fs:List Nat)(m:Nat)(s:St):Option AV:=
 match Tq b (Fi env f) 0 fs with
 | some p=>axL env n f p m s
 | .none=>.none
end
end Go.AM
end
section
open Go Go.AM Go.Md
namespace Go.Hd
open Go.Wk
def KB(l:List Af):Env:=Cw [(Gu,0,[1,2,3,4,9,21,22,23,1001]),(Gu,2,[3,4,12,13,45,1013999]),(Gu,4,[4,16,71,72,73,11016999])] [(Gu,0),(Rj,1),(dY,5),(Jr,5),(SX,0)] [] l
def Ku:List Af:=[Lo,oc,mL,agw]
def avn(N:Nat)(t:BZ)(upto:Au)(done:List AH)(Cu:Int):oe (KB Ku) N Gu [AV.agg (Cn t),eV upto,Bi done,AV.int .i64 Cu] =
 Lh (KB Ku) (N) (Gu) 0 [] (N) ({fr:=[(1,AV.Al .f64 upto.re upto.im),(2,AV.tr 4 done.length λi=>AK (done.getD i default)),(3,AV.int .i64 Cu),(4,AV.ptr 0 0 0),(9,AV.mp 1),(21,AY t.log),(22,AV.int .i64 (↑t.log.length:Int)),(23,AV.int .i64 0),(1001,AV.undef)],hp:=[BS.arr true 3 [Cn t],BS.pmap true [] λx=>AV.int .i64 0]}):=by kernel_rfl
structure JW where
 t:BZ
 upto:Au
 done:List AH
 Cu:Int
def qS(p:JW)(M:MC)(i:Int):St:={fr:=[(1,eV p.upto),(2,Bi p.done),(3,.int .i64 p.Cu),(4,.ptr 0 0 0),(9,.mp 1),(21,AY p.t.log),(22,.int .i64 p.t.log.length),(23,.int .i64 i),(1001,.undef)],hp:=[.arr true 3 [Cn p.t],.pmap true M.1 λk=>.int .i64 (M.2 k)]}
def agx(N:Nat)(m:Nat)(p:JW)(M:MC)(i:Int):Lh (KB Ku) N Gu 0 [] (m+1) (qS p M i) =
 bif decide (i<(↑p.t.log.length:Int))then
  bif decide (0<=i)&&decide (i<(↑p.t.log.length:Int))then
   bif(p.t.log.getD i.toNat default).write then
    gC (Dq) (V2) (Dp) ([AV.Al .f64 p.upto.re p.upto.im,AV.Al .f64 (p.t.log.getD i.toNat default).Ag.re (p.t.log.getD i.toNat default).Ag.im]) λy0=>
    bif !AP y0.fst y0.snd then
     Lh (KB Ku) (N) (Gu) 0 ([]) (m) ({fr:=[(1,AV.Al .f64 p.upto.re p.upto.im),(2,AV.tr 4 p.done.length λi=>AK (p.done.getD i default)),(3,AV.int .i64 p.Cu),(4,AV.ptr 0 0 0),(9,AV.mp 1),(21,AY p.t.log),(22,AV.int .i64 (↑p.t.log.length:Int)),(23,AV.int .i64 (Ao (i+1))),(1001,AV.undef)],hp:=[BS.arr true 3 [Cn p.t],BS.pmap true (bif Ck (p.t.log.getD i.toNat default).key M.fst then M.fst else M.fst++[(p.t.log.getD i.toNat default).key]) λx=>bif A5 x (p.t.log.getD i.toNat default).key then AV.int .i64 i else AV.int .i64 (M.snd x)]})
    else
     Lh (KB Ku) (N) (Gu) 0 ([]) (m) (qS p M (Ao (i+1)))
   else
    Lh (KB Ku) (N) (Gu) 0 ([]) (m) (qS p M (Ao (i+1)))
  else none
 else
  gC (λa=>Bm Da (a.getD 0 AV.Ak)) (λl=>l.length<=100000) (λl=>[Bi l]) ([AV.tr 4 p.done.length λi=>AK (p.done.getD i default)]) λy1=>
  Lh (KB Ku) (N) (Gu) 2 ([]) (N) ({fr:=[(3,AV.int .i64 p.Cu),(4,AV.ptr 0 0 0),(12,AV.mp 1),(13,AV.sn 1 2 0),(45,AV.ptr 3 0 0),(1013999,AV.undef)],hp:=[BS.arr true 3 [Cn p.t],BS.pmap true (Dx y1).fst λk=>AV.Al .f64 ((Dx y1).snd k).re ((Dx y1).snd k).im,BS.seq true 1 0 λx=>[],BS.Fz true M.fst (λk=>AV.int .i64 (M.snd k)) M.fst none]}):=by kernel_rfl
def SB2(p:JW)(E:MV)(M:MC)(n:Nat)(F:Nat->List AV)(rem:List An)(cur:Option An):St:={fr:=[(3,.int .i64 p.Cu),(4,.ptr 0 0 0),(12,.mp 1),(13,.sn 1 2 n),(45,.ptr 3 0 0),(1013999,.undef)],hp:=[.arr true 3 [Cn p.t],.pmap true E.1 λk=>eV (E.2 k),.seq true 1 n F,.Fz true M.1 (λk=>.int .i64 (M.2 k)) rem cur]}
def agy(N:Nat)(m:Nat)(p:JW)(E:MV)(M:MC)(n:Nat)(F:Nat->List AV)(rem:List An)(cur:Option An):Lh (KB Ku) N Gu 2 [] (m+1) (SB2 p E M n F rem cur) =
 bif rem.isEmpty then
  BA (Jn) (II) (DD) ([AV.sn 1 0 n,AV.fn (Fn.func Pu) [] [AV.ptr 1 0 0]]) ([BS.seq true 1 n F,BS.arr true 3 [Cn p.t]]) λy2=>
  bif decide (0<=bif decide ((bif decide (p.Cu<0)then 0 else p.Cu)<(↑n:Int))then bif decide (p.Cu<0)then 0 else p.Cu else(↑n:Int))&&decide ((bif decide ((bif decide (p.Cu<0)then 0 else p.Cu)<(↑n:Int))then bif decide (p.Cu<0)then 0 else p.Cu else(↑n:Int))<=(↑n:Int))then
   Lh (KB Ku) (N) (Gu) 4 ([]) (N) ({fr:=[(4,AV.ptr 0 0 0),(16,AV.sn 11 1 0),(71,AV.sn 1 2 (bif decide ((bif decide (p.Cu<0)then 0 else p.Cu)<(↑n:Int))then bif decide (p.Cu<0)then 0 else p.Cu else(↑n:Int)).toNat),(72,AV.int .i64 (↑(bif decide ((bif decide (p.Cu<0)then 0 else p.Cu)<(↑n:Int))then bif decide (p.Cu<0)then 0 else p.Cu else(↑n:Int)).toNat:Int)),(73,AV.int .i64 0),(11016999,AV.undef)],hp:=[BS.arr true 3 [Cn y2.snd],BS.seq true 11 0 λx=>[],BS.seq true 1 (P9 (HK y2.snd) y2.fst).length λi=>[AV.int .i64 ((P9 (HK y2.snd) y2.fst).getD i 0)]]})
  else none
 else
  qQ (rem) λy3=>
  bif decide (0<=M.snd y3)&&decide (M.snd y3<(↑p.t.log.length:Int))then
   BA (dEM) (jV) (QO) ([AV.agg (Bt (p.t.log.getD (M.snd y3).toNat default)),AV.mp 0]) ([BS.pmap true E.fst λk=>AV.Al .f64 (E.snd k).re (E.snd k).im]) λy4=>
   bif !Nr y4.fst y4.snd then
    bif n.ble n then
     bif((n+1)*8).ble 140737488355328&&(n+1).ble 140737488355328 then
      Lh (KB Ku) (N) (Gu) 2 ([]) (m) ({fr:=[(3,AV.int .i64 p.Cu),(4,AV.ptr 0 0 0),(12,AV.mp 1),(13,AV.sn 1 2 (n+1)),(45,AV.ptr 3 0 0),(1013999,AV.undef)],hp:=[BS.arr true 3 [Cn p.t],BS.pmap true y4.snd.fst λk=>AV.Al .f64 (y4.snd.snd k).re (y4.snd.snd k).im,BS.seq true 1 (n+1) (BQ n F (View.list [[AV.int .i64 (M.snd y3)]])),BS.Fz true M.fst (λk=>AV.int .i64 (M.snd k)) (List.filter (λx=>!A5 x y3) rem) (some y3)]})
     else none
    else none
   else
    Lh (KB Ku) (N) (Gu) 2 ([]) (m) ({fr:=[(3,AV.int .i64 p.Cu),(4,AV.ptr 0 0 0),(12,AV.mp 1),(13,AV.sn 1 2 n),(45,AV.ptr 3 0 0),(1013999,AV.undef)],hp:=[BS.arr true 3 [Cn p.t],BS.pmap true y4.snd.fst λk=>AV.Al .f64 (y4.snd.snd k).re (y4.snd.snd k).im,BS.seq true 1 n F,BS.Fz true M.fst (λk=>AV.int .i64 (M.snd k)) (List.filter (λx=>!A5 x y3) rem) (some y3)]})
  else none:=by kernel_rfl
def SB4(t:BZ)(L:List Int)(k n:Nat)(G:Nat->List AV)(i:Int):St:={fr:=[(4,.ptr 0 0 0),(16,.sn 11 1 n),(71,.sn 1 2 k),(72,.int .i64 k),(73,.int .i64 i),(11016999,.undef)],hp:=[.arr true 3 [Cn t],.seq true 11 n G,Bf 1 eI 0 L]}
def agz(N:Nat)(m:Nat)(t:BZ)(L:List Int)(k:Nat)(n:Nat)(G:Nat->List AV)(i:Int):Lh (KB Ku) N Gu 4 [] (m+1) (SB4 t L k n G i) =
 bif decide (i<(↑k:Int))then
  bif decide (0<=i)&&decide (i<(↑k:Int))then
   bif i.toNat.blt L.length then
    bif decide (0<=L.getD i.toNat 0)&&decide (L.getD i.toNat 0<(↑t.log.length:Int))then
     bif n.ble n then
      bif((n+1)*112).ble 140737488355328&&(n+1).ble 140737488355328 then
       Lh (KB Ku) (N) (Gu) 4 ([]) (m) ({fr:=[(4,AV.ptr 0 0 0),(16,AV.sn 11 1 (n+1)),(71,AV.sn 1 2 k),(72,AV.int .i64 (↑k:Int)),(73,AV.int .i64 (Ao (i+1))),(11016999,AV.undef)],hp:=[BS.arr true 3 [Cn t],BS.seq true 11 (n+1) (BQ n G (View.list [Bt (t.log.getD (L.getD i.toNat 0).toNat default)])),BS.seq true 1 L.length λi=>[AV.int .i64 (L.getD i 0)]]})
      else none
     else none
    else none
   else none
  else none
 else
  bif n.ble n then
   some (AV.tr 11 n G)
  else none:=by kernel_rfl
def RU(upto:Au)(M:MC)(i:Nat)(e:Entry):MC:=bif e.write && !AP upto e.Ag then(Ic M.1 e.key,EG M.2 e.key (i:Int))else M
def PN(upto:Au):List Entry->Nat->MC->MC
 | [],_,M=>M
 | e::r,i,M=>PN upto r (i+1) (RU upto M i e)
def gM(p:JW):MC:=PN p.upto p.t.log 0 ([],λ_=>0)
def Km(t:BZ)(E:MV)(M:MC)(ks:List An):List Int:=(ks.map M.2).filter λi=>!Nr (t.log.getD i.toNat default) E
def Tg(Cu:Int)(n:Nat):Int:=bif decide ((bif decide (Cu<0)then 0 else Cu)<(n:Int))then bif decide (Cu<0)then 0 else Cu else(n:Int)
def VB(t:BZ)(Cu:Int)(l:List Int):List Entry:=((P9 (HK t) l).take (Tg Cu l.length).toNat).map λi=>t.log.getD i.toNat default
def KJ(p:JW):List Entry:=VB p.t p.Cu (Km p.t (Dx p.done) (gM p) (gM p).1)
def anS(Cu:Int)(n:Nat):0<=Tg Cu n/\Tg Cu n<=n:=by
 unfold Tg;by_cases h1:Cu<0
 ·rw[Ax h1,Ae];by_cases h2:(0:Int)<n
  ·rw[Ax h2,Ae];omega
  ·rw[AN h2,Aj];omega
 ·rw[AN h1,Aj];by_cases h2:Cu<n
  ·rw[Ax h2,Ae];omega
  ·rw[AN h2,Aj];omega
def na(t:BZ)(a b:Int):HK t a b=true ↔ ep (t.log.getD a.toNat default).Ag<ep (t.log.getD b.toNat default).Ag\/(ep (t.log.getD a.toNat default).Ag=ep (t.log.getD b.toNat default).Ag /\
  (nu (t.log.getD a.toNat default).Ag<nu (t.log.getD b.toNat default).Ag\/(nu (t.log.getD a.toNat default).Ag=nu (t.log.getD b.toNat default).Ag/\a<b))):=by
 unfold HK VA;cases h1:AP (t.log.getD a.toNat default).Ag (t.log.getD b.toNat default).Ag with
 | true=>
  rw[Z8]at h1;simp only[Ae];constructor
  ·intro _;omega
  ·intro _;rfl
 | false=>
  have FG:¬ _:=λh=>by rw[Z8.2 h]at h1;cases h1
  cases h2:AP (t.log.getD b.toNat default).Ag (t.log.getD a.toNat default).Ag with
  | true=>
   rw[Z8]at h2;simp only[Ae,Aj];constructor
   ·intro h;simp at h
   ·intro h;omega
  | false=>
   have E0:¬ _:=λh=>by rw[Z8.2 h]at h2;cases h2
   simp only[Aj];rw[Xw,decide_eq_true_iff];constructor
   ·intro h;omega
   ·intro h;omega
def as1(t:BZ):∀ a b c,HK t a b=true->HK t b c=true->HK t a c=true:=by intro a b c h1 h2;rw[na]at h1 h2 ⊢;omega
def as2(t:BZ)(a:Int):HK t a a=false:=by
 cases h:HK t a a with
 | false=>rfl
 | true=>rw[na]at h;omega
def aqf(t:BZ){a b:Int}(h:a ≠ b):HK t a b=true\/HK t b a=true:=by rw[na,na];omega
def abB{t:BZ}{Cu:Int}{l l':List Int}(h:l.Perm l')(hn:l.Nodup):VB t Cu l=VB t Cu l':=by unfold VB;rw[anN (as1 t) (as2 t) h (hn.imp λ{a b} Gn=>aqf t Gn),h.length_eq]
def cW(log:List Entry)(M:MC):Prop:=M.1.Nodup /\ ∀ k ∈ M.1,0<=M.2 k/\M.2 k<log.length/\(log.getD (M.2 k).toNat default).key=k
def akn{ks:List An}{s:An}(h:ks.Nodup):(Ic ks s).Nodup:=by
 unfold Ic;cases hm:Ck s ks with
 | true=>exact h
 | false=>
  rw[Aj];have:s ∉ ks:=λhc=>by rw[(KH s ks).2 hc]at hm;cases hm
  rw[List.nodup_append];exact⟨h,by simp,λa ha b hb=>by simp at hb;subst hb;exact λhc=>this (hc ▸ ha)⟩
def acJ{log:List Entry}{upto:Au}{M:MC}{i:Nat}(h:cW log M)(hi:i<log.length):cW log (RU upto M i (log.getD i default)):=by
 unfold RU;cases (log.getD i default).write && !AP upto (log.getD i default).Ag with
 | false=>exact h
 | true=>
  rw[Ae];refine⟨akn h.1,λk hk=>?_⟩;show 0<=EG M.2 _ _ k/\EG M.2 _ _ k<_/\(log.getD (EG M.2 _ _ k).toNat default).key=k;unfold EG;cases hb:A5 k (log.getD i default).key with
  | true=>
   rw[DV]at hb;have hb:k=(log.getD i default).key:=by simpa using hb
   rw[Ae,BV];exact⟨by omega,by omega,hb.symm⟩
  | false=>
   rw[Aj];rcases fj.1 hk with e | e
   ·rw[e,eD]at hb;cases hb
   ·exact h.2 k e
def acK(ks:List An)(s:An):(Ic ks s).length<=ks.length+1:=by unfold Ic;cases Ck s ks <;> simp
def abC{log:List Entry}{upto:Au}:∀ (r:List Entry) (i:Nat) (M:MC),cW log M->M.1.length<=i->log.drop i=r->cW log (PN upto r i M)/\(PN upto r i M).1.length<=i+r.length
 | [],i,M,h,hl,_=>⟨h,by simpa [PN] using hl⟩
 | e::r,i,M,h,hl,hr=>by
  have hi:i<log.length:=by
   rcases Cj i log.length with h | h
   ·exact h
   ·rw[Gj h]at hr;cases hr
  rw[drop_cons (z:=(default:Entry)) hi]at hr;obtain⟨he,hr⟩:=List.cons.inj hr;have:=abC (upto:=upto) r (i+1) (RU upto M i e) (by rw[<- he];exact acJ h hi) (by
   unfold RU;cases e.write && !AP upto e.Ag
   ·exact Nat.le_succ_of_le hl
   ·exact CI (acK _ _) (by omega)) hr
  refine⟨this.1,?_⟩;have:=this.2;rw[CR];unfold PN;omega
def avo{lv:List (Nat × Nat × List Nat)}{md:List (Nat × Nat)}{fz:List (Nat × Nat × List Nat)}{l:List Af}(h:∀ k ∈ l,k.Ok PG){n f:Nat}{args:List AV}{r:AV}
  (e:oe (Cw lv md fz l) n f args=some r):At PG f args [] r []:=anR (Gd h) Gc mixed e
def Bn{a b:Nat}(h:a<=b):Nat.ble a b=true:=ay h
def gx{X:Type}(e:X->List AV)(z:X)(l:List X):Nat->List AV:=λj=>bif Nat.blt j l.length then e (l.getD j z)else []
def aeX{X:Type}(e:X->List AV)(z:X)(l:List X)(x:X):BQ l.length (gx e z l) (View.list [e x])=gx e z (l++[x]):=by
 funext j;unfold gx;rw[CB,FD];by_cases h:j<l.length
 ·rw[Tc h,Cd h,Cd (show j<l.length+1 by omega),Ae,Ae];simp only[List.getD];rw[DY h]
 ·by_cases h2:j=l.length
  ·subst h2;rw[Td (Ar _) (show l.length<l.length+1 by omega),Cd (show l.length<l.length+1 by omega),Ae];simp only[List.getD];rw[FC (Ar _),LN];rfl
  ·rw[Js (show l.length+1<=j by omega),Aj];have e1:BQ l.length (λj=>bif Nat.blt j l.length then e (l.getD j z)else []) (View.list [e x]) j=(λj=>bif Nat.blt j l.length then e (l.getD j z)else []) l.length:=by
    unfold BQ;rw[Js (show l.length<=j by omega),Aj,show Nat.blt j (l.length+(View.list [e x]).len)=false from Js (show l.length+1<=j by omega)];rfl
   rw[e1];dsimp only;rw[Js (Ar _)];rfl
def xK{X:Type}{e:X->List AV}{z:X}{l:List X}{i:Nat}(h:i<l.length):gx e z l i=e (l.getD i z):=by unfold gx;rw[Cd h];rfl
def aqg{X:Type}{sz:Nat}{e:X->List AV}{d:List AV->X}{z:X}(h:∀ x,d (e x)=x)(l:List X):Kt d (.seq true sz l.length (gx e z l))=l:=by show(List.range l.length).map (λi=>d (gx e z l i))=l;refine List.ext_getElem (by simp) λi g1 g2=>?_;simp[xK g2,h,List.getD,BR g2]
def fE(t:BZ)(i:Int):Entry:=t.log.getD i.toNat default
def aE(out:List Entry):AV:=.tr 11 out.length (gx Bt default out)
def axM{t:BZ}{L:List Int}{k:Nat}(N:Nat)(hk:k<=L.length)(YK:k<=100000)(hP:YJ t L):∀ (d i m:Nat) (out:List Entry),out=(L.take i).map (fE t)->i+d=k->d<m ->
  Lh (KB Ku) N Gu 4 [] m (SB4 t L k out.length (gx Bt default out) (i:Nat))=some (aE ((L.take k).map (fE t))):=by
 intro d
 induction d with
 | zero=>
  intro i m out ho hi hm;obtain⟨m,rfl⟩:=B3 m (by omega);have hik:i=k:=by omega
  subst hik;rw[agz,AN (by omega),Aj,Bn (Ar _),Ae,ho];rfl
 | succ d ih=>
  intro i m out ho hi hm;obtain⟨m,rfl⟩:=B3 m (by omega);have hil:i<L.length:=by omega
  have hol:out.length=i:=by rw[ho];simp;omega
  have hp:=hP _ (De (z:=(0:Int)) hil);have e:=ih (i+1) m (out++[fE t (L.getD i 0)]) (by rw[ho,Qh,List.map_append,List.getD,BR hil];rfl) (by omega) (by omega);rw[CB,<- aeX Bt default out (fE t (L.getD i 0))]at e;rw[agz,Ax (show((i:Nat):Int)<(k:Int) by omega),Ax (show(0:Int)<=(i:Int) by omega),BV,Cd hil,Ax hp.1,Ax hp.2,Bn (Ar _),
   Bn (show(out.length+1)*112<=140737488355328 by omega),Bn (show out.length+1<=140737488355328 by omega),Cs (by omega)]
  exact e
def anT{rem:List An}(hn:rem.Nodup){y:An}(hy:y ∈ rem):rem.Perm (y::Iz y rem):=by
 have h:=List.perm_cons_erase hy;rw[hn.erase_eq_filter]at h;have:Iz y rem=rem.filter (· != y):=by unfold Iz;congr 1;funext x;rw[DV];rfl
 rw[this];exact h
def ako{t:BZ}{E:MV}{M:MC}{a b:List An}(h:a.Perm b):(Km t E M a).Perm (Km t E M b):=(h.map _).filter _
def bw{p:JW}{E:MV}{M:MC}(N:Nat)(hN:100000<=N)(Qq:VT p.t)(hE:∀ k ∈ E.1,AU (E.2 k))(hM:cW p.t.log M):∀ (c m:Nat) (rem:List An) (l:List Int) (cur:Option An),rem.length=c->c<m->rem.Nodup->(∀ y ∈ rem,y ∈ M.1) ->
  (l++rem.map M.2).Nodup->YJ p.t l->l.length+c<=12 ->
  Lh (KB Ku) N Gu 2 [] m (SB2 p E M l.length (gx eI 0 l) rem cur)=some (aE (VB p.t p.Cu (l++Km p.t E M rem))):=by
 intro c
 induction c with
 | zero=>intro m rem l cur hc hm hn hs cq hP hl;obtain⟨m,rfl⟩:=B3 m (by omega);have:rem=[]:=aq.1 hc;subst this;have hq:∀ {K:LT->Option AV},BA Jn II DD (DD (l,p.t)).1 (.seq true 1 l.length (gx eI 0 l)::hS p.t) K=K (l,p.t):=λ{K}=>Dw (l,p.t) (Cv (aqg (sz:=1) (e:=eI) (z:=0) (d:=λc=>AS c 0) (λ_=>rfl) l) (Rh p.t)) ⟨by simpa using hl,Qq,hP⟩ (.refl _) (.cons (apU (Ar _) λi hi=>xK hi) (.refl _));have Ey:=anS p.Cu l.length;refine(agy N m p E M l.length (gx eI 0 l) [] cur).trans ?_;rw[List.isEmpty_nil,Ae];refine hq.trans ?_;have hL:(P9 (HK p.t) l).length=l.length:=(ZR _ l).length_eq;show(bif decide (0<=Tg p.Cu l.length)&&decide (Tg p.Cu l.length<=(l.length:Int))then Lh (KB Ku) N Gu 4 [] N (SB4 p.t (P9 (HK p.t) l) (Tg p.Cu l.length).toNat 0 (λ_=>[]) ((0:Nat):Int))else none)=_;rw[Ax Ey.1,Ax Ey.2,CV,Ae];have e:=axM (t:=p.t) (L:=P9 (HK p.t) l) (k:=(Tg p.Cu l.length).toNat) N (by rw[hL];omega) (by omega) (λa ha=>hP a ((ZR _ l).mem_iff.1 ha)) (Tg p.Cu l.length).toNat 0 N [] rfl (by omega) (by omega);rw[show l++Km p.t E M []=l from FY l];refine Eq.trans ?_ e;rfl
 | succ c ih=>
  intro m rem l cur hc hm hn hs cq hP hl;obtain⟨m,rfl⟩:=B3 m (by omega);have hne:rem ≠ []:=λh=>by rw[h]at hc;cases hc
  have zY:rem.isEmpty=false:=by cases rem with
   | nil=>exact absurd rfl hne
   | cons=>rfl
  refine(agy N m p E M l.length (gx eI 0 l) rem cur).trans ?_;rw[zY,Aj];refine asZ hne λy hy=>?_;have qT:=hM.2 y (hs y hy);have yV:=anT hn hy;have hlen:(Iz y rem).length=c:=by have:=yV.length_eq;rw[hc,CR]at this;omega
  have hpp:(Km p.t E M rem).Perm (Km p.t E M (y::Iz y rem)):=ako yV;have azz:(l++Km p.t E M rem).Nodup:=cq.sublist ((List.Sublist.refl l).append aA);have oX:(l++M.2 y::(Iz y rem).map M.2).Nodup:=(((yV.map M.2).append_left l).nodup_iff).1 cq;have hdn:(Iz y rem).Nodup:=hn.sublist aA;have Yu:∀ z ∈ Iz y rem,z ∈ M.1:=λz hz=>hs z (Gz.1 hz).1;rw[Ax qT.1,Ax qT.2.1,CV,Ae];have hv:=Qq.2 _ (De (z:=(default:Entry)) (show(M.2 y).toNat<p.t.log.length by omega));refine(aaH (p:=(p.t.log.getD (M.2 y).toNat default,E)) ⟨hv,hE⟩).trans ?_;dsimp only;cases hst:Nr (p.t.log.getD (M.2 y).toNat default) E with
  | true=>
   have e:=ih m (Iz y rem) l (some y) hlen (by omega) hdn Yu (oX.sublist ((List.Sublist.refl l).append (List.sublist_cons_self _ _))) hP (by omega);refine e.trans (congrArg (λx=>some (aE x)) (abB ?_ ?_))
   ·refine List.Perm.append_left l (List.Perm.symm ?_);refine hpp.trans ?_;have:Km p.t E M (y::Iz y rem)=Km p.t E M (Iz y rem):=by
     unfold Km;rw[NP,OJ,hst];rfl
    rw[this]
   ·exact(oX.sublist ((List.Sublist.refl l).append (List.sublist_cons_self _ _))).sublist ((List.Sublist.refl l).append aA)
  | false=>
   have hPl:YJ p.t (l++[M.2 y]):=λa ha=>by
    rcases Cp.1 ha with ha | ha
    ·exact hP a ha
    ·rw[DO.1 ha];exact⟨qT.1,qT.2.1⟩
   have e:=ih m (Iz y rem) (l++[M.2 y]) (some y) hlen (by omega) hdn Yu (by rw[JE];exact oX) hPl (by rw[CB,FD];omega);rw[CB,<- aeX eI 0 l (M.2 y)]at e;rw[Bn (Ar _),Bn (show(l.length+1)*8<=140737488355328 by omega),Bn (show l.length+1<=140737488355328 by omega)];refine Eq.trans e (congrArg (λx=>some (aE x)) (abB ?_ ?_))
   ·rw[JE];refine List.Perm.append_left l (List.Perm.symm (hpp.trans ?_));have:Km p.t E M (y::Iz y rem)=M.2 y::Km p.t E M (Iz y rem):=by
     unfold Km;rw[NP,OJ,hst];rfl
    rw[this];exact .refl _
   ·rw[JE];exact oX.sublist ((List.Sublist.refl l).append (List.Sublist.cons_cons _ aA))
def Wo(p:JW):Prop:=p.t.log.length<=12/\p.done.length<=100000/\AU p.upto/\(∀ e ∈ p.t.log,AU e.Ag) /\ ∀ x ∈ p.done,AU x.Ag
def bA(p:JW):List AV:=[.agg (Cn p.t),eV p.upto,Bi p.done,.int .i64 p.Cu]
def axN{p:JW}(h:Wo p):∀ (d i m:Nat) (M:MC),i+d=p.t.log.length->d<m->cW p.t.log M->M.1.length<=i ->
  Lh (KB Ku) 200000 Gu 0 [] m (qS p M (i:Nat))=some (aE (VB p.t p.Cu (Km p.t (Dx p.done) (PN p.upto (p.t.log.drop i) i M) (PN p.upto (p.t.log.drop i) i M).1))):=by
 obtain⟨h1,h2,h3,h4,h5⟩:=h;intro d
 induction d with
 | zero=>intro i m M hi hm hM hl;obtain⟨m,rfl⟩:=B3 m (by omega);rw[agx,AN (by omega),Aj,Gj (by omega)];refine(Bj p.done (Og p.done) h2 (.refl _)).trans ?_;have e:=bw (p:=p) (E:=Dx p.done) (M:=M) 200000 (by omega) ⟨by omega,h4⟩ (acF h5) hM M.1.length 200000 M.1 [] none rfl (by omega) hM.1 (λy hy=>hy) (by rw[NO,List.Nodup,List.pairwise_map];refine hM.1.imp_of_mem λ{a b} ha hb Gn hc=>Gn ?_;rw[<- (hM.2 a ha).2.2,<- (hM.2 b hb).2.2,hc]) (λa ha=>by simp at ha) (by simp;omega);exact e
 | succ d ih=>
  intro i m M hi hm hM hl;obtain⟨m,rfl⟩:=B3 m (by omega);have hil:i<p.t.log.length:=by omega
  have hv:=h4 _ (De (z:=(default:Entry)) hil);have e:=ih (i+1) m (RU p.upto M i (p.t.log.getD i default)) (by omega) (by omega) (acJ hM hil) (by
   unfold RU;cases (p.t.log.getD i default).write && !AP p.upto (p.t.log.getD i default).Ag
   ·exact Nat.le_succ_of_le hl
   ·exact CI (acK _ _) (by omega))
  have hw:Ao ((i:Int)+1)=((i+1:Nat):Int):=Cs (by omega);rw[drop_cons (z:=(default:Entry)) hil];unfold PN;refine Eq.trans ?_ e;rw[agx,Ax (show((i:Nat):Int)<(p.t.log.length:Int) by omega),Ax (show(0:Int)<=(i:Int) by omega),BV,Ik h3 hv,hw];unfold RU;dsimp only [Bool.and_true,cond_true];cases Dc:(p.t.log.getD i default).write with
  | false=>rfl
  | true=>
   cases hvl:AP p.upto (p.t.log.getD i default).Ag with
   | true=>rfl
   | false=>
    dsimp only [Bool.and_true,Bool.not_false,cond_true];have key:BS.pmap true (bif Ck (p.t.log.getD i default).key M.1 then M.1 else M.1++[(p.t.log.getD i default).key]) (λx=>bif A5 x (p.t.log.getD i default).key then AV.int .i64 i else AV.int .i64 (M.2 x))=.pmap true (Ic M.1 (p.t.log.getD i default).key) λk=>.int .i64 (EG M.2 (p.t.log.getD i default).key (i:Int) k):=by rw[uF (λn=>AV.int .i64 n)];rfl
    rw[key];rfl
def alK(p:JW)(h:Wo p):At PG Gu (bA p) [] (AY (KJ p)) []:=by
 have hc:At PG Gu (bA p) [] (aE (KJ p)) []:=by refine avo (ak Np (ak acD (ak aaG (ak anP AR)))) (n:=200000) ((avn 200000 p.t p.upto p.done p.Cu).trans ?_);exact axN h p.t.log.length 0 200000 ([],λ_=>0) (by omega) (by have:=h.1;omega) ⟨by simp,λk hk=>by simp at hk⟩ (by simp)
 exact hc.res (.N2 λi hi=>by rw[xK hi];exact .refl _)
def qU(a:List AV):JW:=⟨KI (Bd a 0),⟨(Ci a 1).1,(Ci a 1).2⟩,Bm Da (a.getD 2 .Ak),AS a 3⟩
def as3(p:JW):qU (bA p)=p:=by show(⟨KI (Cn p.t),⟨p.upto.re,p.upto.im⟩,Bm Da (Bi p.done),p.Cu⟩:JW)=p;rw[Rh,Og]
def aeY:Af:=.spec Gu qU Wo bA λp=>AY (KJ p)
def alL:aeY.Ok PG:=Af.BJ alK
def ePs(l:List Af):Env:=Cw [] [(Il,0),(dX,1),(dZ,0),(ZI,0),(Gu,0)] [] l
def avp(p:C3)(r:Av)(upto:Au)(Cu:Int):A6 (ePs [qL,aeY,Jy Il 11]) 9 dZ [AV.agg (Dg p),AV.agg (AJ r),eV upto,AV.int .i64 Cu] =
 gC (λa=>Is (Bd a 0)) (MW) (λp=>[AV.agg (Dg p)]) ([AV.agg (Dg p)]) λy0=>
 bif decide (0<(↑p.out.length:Int))then
  bif y0.done.length.ble y0.done.length&&true&&true then
   some (AV.Am [AV.agg (Dg y0),AV.bool false])
  else none
 else
  gC (qU) (Wo) (bA) ([AV.agg (Cn r.tail),AV.Al .f64 upto.re upto.im,Bi p.done,AV.int .i64 Cu]) λy1=>
  bif decide ((↑(KJ y1).length:Int)=0)then
   bif y0.done.length.ble y0.done.length&&true&&true then
    some (AV.Am [AV.agg (Dg y0),AV.bool false])
   else none
  else
   gC (D1) (C9) (D2 11) ([AY (KJ y1)]) λy2=>
   bif y0.done.length.ble y0.done.length&&true&&true then
    some (AV.Am [AV.agg [AV.int .i64 (Ao (y0.num+1)),AV.tr 11 y2.fst y2.snd,Bi y0.done],AV.bool true])
   else none:=by kernel_rfl
def avq(p:C3)(r:Av):A6 (ePs [Jy Il 11]) 9 ZI [AV.agg (Dg p),AV.agg (AJ r)] =
 bif decide ((↑p.out.length:Int)=0)then
  some (AV.Ak)
 else
  gC (D1) (C9) (D2 11) ([AY p.out]) λy3=>
  some (AV.A9 31 [[AV.int .i64 15,AV.int .i64 r.self.node,AV.int .i64 0,AV.int .i64 0,AV.int .i64 r.self.BD,AV.int .i64 r.AQ,AV.int .i64 r.view.Az,AV.int .i64 0,AV.int .i64 0,AV.int .i64 p.num,AV.int .i64 0,AV.int .i64 0,AV.bool false,AV.bool false,AV.str [],AV.str [],AV.Al .f64 0 0,AV.Al .f64 r.tail.floor.re r.tail.floor.im,AV.int .i64 0,AV.str [],AV.str [],AV.str [],AV.bool false,AV.tr 11 y3.fst y3.snd,AV.Ak,AV.Ak,AV.Al .f64 0 0,AV.Al .f64 0 0,AV.int .i64 0,AV.Ak,AV.Ak]]):=by kernel_rfl
structure QP where
 p:C3
 r:Av
 upto:Au
 Cu:Int
def QP.ba(x:QP):JW:=⟨x.r.tail,x.upto,x.p.done,x.Cu⟩
def EB(x:QP):C3 × Bool:=bif x.p.out.isEmpty then(bif(KJ x.ba).isEmpty then(x.p,false)else(⟨Ao (x.p.num+1),KJ x.ba,x.p.done⟩,true))else(x.p,false)
def cX(x:QP):Prop:=MW x.p/\Wo x.ba
def j6(x:QP):List AV:=[.agg (Dg x.p),.agg (AJ x.r),eV x.upto,.int .i64 x.Cu]
def oSt(y:C3 × Bool):AV:=.Am [.agg (Dg y.1),.bool y.2]
def abD{p:JW}(h:Wo p):(KJ p).length<=12:=by have hl:=(abC (log:=p.t.log) (upto:=p.upto) p.t.log 0 ([],λ_=>0) ⟨by simp,λk hk=>by simp at hk⟩ (by simp) rfl).2;have h1:=h.1;unfold KJ VB Km;rw[OK,List.length_take,(ZR _ _).length_eq];refine CI (Nat.min_le_right _ _) (CI (KS _ _) ?_);rw[OK];exact CI hl (by omega)
def agA{X:Type}(l:List X):decide ((l.length:Int)=0)=l.isEmpty:=by cases l with
 | nil=>rfl
 | cons a r=>exact AN (by simp;omega)
def avr{X:Type}(l:List X):decide (0<(l.length:Int))=!l.isEmpty:=by cases l with
 | nil=>rfl
 | cons a r=>exact Ax (by simp)
def alM(x:QP)(h:cX x):At PG dZ (j6 x) [] (oSt (EB x)) []:=by
 refine Cx (ak wJ (ak alL (ak (J7 Rm) AR))) ((avp x.p x.r x.upto x.Cu).trans ?_);have hb:∀ {K:JW->Option AV},gC qU Wo bA [.agg (Cn x.r.tail),.Al .f64 x.upto.re x.upto.im,Bi x.p.done,.int .i64 x.Cu] K=K x.ba:=λ{K}=>Bj x.ba (as3 x.ba) h.2 (.refl _);rw[qCp h.1,hb,avr,agA,Bn (Ar _)];have hq:∀ {K:Nat × (Nat->List AV)->Option AV},gC D1 C9 (D2 11) [AY (KJ x.ba)] K=K ((KJ x.ba).length,λi=>Bt ((KJ x.ba).getD i default)):=λ{K}=>Wm (sz:=11) (CI (abD h.2) (by omega));rw[hq];unfold EB;cases x.p.out.isEmpty with
 | false=>rfl
 | true=>cases (KJ x.ba).isEmpty <;> rfl
def qV(a:List AV):QP:=⟨Is (Bd a 0),Fj (Bd a 1),⟨(Ci a 2).1,(Ci a 2).2⟩,AS a 3⟩
def as4(x:QP):qV (j6 x)=x:=by show(⟨Is (Dg x.p),Fj (AJ x.r),⟨x.upto.re,x.upto.im⟩,x.Cu⟩:QP)=x;rw[ZN,GZ]
def aeZ:Af:=.spec dZ qV cX j6 λx=>oSt (EB x)
def alN:aeZ.Ok PG:=Af.BJ alM
def nJ(p:C3)(r:Av):Ad:={(default:Ad)with kind:=15,src:=r.self.node,KL:=r.self.BD,AQ:=r.AQ,Az:=r.view.Az,num:=p.num,floor:=r.tail.floor,entries:=p.out}
def C7(q:C3 × Av):List Ad:=bif q.1.out.isEmpty then []else [nJ q.1 q.2]
def YL(q:C3 × Av):List AV:=[.agg (Dg q.1),.agg (AJ q.2)]
def anU(q:C3 × Av)(h:q.1.out.length<=100000):At PG ZI (YL q) [] (BB (C7 q)) []:=by
 have e:=avq q.1 q.2;have hq:∀ {K:Nat × (Nat->List AV)->Option AV},gC D1 C9 (D2 11) [AY q.1.out] K=K (q.1.out.length,λi=>Bt (q.1.out.getD i default)):=λ{K}=>Wm (sz:=11) h;rw[agA,hq]at e;unfold C7;cases ho:q.1.out.isEmpty with
 | true=>rw[ho]at e;exact(Cx (ak (J7 Rm) AR) e).res FA
 | false=>rw[ho]at e;exact(Cx (ak (J7 Rm) AR) e).res (Br.trans (adD (X:=Unit) (f:=λ_=>_) (g:=λ_=>Aq (nJ q.1 q.2)) (λ_=>Mo (by repeat' (first | exact trivial | exact FA | exact Br.refl _ | refine⟨?_,?_⟩))) [()]) (Br.PJ [nJ q.1 q.2] rfl))
def xL:Af:=.spec ZI (λa=>(Is (Bd a 0),Fj (Bd a 1))) (λq=>q.1.out.length<=100000) YL λq=>BB (C7 q)
def acL:xL.Ok PG:=Af.BJ anU
def lP{n:Nat}(f:Nat->List AV)(h:n<=100000):At PG SQ [.tr 2 n f] [] (.sn 2 0 n) [.seq true 2 n f]:=S5 (b:=16) (by omega) (by kernel_rfl) (by kernel_rfl) (λn f=>by kernel_rfl) f h
def abE{n:Nat}(f:Nat->List AV)(h:n<=100000):At PG WR [.tr 1 n f] [] (.sn 1 0 n) [.seq true 1 n f]:=S5 (b:=1) (by omega) (by kernel_rfl) (by kernel_rfl) (λn f=>by kernel_rfl) f h
def tR{n:Nat}(f:Nat->List AV)(h:n<=100000):At PG SR [.tr 7 n f] [] (.sn 7 0 n) [.seq true 7 n f]:=S5 (b:=72) (by omega) (by kernel_rfl) (by kernel_rfl) (λn f=>by kernel_rfl) f h
def IJ(l:List Af):Env:=Cw [(Rg,0,[0,7,8]),(Io,0,[0,7,8,9])] [(Il,0),(SQ,0),(SR,0),(WR,0),(su,5),(sx,5),(Rg,0),(Io,0),(eN,0),(UN,0)] [] l
def aS:List Af:=[Vh su 5,Jy SQ 2]
def avt(N:Nat)(l:List Md.View):A6 (IJ aS) (N+1) Rg [Iq l] =
 gC (D1) (C9) (D2 5) ([Iq l]) λy0=>
 LP (IJ aS) (N) 0 (Rg) By 0 [] (N) ({fr:=[(0,AV.sn 5 0 y0.fst),(7,AV.int .i64 (↑y0.fst:Int)),(8,AV.int .i64 0)],hp:=[BS.seq true 5 y0.fst y0.snd]}):=by kernel_rfl
def SVw(n:Nat)(F:Nat->List AV)(i:Int):St:={fr:=[(0,.sn 5 0 n),(7,.int .i64 n),(8,.int .i64 i)],hp:=[.seq true 5 n F]}
def agB(N:Nat)(m:Nat)(l:List Md.View)(i:Int):LP (IJ aS) N 0 Rg By 0 [] (m+1) (SVw l.length (λi=>UY (l.getD i default)) i) =
 bif decide (i<(↑l.length:Int))then
  bif decide (0<=i)&&decide (i<(↑l.length:Int))then
   bif i.toNat.blt l.length then
    gC (D1) (C9) (D2 2) ([CD (l.getD i.toNat default).chain]) λy1=>
    bif decide (0<=i)&&decide (i<(↑l.length:Int))then
     bif i.toNat.blt l.length&&true then
      LP (IJ aS) (N) (0) (Rg) (By) 0 ([]) (m) ({fr:=[(0,AV.sn 5 0 l.length),(7,AV.int .i64 (↑l.length:Int)),(8,AV.int .i64 (Ao (i+1)))],hp:=[BS.seq true 5 l.length λi'=>bif i'.beq i.toNat then [AV.int .i64 (l.getD i.toNat default).AQ,AV.int .i64 (l.getD i.toNat default).Az,AV.int .i64 (l.getD i.toNat default).gen,AV.int .i64 (l.getD i.toNat default).phase,AV.tr 2 y1.fst y1.snd]else UY (l.getD i' default)]})
     else none
    else none
   else none
  else none
 else
  bif l.length.ble l.length then
   some (Iq l)
  else none:=by kernel_rfl
def avu(r:Av):A6 (IJ [Jy SQ 2,Jy Il 11,Jy SR 7,Jy WR 1]) 9 UN [AV.agg (AJ r)] =
 gC (D1) (C9) (D2 2) ([CD r.view.chain]) λy2=>
 gC (D1) (C9) (D2 11) ([AY r.tail.log]) λy3=>
 gC (D1) (C9) (D2 7) ([B7 r.seen]) λy4=>
 gC (D1) (C9) (D2 1) ([E6 r.synced]) λy5=>
 some (AV.agg [AV.int .i64 r.AQ,AV.int .i64 r.self.node,AV.int .i64 r.self.BD,AV.int .i64 r.view.AQ,AV.int .i64 r.view.Az,AV.int .i64 r.view.gen,AV.int .i64 r.view.phase,AV.tr 2 y2.fst y2.snd,AV.int .i64 r.frozen,AV.Al .f64 r.tail.floor.re r.tail.floor.im,AV.Al .f64 r.tail.last.re r.tail.last.im,AV.tr 11 y3.fst y3.snd,AV.tr 7 y4.fst y4.snd,AV.Al .f64 r.B5.re r.B5.im,AV.tr 1 y5.fst y5.snd]):=by kernel_rfl
def gN{l:List Af}(h:∀ k ∈ l,k.Ok PG){n f:Nat}{xs:List AV}{r:AV}(e:A6 (IJ l) n f xs=some r):At PG f xs [] r []:=Cx h e
def HE{R:Type}{X:Type}{sz:Nat}{e:X->List AV}{z:X}{l:List X}{k:Nat × (Nat->List AV)->Option R}(h:l.length<=100000):gC D1 C9 (D2 sz) [DQ sz e z l] k=k (l.length,λi=>e (l.getD i z)):=Wm (sz:=sz) h
def bB(l:List Md.View):Prop:=l.length<=100000 /\ ∀ v ∈ l,v.chain.length<=100000
def E5{X:Type}(e:X->List AV)(z:X)(l:List X)(i:Nat):(λi'=>bif Nat.beq i' i then e (l.getD i z)else e (l.getD i' z))=λi'=>e (l.getD i' z):=by
 funext k;cases h:Nat.beq k i with
 | true=>rw[BN h];rfl
 | false=>rfl
def alO(l:List Md.View)(h:bB l):At PG Rg [Iq l] [] (Iq l) []:=by
 obtain⟨N,hN⟩:∃ N,N=200000:=⟨_,rfl⟩
 have run:∀ d i m,i+d=l.length->d<m->LP (IJ aS) N 0 Rg By 0 [] m (SVw l.length (λi=>UY (l.getD i default)) (i:Nat))=some (Iq l):=by
  intro d
  induction d with
  | zero=>intro i m hi hm;obtain⟨m,rfl⟩:=B3 m (by omega);rw[agB,AN (by omega),Aj,Bn (Ar _)];rfl
  | succ d ih=>
   intro i m hi hm;obtain⟨m,rfl⟩:=B3 m (by omega);have hil:i<l.length:=by omega
   have hc:=h.2 _ (De (z:=(default:Md.View)) hil);have e:=ih (i+1) m (by omega) (by omega);have h1:=h.1;have hw:Ao ((i:Int)+1)=((i+1:Nat):Int):=Cs (by omega);have hs:=E5 UY default l i;have hq:∀ {K:Nat × (Nat->List AV)->Option AV},gC D1 C9 (D2 2) [CD (l.getD i default).chain] K=K ((l.getD i default).chain.length,λj=>DM ((l.getD i default).chain.getD j default)):=λ{K}=>HE hc;rw[agB,Ax (show((i:Nat):Int)<(l.length:Int) by omega),Ax (show(0:Int)<=(i:Int) by omega),BV,Cd hil,hq,hw];refine Eq.trans ?_ e;show LP (IJ aS) N 0 Rg By 0 [] m (SVw l.length (λi'=>bif Nat.beq i' i then UY (l.getD i default)else UY (l.getD i' default)) ((i+1:Nat):Int))=_;rw[hs]
 refine gN (n:=N+1) (ak (UR alB) (ak (J7 lP) AR)) ((avt N l).trans ?_);refine(HE h.1).trans ?_;exact run l.length 0 N (by omega) (by have:=h.1;omega)
def ae0:Af:=.spec Rg (λa=>Bm Xn (a.getD 0 .Ak)) bB (λl=>[Iq l]) λl=>Iq l
def alP:ae0.Ok PG:=Af.BJ alO
def as5{R:Type}{l:List Md.View}{k:List Md.View->Option R}(h:bB l):gC (λa=>Bm Xn (a.getD 0 .Ak)) bB (λl=>[Iq l]) [Iq l] k=k l:=Bj l (aci l) h (.refl _)
def Qr(r:Av):Prop:=r.view.chain.length<=100000/\r.tail.log.length<=100000/\r.seen.length<=100000/\r.synced.length<=100000
def aqh(r:Av)(h:Qr r):At PG UN [.agg (AJ r)] [] (.agg (AJ r)) []:=by obtain⟨h1,h2,h3,h4⟩:=h;refine gN (ak (J7 lP) (ak (J7 Rm) (ak (J7 tR) (ak (J7 abE) AR)))) ((avu r).trans ?_);refine(HE h1).trans ((HE h2).trans ((HE h3).trans ((HE h4).trans ?_)));rfl
def agC:Af:=.spec UN (λa=>Fj (Bd a 0)) Qr (λr=>[.agg (AJ r)]) λr=>.agg (AJ r)
def acM:agC.Ok PG:=Af.BJ aqh
def agD{R:Type}{r:Av}{k:Av->Option R}(h:Qr r):gC (λa=>Fj (Bd a 0)) Qr (λr=>[.agg (AJ r)]) [.agg (AJ r)] k=k r:=Bj r (GZ r) h (.refl _)
def avv:List Af:=[Jy SQ 2,Jy Il 11,Jy SR 7,ae0]
def avw(m:Ad):A6 (IJ avv) 9 eN [AV.agg (Aq m)] =
 gC (D1) (C9) (D2 11) ([AY m.entries]) λy6=>
 gC (D1) (C9) (D2 2) ([CD m.chain]) λy7=>
 gC (λa=>Bm Xn (a.getD 0 AV.Ak)) (bB) (λl=>[Iq l]) ([Iq m.views]) λy8=>
 gC (D1) (C9) (D2 11) ([AY m.image.log]) λy9=>
 gC (D1) (C9) (D2 7) ([B7 m.image.seen]) λjU=>
 some (AV.agg [AV.int .i64 m.kind,AV.int .i64 m.src,AV.int .i64 m.dst,AV.int .i64 m.BD,AV.int .i64 m.KL,AV.int .i64 m.AQ,AV.int .i64 m.Az,AV.int .i64 m.gen,AV.int .i64 m.Ah,AV.int .i64 m.num,AV.int .i64 m.a,AV.int .i64 m.code,AV.bool m.has,AV.bool m.fresh,AV.str m.key,AV.str m.val,AV.Al .f64 m.Ag.re m.Ag.im,AV.Al .f64 m.floor.re m.floor.im,AV.int .i64 m.op.kind,AV.str m.op.key,AV.str m.op.val,AV.str m.op.Bc,AV.bool m.op.IU,AV.tr 11 y6.fst y6.snd,AV.tr 2 y7.fst y7.snd,Iq y8,AV.Al .f64 m.image.floor.re m.image.floor.im,AV.Al .f64 m.image.last.re m.image.last.im,AV.int .i64 m.image.gen,AV.tr 11 y9.fst y9.snd,AV.tr 7 jU.fst jU.snd]):=by kernel_rfl
def K2(m:Ad):Prop:=m.entries.length<=100000/\m.chain.length<=100000/\bB m.views/\m.image.log.length<=100000/\m.image.seen.length<=100000
def aqi(m:Ad)(h:K2 m):At PG eN [.agg (Aq m)] [] (.agg (Aq m)) []:=by obtain⟨h1,h2,h3,h4,h5⟩:=h;refine gN (ak (J7 lP) (ak (J7 Rm) (ak (J7 tR) (ak alP AR)))) ((avw m).trans ?_);refine(HE h1).trans ((HE h2).trans ((as5 h3).trans ((HE h4).trans ((HE h5).trans ?_))));rfl
def xM:Af:=.spec eN (λa=>Dj (Bd a 0)) K2 (λm=>[.agg (Aq m)]) λm=>.agg (Aq m)
def uH:xM.Ok PG:=Af.BJ aqi
def og{R:Type}{m:Ad}{k:Ad->Option R}(h:K2 m):gC (λa=>Dj (Bd a 0)) K2 (λm=>[.agg (Aq m)]) [.agg (Aq m)] k=k m:=Bj m (Ml m) h (.refl _)
def Sa:List Af:=[Vh sx 31,xM]
def avx(N:Nat)(l:List Ad):A6 (IJ Sa) (N+1) Io [BB l] =
 gC (D1) (C9) (D2 31) ([BB l]) λy0=>
 LP (IJ Sa) (N) 0 (Io) By 0 [] (N) ({fr:=[(0,AV.sn 31 0 y0.fst),(7,AV.sn 31 0 y0.fst),(8,AV.int .i64 (↑y0.fst:Int)),(9,AV.int .i64 0)],hp:=[BS.seq true 31 y0.fst y0.snd]}):=by kernel_rfl
def cY(n:Nat)(F:Nat->List AV)(i:Int):St:={fr:=[(0,.sn 31 0 n),(7,.sn 31 0 n),(8,.int .i64 n),(9,.int .i64 i)],hp:=[.seq true 31 n F]}
def agE(N:Nat)(m:Nat)(l:List Ad)(i:Int):LP (IJ Sa) N 0 Io By 0 [] (m+1) (cY l.length (λi=>Aq (l.getD i default)) i) =
 bif decide (i<(↑l.length:Int))then
  bif decide (0<=i)&&decide (i<(↑l.length:Int))then
   bif i.toNat.blt l.length then
    gC (λa=>Dj (Bd a 0)) (K2) (λm=>[AV.agg (Aq m)]) ([AV.agg (Aq (l.getD i.toNat default))]) λy1=>
    bif decide (0<=i)&&decide (i<(↑l.length:Int))then
     bif i.toNat.blt l.length&&true then
      LP (IJ Sa) (N) (0) (Io) (By) 0 ([]) (m) ({fr:=[(0,AV.sn 31 0 l.length),(7,AV.sn 31 0 l.length),(8,AV.int .i64 (↑l.length:Int)),(9,AV.int .i64 (Ao (i+1)))],hp:=[BS.seq true 31 l.length λi'=>bif i'.beq i.toNat then Aq y1 else Aq (l.getD i' default)]})
     else none
    else none
   else none
  else none
 else
  bif l.length.ble l.length then
   some (BB l)
  else none:=by kernel_rfl
def GD(l:List Ad):Prop:=l.length<=100000 /\ ∀ m ∈ l,K2 m
def anV(l:List Ad)(h:GD l):At PG Io [BB l] [] (BB l) []:=by
 obtain⟨N,hN⟩:∃ N,N=200000:=⟨_,rfl⟩
 have run:∀ d i m,i+d=l.length->d<m->LP (IJ Sa) N 0 Io By 0 [] m (cY l.length (λi=>Aq (l.getD i default)) (i:Nat))=some (BB l):=by
  intro d
  induction d with
  | zero=>intro i m hi hm;obtain⟨m,rfl⟩:=B3 m (by omega);rw[agE,AN (by omega),Aj,Bn (Ar _)];rfl
  | succ d ih=>
   intro i m hi hm;obtain⟨m,rfl⟩:=B3 m (by omega);have hil:i<l.length:=by omega
   have hc:=h.2 _ (De (z:=(default:Ad)) hil);have e:=ih (i+1) m (by omega) (by omega);have h1:=h.1;have hw:Ao ((i:Int)+1)=((i+1:Nat):Int):=Cs (by omega);have hs:=E5 Aq default l i;rw[agE,Ax (show((i:Nat):Int)<(l.length:Int) by omega),Ax (show(0:Int)<=(i:Int) by omega),BV,Cd hil,og hc,hw,hs];exact e
 refine gN (n:=N+1) (ak (UR acy) (ak uH AR)) ((avx N l).trans ?_);refine(HE h.1).trans ?_;exact run l.length 0 N (by omega) (by have:=h.1;omega)
def agF:Af:=.spec Io (λa=>Bm Dj (a.getD 0 .Ak)) GD (λl=>[BB l]) λl=>BB l
def acN:agF.Ok PG:=Af.BJ anV
def agG{R:Type}{l:List Ad}{k:List Ad->Option R}(h:GD l):gC (λa=>Bm Dj (a.getD 0 .Ak)) GD (λl=>[BB l]) [BB l] k=k l:=Bj l (fv l) h (.refl _)
def Gs(l:List Af):Env:=Cw [(Fh,0,[1,2,34,35]),(aaE,0,[1,2,10,11,12])] [(Il,0),(Nl,0),(lu,5),(ly,5),(ai0,5),(Io,0),(UN,0),(Fh,0),(aaE,0)] [] l
def MB:List Af:=[agC,Jy Il 11,Jy Nl 4,Vh lu 4,Vh ly 3,agF]
def avy(N:Nat)(d:AL):CO 0 (Gs MB) (N+1) Fh [AV.agg (Ct d)] [] =
 gC (λa=>Fj (Bd a 0)) (Qr) (λr=>[AV.agg (AJ r)]) ([AV.agg (AJ d.rep)]) λy0=>
 gC (D1) (C9) (D2 11) ([AY d.AB.out]) λy1=>
 gC (D1) (C9) (D2 4) ([Bi d.AB.done]) λy2=>
 gC (D1) (C9) (D2 4) ([Bi d.clean]) λy3=>
 gC (D1) (C9) (D2 4) ([HQ d.waits]) λy4=>
 gC (D1) (C9) (D2 3) ([E7 d.asks]) λy5=>
 LP (Gs MB) (N) (0) (Fh) (Cm (0) (0)) 0 [] (N) ({fr:=[(1,AV.ptr 0 0 0),(2,AV.ptr 3 0 0),(34,AV.int .i64 (↑y5.fst:Int)),(35,AV.int .i64 0)],hp:=[BS.arr true 23 [[AV.int .i64 y0.AQ,AV.int .i64 y0.self.node,AV.int .i64 y0.self.BD,AV.int .i64 y0.view.AQ,AV.int .i64 y0.view.Az,AV.int .i64 y0.view.gen,AV.int .i64 y0.view.phase,CD y0.view.chain,AV.int .i64 y0.frozen,AV.Al .f64 y0.tail.floor.re y0.tail.floor.im,AV.Al .f64 y0.tail.last.re y0.tail.last.im,AY y0.tail.log,B7 y0.seen,AV.Al .f64 y0.B5.re y0.B5.im,E6 y0.synced,AV.int .i64 d.AB.num,AV.tr 11 y1.fst y1.snd,AV.tr 4 y2.fst y2.snd,AV.tr 4 y3.fst y3.snd,AV.bool d.busy,AV.sn 4 1 y4.fst,AV.sn 3 2 y5.fst,AV.int .i64 d.next]],BS.seq true 4 y4.fst y4.snd,BS.seq true 3 y5.fst y5.snd,BS.arr true 23 [[AV.int .i64 0,AV.int .i64 0,AV.int .i64 0,AV.int .i64 0,AV.int .i64 0,AV.int .i64 0,AV.int .i64 0,AV.Ak,AV.int .i64 0,AV.Al .f64 0 0,AV.Al .f64 0 0,AV.Ak,AV.Ak,AV.Al .f64 0 0,AV.Ak,AV.int .i64 0,AV.Ak,AV.Ak,AV.Ak,AV.bool false,AV.Ak,AV.Ak,AV.int .i64 0]]]}):=by kernel_rfl
def MX:List AV:=[.int .i64 0,.int .i64 0,.int .i64 0,.int .i64 0,.int .i64 0,.int .i64 0,.int .i64 0,.Ak,.int .i64 0,.Al .f64 0 0,.Al .f64 0 0,.Ak,.Ak,.Al .f64 0 0,.Ak,.int .i64 0,.Ak,.Ak,.Ak,.bool false,.Ak,.Ak,.int .i64 0]
def Hc(a:Nat)(d:Md.AL):List AV:=[.int .i64 d.rep.AQ,.int .i64 d.rep.self.node,.int .i64 d.rep.self.BD,.int .i64 d.rep.view.AQ,.int .i64 d.rep.view.Az,.int .i64 d.rep.view.gen,.int .i64 d.rep.view.phase,CD d.rep.view.chain,.int .i64 d.rep.frozen,.Al .f64 d.rep.tail.floor.re d.rep.tail.floor.im,.Al .f64 d.rep.tail.last.re d.rep.tail.last.im,AY d.rep.tail.log,B7 d.rep.seen,.Al .f64 d.rep.B5.re d.rep.B5.im,E6 d.rep.synced,.int .i64 d.AB.num,AY d.AB.out,Bi d.AB.done,Bi d.clean,.bool d.busy,.sn 4 a d.waits.length,.sn 3 (a+1) d.asks.length,.int .i64 d.next]
def Un(d:Md.AL)(i:Int):St:={fr:=[(1,.ptr 0 0 0),(2,.ptr 3 0 0),(34,.int .i64 d.asks.length),(35,.int .i64 i)],hp:=[.arr true 23 [Hc 1 d],Bf 4 Cz default d.waits,Bf 3 D5 default d.asks,.arr true 23 [MX]]}
def agH(N:Nat)(m:Nat)(d:AL)(i:Int):LP (Gs MB) N 0 Fh (Cm 0 0) 0 [] (m+1) (Un d i) =
 bif decide (i<(↑d.asks.length:Int))then
  bif decide (0<=i)&&decide (i<(↑d.asks.length:Int))then
   bif i.toNat.blt d.asks.length then
    gC (λa=>Bm Dj (a.getD 0 AV.Ak)) (GD) (λl=>[BB l]) ([BB (d.asks.getD i.toNat default).calls]) λy6=>
    bif decide (0<=i)&&decide (i<(↑d.asks.length:Int))then
     bif i.toNat.blt d.asks.length&&true then
      LP (Gs MB) (N) (0) (Fh) (Cm 0 0) 0 ([]) (m) ({fr:=[(1,AV.ptr 0 0 0),(2,AV.ptr 3 0 0),(34,AV.int .i64 (↑d.asks.length:Int)),(35,AV.int .i64 (Ao (i+1)))],hp:=[BS.arr true 23 [[AV.int .i64 d.rep.AQ,AV.int .i64 d.rep.self.node,AV.int .i64 d.rep.self.BD,AV.int .i64 d.rep.view.AQ,AV.int .i64 d.rep.view.Az,AV.int .i64 d.rep.view.gen,AV.int .i64 d.rep.view.phase,CD d.rep.view.chain,AV.int .i64 d.rep.frozen,AV.Al .f64 d.rep.tail.floor.re d.rep.tail.floor.im,AV.Al .f64 d.rep.tail.last.re d.rep.tail.last.im,AY d.rep.tail.log,B7 d.rep.seen,AV.Al .f64 d.rep.B5.re d.rep.B5.im,E6 d.rep.synced,AV.int .i64 d.AB.num,AY d.AB.out,Bi d.AB.done,Bi d.clean,AV.bool d.busy,AV.sn 4 1 d.waits.length,AV.sn 3 2 d.asks.length,AV.int .i64 d.next]],BS.seq true 4 d.waits.length λi=>Cz (d.waits.getD i default),BS.seq true 3 d.asks.length λi'=>bif i'.beq i.toNat then [AV.int .i64 (d.asks.getD i.toNat default).num,AV.str (d.asks.getD i.toNat default).key,BB y6]else D5 (d.asks.getD i' default),BS.arr true 23 [[AV.int .i64 0,AV.int .i64 0,AV.int .i64 0,AV.int .i64 0,AV.int .i64 0,AV.int .i64 0,AV.int .i64 0,AV.Ak,AV.int .i64 0,AV.Al .f64 0 0,AV.Al .f64 0 0,AV.Ak,AV.Ak,AV.Al .f64 0 0,AV.Ak,AV.int .i64 0,AV.Ak,AV.Ak,AV.Ak,AV.bool false,AV.Ak,AV.Ak,AV.int .i64 0]]]})
     else none
    else none
   else none
  else none
 else
  some ((AV.agg [AV.int .i64 d.rep.AQ,AV.int .i64 d.rep.self.node,AV.int .i64 d.rep.self.BD,AV.int .i64 d.rep.view.AQ,AV.int .i64 d.rep.view.Az,AV.int .i64 d.rep.view.gen,AV.int .i64 d.rep.view.phase,CD d.rep.view.chain,AV.int .i64 d.rep.frozen,AV.Al .f64 d.rep.tail.floor.re d.rep.tail.floor.im,AV.Al .f64 d.rep.tail.last.re d.rep.tail.last.im,AY d.rep.tail.log,B7 d.rep.seen,AV.Al .f64 d.rep.B5.re d.rep.B5.im,E6 d.rep.synced,AV.int .i64 d.AB.num,AY d.AB.out,Bi d.AB.done,Bi d.clean,AV.bool d.busy,AV.sn 4 0 d.waits.length,AV.sn 3 1 d.asks.length,AV.int .i64 d.next],[BS.seq true 4 d.waits.length λi=>Cz (d.waits.getD i default),BS.seq true 3 d.asks.length λi=>D5 (d.asks.getD i default)])):=by kernel_rfl
def K3(d:Md.AL):Prop:=Qr d.rep/\d.AB.out.length<=100000/\d.AB.done.length<=100000/\d.clean.length<=100000/\d.waits.length<=100000/\d.asks.length<=100000 /\ ∀ a ∈ d.asks,GD a.calls
def yW(d:Md.AL):Heap:=[Bf 4 Cz default d.waits,Bf 3 D5 default d.asks]
def anW(d:Md.AL)(h:K3 d):At PG Fh [.agg (Ct d)] [] (.agg (Hc 0 d)) (yW d):=by
 obtain⟨N,hN⟩:∃ N,N=200000:=⟨_,rfl⟩
 obtain⟨h1,h2,h3,h4,h5,h6,h7⟩:=h;have run:∀ k i m,i+k=d.asks.length->k<m->LP (Gs MB) N 0 Fh (Cm 0 0) 0 [] m (Un d (i:Nat))=some (.agg (Hc 0 d),yW d):=by
  intro k
  induction k with
  | zero=>intro i m hi hm;obtain⟨m,rfl⟩:=B3 m (by omega);rw[agH,AN (by omega),Aj];rfl
  | succ k ih=>
   intro i m hi hm;obtain⟨m,rfl⟩:=B3 m (by omega);have hil:i<d.asks.length:=by omega
   have hc:=h7 _ (De (z:=(default:Md.Ask)) hil);have e:=ih (i+1) m (by omega) (by omega);have hw:Ao ((i:Int)+1)=((i+1:Nat):Int):=Cs (by omega);have hs:=E5 D5 default d.asks i;rw[agH,Ax (show((i:Nat):Int)<(d.asks.length:Int) by omega),Ax (show(0:Int)<=(i:Int) by omega),BV,Cd hil,agG hc,hw];refine Eq.trans ?_ e;show LP (Gs MB) N 0 Fh (Cm 0 0) 0 [] m {fr:=[(1,.ptr 0 0 0),(2,.ptr 3 0 0),(34,.int .i64 d.asks.length),(35,.int .i64 ((i+1:Nat):Int))],hp:=[.arr true 23 [Hc 1 d],Bf 4 Cz default d.waits,.seq true 3 d.asks.length (λi'=>bif Nat.beq i' i then D5 (d.asks.getD i default)else D5 (d.asks.getD i' default)),.arr true 23 [MX]]}=_;rw[hs];rfl
 refine iD (n:=N+1) (ak acM (ak (J7 Rm) (ak (J7 fa) (ak (UR tQ) (ak (UR uE) (ak acN AR)))))) ((avy N d).trans ?_);refine(agD h1).trans ((HE h2).trans ((HE h3).trans ((HE h4).trans ((HE h5).trans ((HE h6).trans ?_)))));exact run d.asks.length 0 N (by omega) (by omega)
def wM:Af:=.Ly Fh (λa=>S9 (Bd a 0)) K3 (λd=>[.agg (Ct d)]) (λd=>(.agg (Hc 0 d),yW d))
def abF:wM.Ok PG:=Af.Mn anW
def eHN(l:List Af):Env:=Cw [] [(ajK,0),(eK,0),(ZJ,0)] [] l
def avz(s:Int)(m:Be):A6 (eHN []) 9 eK [AV.int .i64 s,AV.agg (DM m)] =
 some (AV.agg [AV.int .i64 s,AV.int .i64 m.node,AV.int .i64 m.BD,AV.int .i64 0,AV.int .i64 0,AV.int .i64 0,AV.int .i64 0,AV.Ak,AV.int .i64 0,AV.Al .f64 0 0,AV.Al .f64 0 0,AV.Ak,AV.Ak,AV.Al .f64 0 0,AV.Ak,AV.int .i64 0,AV.Ak,AV.Ak,AV.Ak,AV.bool false,AV.Ak,AV.Ak,AV.int .i64 0]):=by kernel_rfl
def avA(r:Av)(a:Md.Ask):A6 (eHN []) 9 ZJ [AV.agg (AJ r),AV.agg (D5 a)] =
 some (AV.agg [AV.int .i64 17,AV.int .i64 r.self.node,AV.int .i64 0,AV.int .i64 0,AV.int .i64 r.self.BD,AV.int .i64 r.AQ,AV.int .i64 r.view.Az,AV.int .i64 0,AV.int .i64 0,AV.int .i64 a.num,AV.int .i64 0,AV.int .i64 0,AV.bool false,AV.bool false,AV.str a.key,AV.str [],AV.Al .f64 0 0,AV.Al .f64 0 0,AV.int .i64 0,AV.str [],AV.str [],AV.str [],AV.bool false,AV.Ak,AV.Ak,AV.Ak,AV.Al .f64 0 0,AV.Al .f64 0 0,AV.int .i64 0,AV.Ak,AV.Ak]):=by kernel_rfl
def iH(p:Int × Be):Md.AL:={(default:Md.AL)with rep:={(default:Av)with AQ:=p.1,self:=p.2}}
def eNw(p:Int × Be):List AV:=[.int .i64 p.1,.agg (DM p.2)]
def aqj(p:Int × Be)(_:True):At PG eK (eNw p) [] (.agg (Ct (iH p))) []:=
 (Cx SC (avz p.1 p.2)).res (.agg (Mo (by repeat' (first | exact trivial | exact FA | exact Br.refl _ | refine⟨?_,?_⟩))))
def agI:Af:=.spec eK (λa=>(AS a 0,G0 (Bd a 1))) (λ_=>True) eNw λp=>.agg (Ct (iH p))
def anX:agI.Ok PG:=Af.BJ aqj
def KO(p:Av × Md.Ask):Ad:={(default:Ad)with kind:=17,src:=p.1.self.node,KL:=p.1.self.BD,AQ:=p.1.AQ,Az:=p.1.view.Az,num:=p.2.num,key:=p.2.key}
def YM(p:Av × Md.Ask):List AV:=[.agg (AJ p.1),.agg (D5 p.2)]
def anY(p:Av × Md.Ask)(_:True):At PG ZJ (YM p) [] (.agg (Aq (KO p))) []:=
 (Cx SC (avA p.1 p.2)).res (.agg (Mo (by repeat' (first | exact trivial | exact FA | exact Br.refl _ | refine⟨?_,?_⟩))))
def xN:Af:=.spec ZJ (λa=>(Fj (Bd a 0),Mq (Bd a 1))) (λ_=>True) YM λp=>.agg (Aq (KO p))
def acO:xN.Ok PG:=Af.BJ anY
def agJ{R:Type}{r:Av}{a:Md.Ask}{k:Av × Md.Ask->Option R}:gC (λa=>(Fj (Bd a 0),Mq (Bd a 1))) (λ_=>True) YM [.agg (AJ r),.agg (D5 a)] k=k (r,a):=Bj (r,a) (Cv (GZ r) (l8 a)) trivial (.refl _)
def JX(l:List Af):Env:=Cw [(GY,0,[1,3,19,20,21,31003999])] [(GY,0),(Pw,0),(ZI,0),(ZJ,0)] [] l
def JM:List Af:=[nz,xL,xN]
def avB(N:Nat)(d:AL):A6 (JX JM) (N+1) GY [AV.agg (Ct d)] =
 gC (Ef) (Kj) (Eg) ([AV.agg (AJ d.rep)]) λy0=>
 bif((0+(BL y0).length)*392).ble 140737488355328&&(0+(BL y0).length).ble 140737488355328 then
  bif(BL y0).length.beq 0 then
   gC (λa=>(Is (Bd a 0),Fj (Bd a 1))) (λq=>q.fst.out.length<=100000) (YL) ([AV.agg (Dg d.AB),AV.agg (AJ d.rep)]) λy1=>
   bif((0+(C7 y1).length)*392).ble 140737488355328&&(0+(C7 y1).length).ble 140737488355328 then
    bif(C7 y1).length.beq 0 then
     LP (JX JM) (N) 0 (GY) By 0 [] (N) ({fr:=[(1,AV.ptr 0 0 0),(3,AV.sn 31 1 0),(19,E7 d.asks),(20,AV.int .i64 (↑d.asks.length:Int)),(21,AV.int .i64 0),(31003999,AV.undef)],hp:=[BS.arr true 23 [Ct d],BS.seq true 31 0 λx=>[]]})
    else
     LP (JX JM) (N) 0 (GY) By 0 [] (N) ({fr:=[(1,AV.ptr 0 0 0),(3,AV.sl 31 1 0 (C7 y1).length 0),(19,E7 d.asks),(20,AV.int .i64 (↑d.asks.length:Int)),(21,AV.int .i64 0),(31003999,AV.undef)],hp:=[BS.arr true 23 [Ct d],BS.seq true 31 (C7 y1).length λi=>Aq ((C7 y1).getD i default)]})
   else none
  else
   gC (λa=>(Is (Bd a 0),Fj (Bd a 1))) (λq=>q.fst.out.length<=100000) (YL) ([AV.agg (Dg d.AB),AV.agg (AJ d.rep)]) λy2=>
   bif(BL y0).length.beq 0||(BL y0).length.ble (BL y0).length then
    bif(((BL y0).length+(C7 y2).length)*392).ble 140737488355328&&((BL y0).length+(C7 y2).length).ble 140737488355328 then
     bif(C7 y2).length.beq 0 then
      LP (JX JM) (N) 0 (GY) By 0 [] (N) ({fr:=[(1,AV.ptr 0 0 0),(3,AV.sl 31 1 0 (BL y0).length 0),(19,E7 d.asks),(20,AV.int .i64 (↑d.asks.length:Int)),(21,AV.int .i64 0),(31003999,AV.undef)],hp:=[BS.arr true 23 [Ct d],BS.seq true 31 (BL y0).length λi=>Aq ((BL y0).getD i default)]})
     else
      LP (JX JM) (N) 0 (GY) By 0 [] (N) ({fr:=[(1,AV.ptr 0 0 0),(3,AV.sl 31 1 0 ((BL y0).length+(C7 y2).length) 0),(19,E7 d.asks),(20,AV.int .i64 (↑d.asks.length:Int)),(21,AV.int .i64 0),(31003999,AV.undef)],hp:=[BS.arr true 23 [Ct d],BS.seq true 31 ((BL y0).length+(C7 y2).length) λi=>bif i.blt (BL y0).length then Aq ((BL y0).getD i default)else bif i.blt ((BL y0).length+(C7 y2).length)then Aq ((C7 y2).getD (i - (BL y0).length) default)else Aq ((BL y0).getD (BL y0).length default)]})
    else none
   else none
 else none:=by kernel_rfl
def Lg(d:Md.AL)(v:AV)(n:Nat)(F:Nat->List AV)(i:Int):St:={fr:=[(1,.ptr 0 0 0),(3,v),(19,E7 d.asks),(20,.int .i64 d.asks.length),(21,.int .i64 i),(31003999,.undef)],hp:=[.arr true 23 [Ct d],.seq true 31 n F]}
def agL(N:Nat)(m:Nat)(d:AL)(n:Nat)(F:Nat->List AV)(i:Int):LP (JX JM) N 0 GY By 0 [] (m+1) (Lg d (AV.sn 31 1 n) n F i) =
 bif decide (i<(↑d.asks.length:Int))then
  bif decide (0<=i)&&decide (i<(↑d.asks.length:Int))then
   gC (λa=>(Fj (Bd a 0),Mq (Bd a 1))) (λx=>True) (YM) ([AV.agg (AJ d.rep),AV.agg (D5 (d.asks.getD i.toNat default))]) λy3=>
   bif n.ble n then
    bif((n+1)*392).ble 140737488355328&&(n+1).ble 140737488355328 then
     LP (JX JM) (N) (0) (GY) (By) 0 ([]) (m) ({fr:=[(1,AV.ptr 0 0 0),(3,AV.sn 31 1 (n+1)),(19,E7 d.asks),(20,AV.int .i64 (↑d.asks.length:Int)),(21,AV.int .i64 (Ao (i+1))),(31003999,AV.undef)],hp:=[BS.arr true 23 [Ct d],BS.seq true 31 (n+1) (BQ n F (View.list [[AV.int .i64 17,AV.int .i64 y3.fst.self.node,AV.int .i64 0,AV.int .i64 0,AV.int .i64 y3.fst.self.BD,AV.int .i64 y3.fst.AQ,AV.int .i64 y3.fst.view.Az,AV.int .i64 0,AV.int .i64 0,AV.int .i64 y3.snd.num,AV.int .i64 0,AV.int .i64 0,AV.bool false,AV.bool false,AV.str y3.snd.key,AV.str [],AV.Al .f64 default default,AV.Al .f64 default default,AV.int .i64 0,AV.str [],AV.str [],AV.str [],AV.bool false,AY [],CD [],Iq [],AV.Al .f64 default default,AV.Al .f64 default default,AV.int .i64 0,AY [],B7 []]]))]})
    else none
   else none
  else none
 else
  bif n.ble n then
   some (AV.tr 31 n F)
  else none:=by kernel_rfl
def agM(N:Nat)(m:Nat)(d:AL)(n:Nat)(F:Nat->List AV)(i:Int):LP (JX JM) N 0 GY By 0 [] (m+1) (Lg d (AV.sl 31 1 0 n 0) n F i) =
 bif decide (i<(↑d.asks.length:Int))then
  bif decide (0<=i)&&decide (i<(↑d.asks.length:Int))then
   gC (λa=>(Fj (Bd a 0),Mq (Bd a 1))) (λx=>True) (YM) ([AV.agg (AJ d.rep),AV.agg (D5 (d.asks.getD i.toNat default))]) λy4=>
   bif n.beq 0||n.ble n then
    bif((n+1)*392).ble 140737488355328&&(n+1).ble 140737488355328 then
     LP (JX JM) (N) (0) (GY) (By) 0 ([]) (m) ({fr:=[(1,AV.ptr 0 0 0),(3,AV.sl 31 1 0 (n+1) 0),(19,E7 d.asks),(20,AV.int .i64 (↑d.asks.length:Int)),(21,AV.int .i64 (Ao (i+1))),(31003999,AV.undef)],hp:=[BS.arr true 23 [Ct d],BS.seq true 31 (n+1) λi=>bif i.blt n then F i else bif i.blt (n+1)then [[AV.int .i64 17,AV.int .i64 y4.fst.self.node,AV.int .i64 0,AV.int .i64 0,AV.int .i64 y4.fst.self.BD,AV.int .i64 y4.fst.AQ,AV.int .i64 y4.fst.view.Az,AV.int .i64 0,AV.int .i64 0,AV.int .i64 y4.snd.num,AV.int .i64 0,AV.int .i64 0,AV.bool false,AV.bool false,AV.str y4.snd.key,AV.str [],AV.Al .f64 default default,AV.Al .f64 default default,AV.int .i64 0,AV.str [],AV.str [],AV.str [],AV.bool false,AY [],CD [],Iq [],AV.Al .f64 default default,AV.Al .f64 default default,AV.int .i64 0,AY [],B7 []]].getD (i - n) []else F n]})
    else none
   else none
  else none
 else
  bif n.beq 0||n.ble n then
   some (AV.tr 31 n λi=>F i)
  else none:=by kernel_rfl
def Hy(d:Md.AL):List Ad:=BL d.rep++C7 (d.AB,d.rep)++d.asks.map λa=>KO (d.rep,a)
def X9(d:Md.AL):Prop:=Kj d.rep/\d.AB.out.length<=100000/\d.asks.length<=100000/\(BL d.rep).length<=100000
def aT(n:Nat)(F:Nat->List AV)(l:List Ad):Prop:=n=l.length /\ ∀ j,j<n->F j=Aq (l.getD j default)
def aT.app{n:Nat}{F:Nat->List AV}{l:List Ad}(h:aT n F l)(x:Ad):aT (n+1) (BQ n F (View.list [Aq x])) (l++[x]):=by
 obtain⟨rfl,h⟩:=h;refine⟨by simp,λj hj=>?_⟩;by_cases hjl:j<l.length
 ·rw[Tc hjl,h j hjl];simp only[List.getD];rw[DY hjl]
 ·have:j=l.length:=by omega
  subst this;rw[Td (Ar _) (show l.length<l.length+1 by omega)];simp only[List.getD];rw[FC (Ar _),LN];rfl
def ae1(N:Nat)(d:Md.AL)(V:Nat->AV)(hst:∀ (m n:Nat) (F:Nat->List AV) (i:Nat),i<d.asks.length->n<=400000->LP (JX JM) N 0 GY By 0 [] (m+1) (Lg d (V n) n F (i:Nat))=LP (JX JM) N 0 GY By 0 [] m (Lg d (V (n+1)) (n+1) (BQ n F (View.list [Aq (KO (d.rep,d.asks.getD i default))])) ((i+1:Nat):Int)))
  (hen:∀ (m n:Nat) (F:Nat->List AV),LP (JX JM) N 0 GY By 0 [] (m+1) (Lg d (V n) n F (d.asks.length:Nat))=some (.tr 31 n F)) :
  ∀ (k i m n:Nat) (F:Nat->List AV) (l:List Ad),i+k=d.asks.length->k<m->n+k<=400000->aT n F l ->
   ∃ F',LP (JX JM) N 0 GY By 0 [] m (Lg d (V n) n F (i:Nat))=some (.tr 31 (n+k) F')/\aT (n+k) F' (l++(d.asks.drop i).map λa=>KO (d.rep,a)):=by
 intro k
 induction k with
 | zero=>
  intro i m n F l hi hm hn hH;obtain⟨m,rfl⟩:=B3 m (by omega);have:i=d.asks.length:=by omega
  subst this;rw[hen,Gj (Ar _),List.map_nil,FY];exact⟨F,rfl,hH⟩
 | succ k ih=>
  intro i m n F l hi hm hn hH;obtain⟨m,rfl⟩:=B3 m (by omega);have hil:i<d.asks.length:=by omega
  obtain⟨F',h1,h2⟩:=ih (i+1) m (n+1) _ _ (by omega) (by omega) (by omega) (hH.app (KO (d.rep,d.asks.getD i default)));rw[hst m n F i hil (by omega)];rw[drop_cons (z:=(default:Md.Ask)) hil,NP];rw[JE]at h2;rw[show n+1+k=n+(k+1) by omega]at h1 h2;exact⟨F',h1,h2⟩
def as6(N:Nat)(d:Md.AL)(hd:d.asks.length<=100000)(m n:Nat)(F:Nat->List AV)(i:Nat)(hil:i<d.asks.length)(hn:n<=400000):LP (JX JM) N 0 GY By 0 [] (m+1) (Lg d (.sn 31 1 n) n F (i:Nat))=LP (JX JM) N 0 GY By 0 [] m (Lg d (.sn 31 1 (n+1)) (n+1) (BQ n F (View.list [Aq (KO (d.rep,d.asks.getD i default))])) ((i+1:Nat):Int)):=by have hw:Ao ((i:Int)+1)=((i+1:Nat):Int):=Cs (by omega);rw[agL,Ax (show((i:Nat):Int)<(d.asks.length:Int) by omega),Ax (show(0:Int)<=(i:Int) by omega),BV,agJ,hw,Bn (Ar _),Bn (show(n+1)*392<=140737488355328 by omega),Bn (show n+1<=140737488355328 by omega)];rfl
def as7(N:Nat)(d:Md.AL)(hd:d.asks.length<=100000)(m n:Nat)(F:Nat->List AV)(i:Nat)(hil:i<d.asks.length)(hn:n<=400000):LP (JX JM) N 0 GY By 0 [] (m+1) (Lg d (.sl 31 1 0 n 0) n F (i:Nat))=LP (JX JM) N 0 GY By 0 [] m (Lg d (.sl 31 1 0 (n+1) 0) (n+1) (BQ n F (View.list [Aq (KO (d.rep,d.asks.getD i default))])) ((i+1:Nat):Int)):=by have hw:Ao ((i:Int)+1)=((i+1:Nat):Int):=Cs (by omega);rw[agM,Ax (show((i:Nat):Int)<(d.asks.length:Int) by omega),Ax (show(0:Int)<=(i:Int) by omega),BV,agJ,hw,Bn (Ar _),Bool.or_true,Bn (show(n+1)*392<=140737488355328 by omega),Bn (show n+1<=140737488355328 by omega)];rfl
def ajV(q:C3 × Av):(C7 q).length<=1:=by unfold C7;cases q.1.out.isEmpty <;> simp
def anZ(d:Md.AL)(h:X9 d):At PG GY [.agg (Ct d)] [] (BB (Hy d)) []:=by
 obtain⟨N,hN⟩:∃ N,N=200000:=⟨_,rfl⟩
 obtain⟨h1,h2,h3,h4⟩:=h;have hB:=ajV (d.AB,d.rep);have key:∃ n F,A6 (JX JM) (N+1) GY [.agg (Ct d)]=some (.tr 31 n F)/\aT n F (Hy d):=by
  have hq1:∀ {K:Av->Option AV},gC Ef Kj Eg [.agg (AJ d.rep)] K=K d.rep:=λ{K}=>Bj d.rep (GZ d.rep) h1 (.refl _);have hq2:∀ {K:C3 × Av->Option AV},gC (λa=>(Is (Bd a 0),Fj (Bd a 1))) (λq=>q.fst.out.length<=100000) YL [.agg (Dg d.AB),.agg (AJ d.rep)] K=K (d.AB,d.rep):=λ{K}=>Bj (d.AB,d.rep) (Cv (ZN d.AB) (GZ d.rep)) h2 (.refl _);have N0:=ae1 N d (λn=>.sn 31 1 n) (λm n F i hil hn=>as6 N d h3 m n F i hil hn) (λm n F=>by rw[agL,AN (by omega),Aj,Bn (Ar _)];rfl);have hsl:=ae1 N d (λn=>.sl 31 1 0 n 0) (λm n F i hil hn=>as7 N d h3 m n F i hil hn) (λm n F=>by rw[agM,AN (by omega),Aj,Bn (Ar _),Bool.or_true];rfl);rw[avB,hq1,Bn (show(0+(BL d.rep).length)*392<=140737488355328 by omega),Bn (show 0+(BL d.rep).length<=140737488355328 by omega),CV,Ae];have T0:Hy d=(BL d.rep++C7 (d.AB,d.rep))++(d.asks.drop 0).map λa=>KO (d.rep,a):=rfl;by_cases ha:(BL d.rep).length=0
  ·rw[AM.beq_true ha,Ae,hq2,Bn (show(0+(C7 (d.AB,d.rep)).length)*392<=140737488355328 by omega),Bn (show 0+(C7 (d.AB,d.rep)).length<=140737488355328 by omega),CV,Ae];have j7:=aq.1 ha;by_cases hb:(C7 (d.AB,d.rep)).length=0
   ·rw[AM.beq_true hb,Ae];have Aw:=aq.1 hb;obtain⟨F',e1,e2⟩:=N0 d.asks.length 0 N 0 (λ_=>[]) [] (by omega) (by omega) (by omega) ⟨rfl,λj hj=>absurd hj (C5 j)⟩;refine⟨_,F',e1,?_⟩;rw[T0,j7,Aw];exact e2
   ·rw[AM.beq_false hb,Aj];obtain⟨F',e1,e2⟩:=hsl d.asks.length 0 N (C7 (d.AB,d.rep)).length (λi=>Aq ((C7 (d.AB,d.rep)).getD i default)) (C7 (d.AB,d.rep)) (by omega) (by omega) (by omega) ⟨rfl,λj hj=>rfl⟩;refine⟨_,F',e1,?_⟩;rw[T0,j7,NO];exact e2
  ·rw[AM.beq_false ha,Aj,hq2,Bn (Ar _),Bool.false_or,Ae,Bn (show((BL d.rep).length+(C7 (d.AB,d.rep)).length)*392<=140737488355328 by omega),Bn (show(BL d.rep).length+(C7 (d.AB,d.rep)).length<=140737488355328 by omega),CV,Ae];by_cases hb:(C7 (d.AB,d.rep)).length=0
   ·rw[AM.beq_true hb,Ae];have Aw:=aq.1 hb;obtain⟨F',e1,e2⟩:=hsl d.asks.length 0 N (BL d.rep).length (λi=>Aq ((BL d.rep).getD i default)) (BL d.rep) (by omega) (by omega) (by omega) ⟨rfl,λj hj=>rfl⟩;refine⟨_,F',e1,?_⟩;rw[T0,Aw,FY];exact e2
   ·rw[AM.beq_false hb,Aj];obtain⟨F',e1,e2⟩:=hsl d.asks.length 0 N ((BL d.rep).length+(C7 (d.AB,d.rep)).length) (λi=>bif i.blt (BL d.rep).length then Aq ((BL d.rep).getD i default)else bif i.blt ((BL d.rep).length+(C7 (d.AB,d.rep)).length)then Aq ((C7 (d.AB,d.rep)).getD (i - (BL d.rep).length) default)else Aq ((BL d.rep).getD (BL d.rep).length default)) (BL d.rep++C7 (d.AB,d.rep)) (by omega) (by omega) (by omega) ⟨by rw[CB],λj hj=>by
     dsimp only;by_cases hj2:j<(BL d.rep).length
     ·rw[Cd hj2,Ae];simp only[List.getD];rw[DY hj2]
     ·rw[Js (by omega),Aj,Cd hj,Ae];simp only[List.getD];rw[FC (by omega)]⟩
    refine⟨_,F',e1,?_⟩;rw[T0];exact e2
 obtain⟨n,F,e,rfl,hF⟩:=key;exact(Cx (ak tO (ak acL (ak acO AR))) e).res (.N2 λi hi=>by rw[hF i hi];exact .refl _)
def nM:Af:=.spec GY (λa=>S9 (Bd a 0)) X9 (λd=>[.agg (Ct d)]) λd=>BB (Hy d)
def alQ:nM.Ok PG:=Af.BJ anZ
structure Ai where
 d:Md.AL
 c:EE
 out:List Ad
 DI:AH
 Hu:Bool
deriving Inhabited
def wN(w:Ai):List AV:=Hc 1 w.d++(D4 w.c++(.sn 31 3 w.out.length::(AK w.DI++[.bool w.Hu])))
def Bo(w:Ai):Heap:=[.arr true 44 [wN w],Bf 4 Cz default w.d.waits,Bf 3 D5 default w.d.asks,Bf 31 Aq default w.out]
def eWk(l:List Af):Env:=Cw [] [(WW,5),(lE,5),(SV,5),(UF,5),(Oc,0)] [] l
def avC(w:Ai)(m:Ad):CO 4 (eWk [P6]) 9 WW [AV.ptr 0 0 0,AV.agg (Aq m)] (Bo w)=gC Ef Gy Eg [AV.agg (AJ w.d.rep)] λy0=>
 bif CH y0 then bif decide (m.dst=w.d.rep.self.node)then bif decide (m.BD=w.d.rep.self.BD)then bif decide (m.AQ=w.d.rep.AQ)then some (.bool (decide (m.Az=w.d.rep.view.Az)),Bo w)else some (.bool false,Bo w)else some (.bool false,Bo w)else some (.bool false,Bo w)else some (.bool false,Bo w):=by kernel_rfl
def Kn(w:Ai)(m:Ad):Bool:=CH w.d.rep&&(decide (m.dst=w.d.rep.self.node)&&(decide (m.BD=w.d.rep.self.BD)&&(decide (m.AQ=w.d.rep.AQ)&&decide (m.Az=w.d.rep.view.Az))))
def an0(w:Ai)(m:Ad)(h:Gy w.d.rep):At PG WW [.ptr 0 0 0,.agg (Aq m)] (Bo w) (.bool (Kn w m)) (Bo w)/\(Bo w).length<=(Bo w).length:=by refine Ds (ak Rn AR) (c:=4) (n:=9) (Ar 4) ((avC w m).trans ?_);refine(aM h).trans ?_;unfold Kn;cases CH w.d.rep <;> cases decide (m.dst=w.d.rep.self.node) <;> cases decide (m.BD=w.d.rep.self.BD) <;> cases decide (m.AQ=w.d.rep.AQ) <;> rfl
def nN(cs:List AV)(ws:List C4)(ks:List Md.Ask):Md.AL:={S9 cs with waits:=ws,asks:=ks}
def akp(a:Nat)(l:List AV)(x:Md.AL):nN (Hc a x++l) x.waits x.asks=x:=by show(⟨⟨x.rep.AQ,⟨x.rep.self.node,x.rep.self.BD⟩,⟨x.rep.view.AQ,x.rep.view.Az,x.rep.view.gen,x.rep.view.phase,Bm G0 (CD x.rep.view.chain)⟩,x.rep.frozen,⟨⟨x.rep.tail.floor.re,x.rep.tail.floor.im⟩,⟨x.rep.tail.last.re,x.rep.tail.last.im⟩,Bm DG (AY x.rep.tail.log)⟩,Bm EU (B7 x.rep.seen),⟨x.rep.B5.re,x.rep.B5.im⟩,Bm Rq (E6 x.rep.synced)⟩,⟨x.AB.num,Bm DG (AY x.AB.out),Bm Da (Bi x.AB.done)⟩,Bm Da (Bi x.clean),x.busy,x.waits,x.asks,x.next⟩:Md.AL)=x;simp only[Rl,Of,Nq,mE,Og]
def Jb(h:Heap):Ai:=⟨nN (af (Ab h 0)) (Kt S7 (Ab h 1)) (Kt Mq (Ab h 2)),U0 ((af (Ab h 0)).drop 23),Kt Dj (Ab h 3),Da ((af (Ab h 0)).drop 39),Kr (af (Ab h 0)) 43⟩
def Rt(w:Ai):Jb (Bo w)=w:=by have h1:Kt S7 (Bf 4 Cz default w.d.waits)=w.d.waits:=S6 (λ_=>rfl) _;have h2:Kt Mq (Bf 3 D5 default w.d.asks)=w.d.asks:=S6 l8 _;have h3:Kt Dj (Bf 31 Aq default w.out)=w.out:=S6 Ml _;have h0:nN (wN w) w.d.waits w.d.asks=w.d:=akp 1 _ w.d;show(⟨nN (wN w) (Kt S7 (Bf 4 Cz default w.d.waits)) (Kt Mq (Bf 3 D5 default w.d.asks)),w.c,Kt Dj (Bf 31 Aq default w.out),w.DI,w.Hu⟩:Ai)=w;rw[h1,h2,h3,h0]
abbrev WM:=Ai × Ad
def EA(a:List AV)(h:Heap):WM:=(Jb h,Dj (Bd a 1))
def Es(p:WM):List AV × Heap:=([.ptr 0 0 0,.agg (Aq p.2)],Bo p.1)
def U6(p:WM):EA (Es p).1 (Es p).2=p:=Cv (Rt p.1) (Ml p.2)
def oh:Af:=.EC WW EA (λ_=>True) Es (λp=>(.bool (Kn p.1 p.2),Bo p.1))
def uI:oh.Ok PG:=Af.EL λp _=>an0 p.1 p.2 trivial
def adT(a:Nat)(w:Ai):List AV:=Hc a w.d++(D4 w.c++(.sn 31 (a+2) w.out.length::(AK w.DI++[.bool w.Hu])))
def BE(w:Ai):Heap:=[.arr true 44 [adT 4 w],.dead,.dead,.dead,Bf 4 Cz default w.d.waits,Bf 3 D5 default w.d.asks,Bf 31 Aq default w.out]
def Tv(w:Ai)(dst Ah num code:Int):Ad:={(default:Ad)with kind:=6,src:=w.d.rep.self.node,dst:=dst,AQ:=w.d.rep.AQ,Ah:=Ah,num:=num,code:=code}
def eWj(l:List Af):Env:=Cw [] [(lE,3),(SV,5),(UF,5),(ZE,0),(eC,0)] [] l
def mk_eq(w:Ai):CO 1 (eWj [aeT,agp]) 9 UF [AV.ptr 0 0 0] (Bo w) =
 gC (λa=>KI (Bd a 0)) (λt=>MA t.log) (λt=>[AV.agg (Cn t)]) ([AV.agg (Cn w.d.rep.tail)]) λy0=>
 gC (λa=>(Kr a 0,AS a 1,AS a 2,AS a 3)) (λx=>True) (qF) ([AV.bool w.d.busy,AV.int .i64 (↑(Iu y0.log):Int),AV.int .i64 w.c.high,AV.int .i64 w.c.low]) λy1=>
 some ((AV.Am [],[BS.arr true 44 [[AV.int .i64 w.d.rep.AQ,AV.int .i64 w.d.rep.self.node,AV.int .i64 w.d.rep.self.BD,AV.int .i64 w.d.rep.view.AQ,AV.int .i64 w.d.rep.view.Az,AV.int .i64 w.d.rep.view.gen,AV.int .i64 w.d.rep.view.phase,CD w.d.rep.view.chain,AV.int .i64 w.d.rep.frozen,AV.Al .f64 w.d.rep.tail.floor.re w.d.rep.tail.floor.im,AV.Al .f64 w.d.rep.tail.last.re w.d.rep.tail.last.im,AY w.d.rep.tail.log,B7 w.d.rep.seen,AV.Al .f64 w.d.rep.B5.re w.d.rep.B5.im,E6 w.d.rep.synced,AV.int .i64 w.d.AB.num,AY w.d.AB.out,Bi w.d.AB.done,Bi w.d.clean,AV.bool (aP y1.fst y1.snd.fst y1.snd.snd.fst y1.snd.snd.snd),AV.sn 4 4 w.d.waits.length,AV.sn 3 5 w.d.asks.length,AV.int .i64 w.d.next,AV.int .i64 w.c.nodes,AV.int .i64 w.c.chain,AV.int .i64 w.c.aeL,AV.int .i64 w.c.adG,AV.int .i64 w.c.maxKey,AV.int .i64 w.c.RA,AV.int .i64 w.c.high,AV.int .i64 w.c.low,AV.int .i64 w.c.room,AV.int .i64 w.c.Ou,AV.int .i64 w.c.batch,AV.int .i64 w.c.Xk,AV.int .i64 w.c.adH,AV.int .i64 w.c.acx,AV.int .i64 w.c.Ov,AV.sn 31 6 w.out.length,AV.str w.DI.key,AV.str w.DI.val,AV.bool w.DI.has,AV.Al .f64 w.DI.Ag.re w.DI.Ag.im,AV.bool w.Hu]],BS.dead,BS.dead,BS.dead,BS.seq true 4 w.d.waits.length λi=>Cz (w.d.waits.getD i default),BS.seq true 3 w.d.asks.length λi=>D5 (w.d.asks.getD i default),BS.seq true 31 w.out.length λi=>Aq (w.out.getD i default)])):=by kernel_rfl
def Fk(w:Ai):Ai:={w with d:={w.d with busy:=aP w.d.busy (Iu w.d.rep.tail.log) w.c.high w.c.low}}
def alR(w:Ai)(h:MA w.d.rep.tail.log):At PG UF [.ptr 0 0 0] (Bo w) (.Am []) (BE (Fk w))/\(Bo w).length<=(BE (Fk w)).length:=by refine Ds (ak alG (ak anF AR)) (c:=1) (n:=9) (by show 1<=4;omega) ((mk_eq w).trans ?_);have hq1:∀ {K:BZ->Option (AV × Heap)},gC (λa=>KI (Bd a 0)) (λt=>MA t.log) (λt=>[AV.agg (Cn t)]) [AV.agg (Cn w.d.rep.tail)] K=K w.d.rep.tail:=λ{K}=>Bj w.d.rep.tail (Rh w.d.rep.tail) h (.refl _);have hq2:∀ {n:Int} {K:BM->Option (AV × Heap)},gC (λa=>(Kr a 0,AS a 1,AS a 2,AS a 3)) (λ_=>True) qF [AV.bool w.d.busy,AV.int .i64 n,AV.int .i64 w.c.high,AV.int .i64 w.c.low] K=K (w.d.busy,n,w.c.high,w.c.low):=λ{n K}=>Bj (w.d.busy,n,w.c.high,w.c.low) rfl trivial (.refl _);rw[hq1,hq2];rfl
def wO:Af:=.EC UF (λ_ h=>Jb h) (λw=>MA w.d.rep.tail.log) (λw=>([.ptr 0 0 0],Bo w)) (λw=>(.Am [],BE (Fk w)))
def abG:wO.Ok PG:=Af.EL alR
def HF(w:Ai)(x y z:AV):List AV:=[.int .i64 w.d.rep.AQ,.int .i64 w.d.rep.self.node,.int .i64 w.d.rep.self.BD,.int .i64 w.d.rep.view.AQ,.int .i64 w.d.rep.view.Az,.int .i64 w.d.rep.view.gen,.int .i64 w.d.rep.view.phase,CD w.d.rep.view.chain,.int .i64 w.d.rep.frozen,.Al .f64 w.d.rep.tail.floor.re w.d.rep.tail.floor.im,.Al .f64 w.d.rep.tail.last.re w.d.rep.tail.last.im,AY w.d.rep.tail.log,B7 w.d.rep.seen,.Al .f64 w.d.rep.B5.re w.d.rep.B5.im,E6 w.d.rep.synced,.int .i64 w.d.AB.num,AY w.d.AB.out,Bi w.d.AB.done,Bi w.d.clean,.bool w.d.busy,x,y,.int .i64 w.d.next]++(D4 w.c++(z::(AK w.DI++[.bool w.Hu])))
def Jo(w:Ai)(nW:Nat)(FW:Nat->List AV)(nK:Nat)(FK:Nat->List AV)(nO:Nat)(FO:Nat->List AV):Heap:=
 [.arr true 44 [HF w (.sn 4 4 nW) (.sn 3 5 nK) (.sn 31 6 nO)],.dead,.dead,.dead,.seq true 4 nW FW,.seq true 3 nK FK,.seq true 31 nO FO]
def CM(l:List C4):Nat->List AV:=λi=>Cz (l.getD i default)
def BY(l:List Md.Ask):Nat->List AV:=λi=>D5 (l.getD i default)
def BP(l:List Ad):Nat->List AV:=λi=>Aq (l.getD i default)
def fV(w:Ai)(W:List C4)(K:List Md.Ask)(O:List Ad):Jo w W.length (CM W) K.length (BY K) O.length (BP O)=BE {w with d:={w.d with waits:=W,asks:=K},out:=O}:=rfl
def agN(w:Ai)(dst Ah num code:Int):List AV:=[.int .i64 6,.int .i64 w.d.rep.self.node,.int .i64 dst,.int .i64 0,.int .i64 0,.int .i64 w.d.rep.AQ,.int .i64 0,.int .i64 0,.int .i64 Ah,.int .i64 num,.int .i64 0,.int .i64 code,.bool false,.bool false,.str [],.str [],.Al .f64 0 0,.Al .f64 0 0,.int .i64 0,.str [],.str [],.str [],.bool false,.Ak,.Ak,.Ak,.Al .f64 0 0,.Al .f64 0 0,.int .i64 0,.Ak,.Ak]
def alS(w:Ai)(dst Ah num code:Int):CJ (agN w dst Ah num code) (Aq (Tv w dst Ah num code)):=Mo (by repeat' (first | exact trivial | exact FA | exact Br.refl _ | refine⟨?_,?_⟩))
def uJ{X:Type}{e:X->List AV}{z:X}{l:List X}{x:X}{cs:List AV}(h:CJ cs (e x))(i:Nat)(hi:i<l.length+1):CJ (BQ l.length (λi=>e (l.getD i z)) (.list [cs]) i) (e ((l++[x]).getD i z)):=by
 by_cases hl:i<l.length
 ·rw[Tc hl];simp only[List.getD];rw[DY hl];exact .refl _
 ·have:i=l.length:=by omega
  subst this;rw[Td (Ar _) (show l.length<l.length+1 by omega)];simp only[List.getD];rw[FC (Ar _),LN];exact h
def aqk(w:Ai){n:Nat}{F G:Nat->List AV}{a:Nat}{A:Nat->List AV}{b:Nat}{B:Nat->List AV}(h:∀ i,i<n->CJ (F i) (G i)):HSub (Jo w a A b B n F) (Jo w a A b B n G):=
 .cons (.refl _) (.cons (.refl _) (.cons (.refl _) (.cons (.refl _) (.cons (.refl _) (.cons (.refl _) (.cons (.seq true 31 n n F G (Ar _) h) .nil))))))
def eWr(l:List Af):Env:=Cw [] [(lE,3),(SV,5),(UF,5),(UE,5),(Uy,5)] [] l
def avD(w:Ai)(m:Ad)(code:Int):CO 1 (eWr []) 9 SV [.ptr 0 0 0,.agg (Aq m),.int .i64 code] (Bo w) =
 bif w.out.length.ble w.out.length then bif((w.out.length+1)*392).ble 140737488355328&&(w.out.length+1).ble 140737488355328 then
  some (.Am [],Jo w w.d.waits.length (CM w.d.waits) w.d.asks.length (BY w.d.asks) (w.out.length+1) (BQ w.out.length (BP w.out) (.list [agN w m.src m.Ah m.num code])))else none else none:=by kernel_rfl
def bC(w:Ai)(l:List Ad):Ai:={w with out:=w.out++l}
def On(w:Ai)(m:Ad)(code:Int):Ai:=bC w [Tv w m.src m.Ah m.num code]
def ae2{X:Type}(e:X->List AV)(z:X)(l:List X)(x:X):BQ l.length (λi=>e (l.getD i z)) (.list [e x])=λi=>e ((l++[x]).getD i z):=mJ e z l x
def akq(w:Ai)(m:Ad)(code:Int)(h:w.out.length<=1000000):At PG SV [.ptr 0 0 0,.agg (Aq m),.int .i64 code] (Bo w) (.Am []) (BE (On w m code))/\(Bo w).length<=(BE (On w m code)).length:=by
 have e:=avD w m code;rw[Bn (Ar _),Bn (show(w.out.length+1)*392<=140737488355328 by omega),Bn (show w.out.length+1<=140737488355328 by omega)]at e;have c:=Ds (λk hk=>by cases hk) (c:=1) (n:=9) (by show 1<=4;omega) e;refine⟨?_,by show 4<=7;omega⟩;have hd:BE (On w m code)=Jo w w.d.waits.length (CM w.d.waits) w.d.asks.length (BY w.d.asks) (w.out.length+1) (BP (w.out++[Tv w m.src m.Ah m.num code])):=by rw[show w.out.length+1=(w.out++[Tv w m.src m.Ah m.num code]).length by simp,fV];rfl
 rw[hd];exact c.1.KN (.refl _) (aqk w λi hi=>uJ (alS w m.src m.Ah m.num code) i hi)
abbrev WMI:=Ai × Ad × Int
def yX(a:List AV)(h:Heap):WMI:=(Jb h,Dj (Bd a 1),AS a 2)
def oY(p:WMI):List AV × Heap:=([.ptr 0 0 0,.agg (Aq p.2.1),.int .i64 p.2.2],Bo p.1)
def aql(p:WMI):yX (oY p).1 (oY p).2=p:=Cv (Rt p.1) (Cv (Ml p.2.1) rfl)
def adU:Af:=.EC SV yX (λp=>p.1.out.length<=1000000) oY (λp=>(.Am [],BE (On p.1 p.2.1 p.2.2)))
def akr:adU.Ok PG:=Af.EL λp h=>akq p.1 p.2.1 p.2.2 h
def avE(w:Ai)(v:Au)(m:Ad):CO 1 (eWr [kDW]) 9 UE [.ptr 0 0 0,eV v,.agg (Aq m)] (Bo w) =
 BA YH SB Er (Er (w.d.waits,m)).1 (Er (w.d.waits,m)).2 λy=>
 bif(y.1.filter λx=>!pW y.2 x).length.ble (y.1.filter λx=>!pW y.2 x).length then bif(((y.1.filter λx=>!pW y.2 x).length+1)*40).ble 140737488355328&&((y.1.filter λx=>!pW y.2 x).length+1).ble 140737488355328 then
  some (.Am [],Jo w ((y.1.filter λx=>!pW y.2 x).length+1) (BQ (y.1.filter λx=>!pW y.2 x).length (CM (y.1.filter λx=>!pW y.2 x)) (.list [Cz ⟨v,y.2.src,y.2.Ah,y.2.num⟩])) w.d.asks.length (BY w.d.asks) w.out.length (BP w.out))else none else none:=by kernel_rfl
def I4(w:Ai)(v:Au)(m:Ad):Ai:={w with d:={w.d with waits:=(w.d.waits.filter λx=>!pW m x)++[⟨v,m.src,m.Ah,m.num⟩]}}
def an1(w:Ai)(v:Au)(m:Ad)(h:w.d.waits.length<=100000):At PG UE [.ptr 0 0 0,eV v,.agg (Aq m)] (Bo w) (.Am []) (BE (I4 w v m))/\(Bo w).length<=(BE (I4 w v m)).length:=by
 refine Ds (ak asH AR) (c:=1) (n:=9) (by show 1<=4;omega) ((avE w v m).trans ?_);have hq:∀ {K:YW->Option (AV × Heap)},BA YH SB Er (Er (w.d.waits,m)).1 (Er (w.d.waits,m)).2 K=K (w.d.waits,m):=λ{K}=>Dw (w.d.waits,m) (aeP _) h (.refl _) (.refl _);rw[hq];dsimp only;generalize hW:(w.d.waits.filter λx=>!pW m x)=W;have hl:W.length<=100000:=by rw[<- hW];exact CI (KS _ _) h
 rw[Bn (Ar _),Bn (show(W.length+1)*40<=140737488355328 by omega),Bn (show W.length+1<=140737488355328 by omega)];have:BQ W.length (CM W) (.list [Cz ⟨v,m.src,m.Ah,m.num⟩])=CM (W++[⟨v,m.src,m.Ah,m.num⟩]):=ae2 _ _ _ _;rw[this,show W.length+1=(W++[(⟨v,m.src,m.Ah,m.num⟩:C4)]).length by simp,fV];unfold I4;rw[hW];rfl
abbrev qW:=Ai × Au × Ad
def iI(a:List AV)(h:Heap):qW:=(Jb h,⟨(Ci a 1).1,(Ci a 1).2⟩,Dj (Bd a 2))
def bD(p:qW):List AV × Heap:=([.ptr 0 0 0,eV p.2.1,.agg (Aq p.2.2)],Bo p.1)
def adV(p:qW):iI (bD p).1 (bD p).2=p:=Cv (Rt p.1) (Cv rfl (Ml p.2.2))
def xO:Af:=.EC UE iI (λp=>p.1.d.waits.length<=100000) bD (λp=>(.Am [],BE (I4 p.1 p.2.1 p.2.2)))
def acP:xO.Ok PG:=Af.EL λp h=>an1 p.1 p.2.1 p.2.2 h
def eAn(l:List Af):Env:=Cw [(UB,0,[0,1,4,5,21,22,23,4005999])] [(lE,3),(UB,5),(Ri,0),(SX,0)] [] l
def yY:List Af:=[gE,Lo]
def aij(w:Ai)(v:Au)(r l nL:Nat)(i:Int):Fr:=[(0,.ptr 0 0 0),(1,eV v),(4,.ptr r 0 0),(5,.sn 4 l nL),(21,.sn 4 1 w.d.waits.length),(22,.int .i64 w.d.waits.length),(23,.int .i64 i),(4005999,.undef)]
def hAn(w:Ai)(nL:Nat)(FL:Nat->List AV):Heap:=[.arr true 44 [HF w (.sn 4 1 w.d.waits.length) (.sn 3 2 w.d.asks.length) (.sn 31 3 w.out.length)],.seq true 4 w.d.waits.length (CM w.d.waits),.seq true 3 w.d.asks.length (BY w.d.asks),.seq true 31 w.out.length (BP w.out),.arr true 15 [AJ w.d.rep],.seq true 4 nL FL]
def cZ(w:Ai)(nO:Nat)(FO:Nat->List AV)(nL:Nat)(FL:Nat->List AV):Heap:=[.arr true 44 [HF w (.sn 4 1 w.d.waits.length) (.sn 3 2 w.d.asks.length) (.sn 31 4 nO)],.seq true 4 w.d.waits.length (CM w.d.waits),.seq true 3 w.d.asks.length (BY w.d.asks),.dead,.seq true 31 nO FO,.arr true 15 [AJ w.d.rep],.seq true 4 nL FL]
def c6(w:Ai)(v:Au)(N m nL:Nat)(FL:Nat->List AV)(i:Int):Option (AV × Heap):=LP (eAn yY) (N+1) 4 UB (Cm 1 4) 0 [] m {fr:=aij w v 4 5 nL i,hp:=hAn w nL FL}
def QQ(w:Ai)(v:Au)(N m nO:Nat)(FO:Nat->List AV)(nL:Nat)(FL:Nat->List AV)(i:Int):Option (AV × Heap):=LP (eAn yY) (N+1) 4 UB (Cm 1 4) 0 [] m {fr:=aij w v 5 6 nL i,hp:=cZ w nO FO nL FL}
def avF(N:Nat)(w:Ai)(v:Au):CO 1 (eAn yY) (N+2) UB [AV.ptr 0 0 0,eV v] (Bo w)=c6 w v N (N+1) 0 (λ_=>[]) 0:=by kernel_rfl
def Ya(w:Ai)(x:C4)(s:Seen):List AV:=[.int .i64 6,.int .i64 w.d.rep.self.node,.int .i64 x.dst,.int .i64 0,.int .i64 0,.int .i64 w.d.rep.AQ,.int .i64 0,.int .i64 0,.int .i64 x.Ah,.int .i64 x.num,.int .i64 0,.int .i64 s.code,.bool s.IT,.bool false,.str [],.str s.res,.Al .f64 s.Ag.re s.Ag.im,.Al .f64 0 0,.int .i64 0,.str [],.str [],.str [],.bool false,.Ak,.Ak,.Ak,.Al .f64 0 0,.Al .f64 0 0,.int .i64 0,.Ak,.Ak]
def agO(N m:Nat)(w:Ai)(v:Au)(nL:Nat)(FL:Nat->List AV)(i:Int):c6 w v N (m+1) nL FL i =
 bif decide (i<(w.d.waits.length:Int))then rg i w.d.waits.length (bif i.toNat.blt w.d.waits.length then
  gC Ul (λp=>Fe p.1) MU [B7 w.d.rep.seen,.int .i64 (w.d.waits.getD i.toNat default).Ah] λy=>
  gC Dq V2 Dp [eV v,eV (w.d.waits.getD i.toNat default).Ag] λz=>
  bif AP z.1 z.2 then bif nL.ble nL then bif((nL+1)*40).ble 140737488355328&&(nL+1).ble 140737488355328 then c6 w v N m (nL+1) (BQ nL FL (.list [Cz (w.d.waits.getD i.toNat default)])) (Ao (i+1))else none else none
  else bif decide ((CA y.1 y.2).1.kind=5)then gC Dq V2 Dp [eV w.d.rep.tail.floor,eV (w.d.waits.getD i.toNat default).Ag] λu=>bif AP u.1 u.2 then bif nL.ble nL then bif((nL+1)*40).ble 140737488355328&&(nL+1).ble 140737488355328 then c6 w v N m (nL+1) (BQ nL FL (.list [Cz (w.d.waits.getD i.toNat default)])) (Ao (i+1))else none else none
   else bif w.out.length.ble w.out.length then bif((w.out.length+1)*392).ble 140737488355328&&(w.out.length+1).ble 140737488355328 then QQ w v N m (w.out.length+1) (BQ w.out.length (BP w.out) (.list [Ya w (w.d.waits.getD i.toNat default) (CA y.1 y.2).1])) nL FL (Ao (i+1))else none else none
  else bif w.out.length.ble w.out.length then bif((w.out.length+1)*392).ble 140737488355328&&(w.out.length+1).ble 140737488355328 then QQ w v N m (w.out.length+1) (BQ w.out.length (BP w.out) (.list [Ya w (w.d.waits.getD i.toNat default) (CA y.1 y.2).1])) nL FL (Ao (i+1))else none else none else none)
 else some (.Am [],Jo w nL FL w.d.asks.length (BY w.d.asks) w.out.length (BP w.out)):=by kernel_rfl
def agP(N m:Nat)(w:Ai)(v:Au)(nO:Nat)(FO:Nat->List AV)(nL:Nat)(FL:Nat->List AV)(i:Int):QQ w v N (m+1) nO FO nL FL i =
 bif decide (i<(w.d.waits.length:Int))then rg i w.d.waits.length (bif i.toNat.blt w.d.waits.length then
  gC Ul (λp=>Fe p.1) MU [B7 w.d.rep.seen,.int .i64 (w.d.waits.getD i.toNat default).Ah] λy=>
  gC Dq V2 Dp [eV v,eV (w.d.waits.getD i.toNat default).Ag] λz=>
  bif AP z.1 z.2 then bif nL.ble nL then bif((nL+1)*40).ble 140737488355328&&(nL+1).ble 140737488355328 then QQ w v N m nO FO (nL+1) (BQ nL FL (.list [Cz (w.d.waits.getD i.toNat default)])) (Ao (i+1))else none else none
  else bif decide ((CA y.1 y.2).1.kind=5)then gC Dq V2 Dp [eV w.d.rep.tail.floor,eV (w.d.waits.getD i.toNat default).Ag] λu=>bif AP u.1 u.2 then bif nL.ble nL then bif((nL+1)*40).ble 140737488355328&&(nL+1).ble 140737488355328 then QQ w v N m nO FO (nL+1) (BQ nL FL (.list [Cz (w.d.waits.getD i.toNat default)])) (Ao (i+1))else none else none
   else bif nO.ble nO then bif((nO+1)*392).ble 140737488355328&&(nO+1).ble 140737488355328 then QQ w v N m (nO+1) (BQ nO FO (.list [Ya w (w.d.waits.getD i.toNat default) (CA y.1 y.2).1])) nL FL (Ao (i+1))else none else none
  else bif nO.ble nO then bif((nO+1)*392).ble 140737488355328&&(nO+1).ble 140737488355328 then QQ w v N m (nO+1) (BQ nO FO (.list [Ya w (w.d.waits.getD i.toNat default) (CA y.1 y.2).1])) nL FL (Ao (i+1))else none else none else none)
 else some (.Am [],Jo w nL FL w.d.asks.length (BY w.d.asks) nO FO):=by kernel_rfl
def an2(w:Ai){n:Nat}{F G:Nat->List AV}{a:Nat}{A A':Nat->List AV}{b:Nat}{B:Nat->List AV}(hA:∀ i,i<a->CJ (A i) (A' i))(h:∀ i,i<n->CJ (F i) (G i)):HSub (Jo w a A b B n F) (Jo w a A' b B n G):=
 .cons (.refl _) (.cons (.refl _) (.cons (.refl _) (.cons (.refl _) (.cons (.seq true 4 a a A A' (Ar _) hA) (.cons (.refl _) (.cons (.seq true 31 n n F G (Ar _) h) .nil))))))
def Mr(w:Ai)(v:Au)(x:C4):Bool:=AP v x.Ag||(decide ((CA w.d.rep.seen x.Ah).1.kind=5)&&AP w.d.rep.tail.floor x.Ag)
def yZ(w:Ai)(x:C4):Ad:={Tv w x.dst x.Ah x.num (CA w.d.rep.seen x.Ah).1.code with has:=(CA w.d.rep.seen x.Ah).1.IT,val:=(CA w.d.rep.seen x.Ah).1.res,Ag:=(CA w.d.rep.seen x.Ah).1.Ag}
def acQ(w:Ai)(x:C4):CJ (Ya w x (CA w.d.rep.seen x.Ah).1) (Aq (yZ w x)):=Mo (by repeat' (first | exact trivial | exact FA | exact Br.refl _ | refine⟨?_,?_⟩))
def LC(w:Ai)(v:Au)(l:List C4):List C4:=l.filter (Mr w v)
def I6(w:Ai)(v:Au)(l:List C4):List Ad:=(l.filter λx=>!Mr w v x).map (yZ w)
def Xo(w:Ai)(v:Au):Ai:={w with d:={w.d with waits:=LC w v w.d.waits},out:=w.out++I6 w v w.d.waits}
def Yb(w:Ai)(v:Au):Prop:=Fe w.d.rep.seen/\AU v/\AU w.d.rep.tail.floor/\w.d.waits.length<=100000/\w.out.length<=1000000 /\ ∀ x ∈ w.d.waits,AU x.Ag
def Reads(n:Nat)(F:Nat->List AV)(l:List Ad):Prop:=n=l.length /\ ∀ j,j<n->CJ (F j) (BP l j)
def Reads.refl(l:List Ad):Reads l.length (BP l) l:=⟨rfl,λ_ _=>.refl _⟩
def Reads.app{n:Nat}{F:Nat->List AV}{l:List Ad}{cs:List AV}{x:Ad}(h:Reads n F l)(hx:CJ cs (Aq x)):Reads (n+1) (BQ n F (.list [cs])) (l++[x]):=by
 obtain⟨rfl,h⟩:=h;refine⟨by simp,λj hj=>?_⟩;by_cases hl:j<l.length
 ·rw[Tc hl];have:BP (l++[x]) j=BP l j:=by
   unfold BP;simp only[List.getD];rw[DY hl]
  rw[this];exact h j hl
 ·have:j=l.length:=by omega
  subst this;rw[Td (Ar _) (show l.length<l.length+1 by omega)];have:BP (l++[x]) l.length=Aq x:=by unfold BP;simp only[List.getD];rw[FC (Ar _),LN];rfl
  rw[this,LN];exact hx
def aU(n:Nat)(F:Nat->List AV)(l:List C4):Prop:=n=l.length /\ ∀ j,j<n->F j=CM l j
def aU.app{n:Nat}{F:Nat->List AV}{l:List C4}(h:aU n F l)(x:C4):aU (n+1) (BQ n F (.list [Cz x])) (l++[x]):=by
 obtain⟨rfl,h⟩:=h;refine⟨by simp,λj hj=>?_⟩;by_cases hl:j<l.length
 ·rw[Tc hl,h j hl];unfold CM;simp only[List.getD];rw[DY hl]
 ·have:j=l.length:=by omega
  subst this;rw[Td (Ar _) (show l.length<l.length+1 by omega)];unfold CM;simp only[List.getD];rw[FC (Ar _),LN];rfl
def aV(w:Ai)(W:List C4)(O:List Ad)(r:Option (AV × Heap)):Prop:=∃ a A n F,aU a A W/\Reads n F O/\r=some (.Am [],Jo w a A w.d.asks.length (BY w.d.asks) n F)
def avG(w:Ai)(v:Au)(h:Yb w v)(N:Nat):∀ (d i m:Nat) (L:List C4) (a:Nat) (A:Nat->List AV) (n:Nat) (F:Nat->List AV) (O:List Ad),i+d=w.d.waits.length->d<m->a<=i->aU a A L->Reads n F O->n<=1000000+i ->
  aV w (L++LC w v (w.d.waits.drop i)) (O++I6 w v (w.d.waits.drop i)) (QQ w v N m n F a A (i:Nat)):=by
 obtain⟨h1,h2,h3,h4,h5,h6⟩:=h;intro d
 induction d with
 | zero=>intro i m L a A n F O hi hm hL hW hR hn;obtain⟨m,rfl⟩:=B3 m (by omega);rw[agP,AN (by omega),Aj,Gj (by omega)];exact⟨a,A,n,F,by simpa [LC] using hW,by simpa [I6] using hR,rfl⟩
 | succ d ih=>
  intro i m L a A n F O hi hm hL hW hR hn;obtain⟨m,rfl⟩:=B3 m (by omega);have hil:i<w.d.waits.length:=by omega
  have hx:=h6 _ (De (z:=(default:C4)) hil);have hd:=drop_cons (z:=(default:C4)) hil;have hw:Ao ((i:Int)+1)=((i+1:Nat):Int):=Cs (by omega);generalize hX:w.d.waits.getD i default=x at *;have eE:Mr w v x=true->aV w (L++LC w v (w.d.waits.drop i)) (O++I6 w v (w.d.waits.drop i)) (QQ w v N m n F (a+1) (BQ a A (.list [Cz x])) ((i+1:Nat):Int)):=by intro he;have k:=ih (i+1) m (L++[x]) _ _ n F O (by omega) (by omega) (by omega) (hW.app x) hR (by omega);rw[hd];simpa [LC,I6,he] using k
  have eL:Mr w v x=false->aV w (L++LC w v (w.d.waits.drop i)) (O++I6 w v (w.d.waits.drop i)) (QQ w v N m (n+1) (BQ n F (.list [Ya w x (CA w.d.rep.seen x.Ah).1])) a A ((i+1:Nat):Int)):=by intro he;have k:=ih (i+1) m L a A _ _ _ (by omega) (by omega) (by omega) hW (hR.app (acQ w x)) (by omega);rw[hd];simpa [LC,I6,he] using k
  have t1:∀ {K:SI->Option (AV × Heap)},gC Ul (λp=>Fe p.1) MU [B7 w.d.rep.seen,.int .i64 x.Ah] K=K (w.d.rep.seen,x.Ah):=λ{K}=>gI h1;have t2:∀ {K:Au × Au->Option (AV × Heap)},gC Dq V2 Dp [eV v,eV x.Ag] K=K (v,x.Ag):=λ{K}=>Ik h2 hx;have t3:∀ {K:Au × Au->Option (AV × Heap)},gC Dq V2 Dp [eV w.d.rep.tail.floor,eV x.Ag] K=K (w.d.rep.tail.floor,x.Ag):=λ{K}=>Ik h3 hx;rw[agP,Ax (show((i:Nat):Int)<(w.d.waits.length:Int) by omega),Ae,B8 hil,BV,Cd hil,Ae,hX,t1,t2,hw,Bn (Ar a),Bn (show(a+1)*40<=140737488355328 by omega),Bn (show a+1<=140737488355328 by omega),Bn (Ar n),Bn (show(n+1)*392<=140737488355328 by omega),Bn (show n+1<=140737488355328 by omega)];dsimp only [Bool.and_true,cond_true];cases c1:AP v x.Ag with
  | true=>exact eE (by simp[Mr,c1])
  | false=>
   rw[Aj];cases c2:decide ((CA w.d.rep.seen x.Ah).1.kind=5)with
   | false=>exact eL (by simp[Mr,c1,c2])
   | true=>
    rw[Ae,t3];cases c3:AP w.d.rep.tail.floor x.Ag with
    | true=>exact eE (by simp[Mr,c1,c2,c3])
    | false=>exact eL (by simp[Mr,c1,c2,c3])
def avH(w:Ai)(v:Au)(h:Yb w v)(N:Nat):∀ (d i m:Nat) (L:List C4) (a:Nat) (A:Nat->List AV),i+d=w.d.waits.length->d<m->a<=i->aU a A L ->
  aV w (L++LC w v (w.d.waits.drop i)) (w.out++I6 w v (w.d.waits.drop i)) (c6 w v N m a A (i:Nat)):=by
 have hB:=avG w v h N;obtain⟨h1,h2,h3,h4,h5,h6⟩:=h;intro d
 induction d with
 | zero=>intro i m L a A hi hm hL hW;obtain⟨m,rfl⟩:=B3 m (by omega);rw[agO,AN (by omega),Aj,Gj (by omega)];exact⟨a,A,_,_,by simpa [LC] using hW,by simpa [I6] using Reads.refl w.out,rfl⟩
 | succ d ih=>
  intro i m L a A hi hm hL hW;obtain⟨m,rfl⟩:=B3 m (by omega);have hil:i<w.d.waits.length:=by omega
  have hx:=h6 _ (De (z:=(default:C4)) hil);have hd:=drop_cons (z:=(default:C4)) hil;have hw:Ao ((i:Int)+1)=((i+1:Nat):Int):=Cs (by omega);generalize hX:w.d.waits.getD i default=x at *;have eE:Mr w v x=true->aV w (L++LC w v (w.d.waits.drop i)) (w.out++I6 w v (w.d.waits.drop i)) (c6 w v N m (a+1) (BQ a A (.list [Cz x])) ((i+1:Nat):Int)):=by intro he;have k:=ih (i+1) m (L++[x]) _ _ (by omega) (by omega) (by omega) (hW.app x);rw[hd];simpa [LC,I6,he] using k
  have eL:Mr w v x=false->aV w (L++LC w v (w.d.waits.drop i)) (w.out++I6 w v (w.d.waits.drop i)) (QQ w v N m (w.out.length+1) (BQ w.out.length (BP w.out) (.list [Ya w x (CA w.d.rep.seen x.Ah).1])) a A ((i+1:Nat):Int)):=by intro he;have k:=hB d (i+1) m L a A _ _ _ (by omega) (by omega) (by omega) hW ((Reads.refl w.out).app (acQ w x)) (by omega);rw[hd];simpa [LC,I6,he] using k
  have t1:∀ {K:SI->Option (AV × Heap)},gC Ul (λp=>Fe p.1) MU [B7 w.d.rep.seen,.int .i64 x.Ah] K=K (w.d.rep.seen,x.Ah):=λ{K}=>gI h1;have t2:∀ {K:Au × Au->Option (AV × Heap)},gC Dq V2 Dp [eV v,eV x.Ag] K=K (v,x.Ag):=λ{K}=>Ik h2 hx;have t3:∀ {K:Au × Au->Option (AV × Heap)},gC Dq V2 Dp [eV w.d.rep.tail.floor,eV x.Ag] K=K (w.d.rep.tail.floor,x.Ag):=λ{K}=>Ik h3 hx;rw[agO,Ax (show((i:Nat):Int)<(w.d.waits.length:Int) by omega),Ae,B8 hil,BV,Cd hil,Ae,hX,t1,t2,hw,Bn (Ar a),Bn (show(a+1)*40<=140737488355328 by omega),Bn (show a+1<=140737488355328 by omega),Bn (Ar w.out.length),Bn (show(w.out.length+1)*392<=140737488355328 by omega),Bn (show w.out.length+1<=140737488355328 by omega)];dsimp only [Bool.and_true,cond_true];cases c1:AP v x.Ag with
  | true=>exact eE (by simp[Mr,c1])
  | false=>
   rw[Aj];cases c2:decide ((CA w.d.rep.seen x.Ah).1.kind=5)with
   | false=>exact eL (by simp[Mr,c1,c2])
   | true=>
    rw[Ae,t3];cases c3:AP w.d.rep.tail.floor x.Ag with
    | true=>exact eE (by simp[Mr,c1,c2,c3])
    | false=>exact eL (by simp[Mr,c1,c2,c3])
def aks(w:Ai)(v:Au)(h:Yb w v):At PG UB [.ptr 0 0 0,eV v] (Bo w) (.Am []) (BE (Xo w v))/\(Bo w).length<=(BE (Xo w v)).length:=by
 obtain⟨N,hN⟩:∃ N,N=200000:=⟨_,rfl⟩
 have h4:=h.2.2.2.1;obtain⟨a,A,n,F,hW,hR,e⟩:=avH w v h N w.d.waits.length 0 (N+1) [] 0 (λ_=>[]) (by omega) (by omega) (Bu _) ⟨rfl,λj hj=>absurd hj (C5 j)⟩;rw[Hf]at hR hW;rw[NO]at hW;have c:=Ds (ak mK (ak Np AR)) (c:=1) (n:=N+2) (by show 1<=4;omega) ((avF N w v).trans e);refine⟨?_,by show 4<=7;omega⟩;obtain⟨hn,hF⟩:=hR;obtain⟨ha,hA⟩:=hW;subst hn;subst ha;have hd:BE (Xo w v)=Jo w (LC w v w.d.waits).length (CM (LC w v w.d.waits)) w.d.asks.length (BY w.d.asks) (w.out++I6 w v w.d.waits).length (BP (w.out++I6 w v w.d.waits)):=by rw[fV];rfl
 rw[hd];exact c.1.KN (.refl _) (an2 w (λi hi=>by rw[hA i hi];exact .refl _) hF)
abbrev WV:=Ai × Au
def YN(a:List AV)(h:Heap):WV:=(Jb h,⟨(Ci a 1).1,(Ci a 1).2⟩)
def Wp(p:WV):List AV × Heap:=([.ptr 0 0 0,eV p.2],Bo p.1)
def ae3(p:WV):YN (Wp p).1 (Wp p).2=p:=Cv (Rt p.1) rfl
def adW:Af:=.EC UB YN (λp=>Yb p.1 p.2) Wp (λp=>(.Am [],BE (Xo p.1 p.2)))
def akt:adW.Ok PG:=Af.EL λp h=>aks p.1 p.2 h
def qX(l:List Af):Env:=Cw [(Rd,0,[0,1,4,5,21,22,23,1004]),(Rd,2,[0,1,5,35,36,37])] [(Rd,5),(S0,0),(SX,0)] [] l
def oZ:List Af:=[Lo,yO]
def hCn(w:Ai)(M:MC):Heap:=[.arr true 44 [HF w (.sn 4 1 w.d.waits.length) (.sn 3 2 w.d.asks.length) (.sn 31 3 w.out.length)],.seq true 4 w.d.waits.length (CM w.d.waits),.seq true 3 w.d.asks.length (BY w.d.asks),.seq true 31 w.out.length (BP w.out),.pmap true M.1 λk=>.int .i64 (M.2 k)]
def YP(w:Ai)(v:Au)(N m:Nat)(M:MC)(i:Int):Option (AV × Heap):=LP (qX oZ) N 4 Rd (Cm 1 4) 0 [] m {fr:=[(0,.ptr 0 0 0),(1,eV v),(4,AY w.d.rep.tail.log),(5,.mp 4),(21,AY w.d.rep.tail.log),(22,.int .i64 w.d.rep.tail.log.length),(23,.int .i64 i),(1004,.undef)],hp:=hCn w M}
def O9(w:Ai)(v:Au)(N m:Nat)(M:MC)(i:Int):Option (AV × Heap):=LP (qX oZ) N 4 Rd (Cm 1 4) 2 [] m {fr:=[(0,.ptr 0 0 0),(1,eV v),(5,.mp 4),(35,AY w.d.rep.tail.log),(36,.int .i64 w.d.rep.tail.log.length),(37,.int .i64 i)],hp:=hCn w M}
def Jc(w:Ai)(C:List AH):Ai:={w with d:={w.d with clean:=C}}
def avI(N:Nat)(w:Ai)(v:Au):CO 1 (qX oZ) (N+1) Rd [.ptr 0 0 0,eV v] (Bo w)=YP w v N N ([],λ_=>0) 0:=by kernel_rfl
def L0f(w:Ai)(v:Au)(N m:Nat)(ks:List An)(val:An->AV)(i:Int):Option (AV × Heap):=LP (qX oZ) N 4 Rd (Cm 1 4) 0 [] m {fr:=[(0,.ptr 0 0 0),(1,eV v),(4,AY w.d.rep.tail.log),(5,.mp 4),(21,AY w.d.rep.tail.log),(22,.int .i64 w.d.rep.tail.log.length),(23,.int .i64 i),(1004,.undef)],hp:=[.arr true 44 [HF w (.sn 4 1 w.d.waits.length) (.sn 3 2 w.d.asks.length) (.sn 31 3 w.out.length)],.seq true 4 w.d.waits.length (CM w.d.waits),.seq true 3 w.d.asks.length (BY w.d.asks),.seq true 31 w.out.length (BP w.out),.pmap true ks val]}
def as8(N m:Nat)(w:Ai)(v:Au)(M:MC)(i:Int):YP w v N (m+1) M i =
 bif decide (i<(w.d.rep.tail.log.length:Int))then rg i w.d.rep.tail.log.length (bif(w.d.rep.tail.log.getD i.toNat default).write then L0f w v N m (Ic M.1 (w.d.rep.tail.log.getD i.toNat default).key) (λx=>bif A5 x (w.d.rep.tail.log.getD i.toNat default).key then .int .i64 i else .int .i64 (M.2 x)) (Ao (i+1))else YP w v N m M (Ao (i+1)))
 else O9 w v N N M 0:=by kernel_rfl
def agQ(N m:Nat)(w:Ai)(v:Au)(M:MC)(i:Int):YP w v N (m+1) M i =
 bif decide (i<(w.d.rep.tail.log.length:Int))then rg i w.d.rep.tail.log.length (bif(w.d.rep.tail.log.getD i.toNat default).write then YP w v N m (Ic M.1 (w.d.rep.tail.log.getD i.toNat default).key,EG M.2 (w.d.rep.tail.log.getD i.toNat default).key i) (Ao (i+1))else YP w v N m M (Ao (i+1)))
 else O9 w v N N M 0:=by
 rw[as8];have:∀ (k:An) (j:Int),(λx=>bif A5 x k then AV.int .i64 j else .int .i64 (M.2 x))=λx=>AV.int .i64 (EG M.2 k j x):=λk j=>by funext x;unfold EG;cases A5 x k <;> rfl
 rw[this];rfl
def FF(e:Entry):AH:=⟨e.key,bif !e.del then e.val else [],!e.del,e.Ag⟩
def gQ(w:Ai)(v:Au)(N m:Nat)(M:MC)(e:Entry)(i:Int):Option (AV × Heap):=
 bif !e.del then gC (λa=>(Bm Da (a.getD 0 .Ak),Da (Bd a 1),AS a 2)) OS Vy [Bi w.d.clean,.agg [.str e.key,.str e.val,.bool !e.del,.Al .f64 e.Ag.re e.Ag.im],.int .i64 w.c.room] λy=>O9 (Jc w (GC y)) v N m M i
 else gC (λa=>(Bm Da (a.getD 0 .Ak),Da (Bd a 1),AS a 2)) OS Vy [Bi w.d.clean,.agg [.str e.key,.str [],.bool !e.del,.Al .f64 e.Ag.re e.Ag.im],.int .i64 w.c.room] λy=>O9 (Jc w (GC y)) v N m M i
def agR(N m:Nat)(w:Ai)(v:Au)(M:MC)(i:Int):O9 w v N (m+1) M i =
 bif decide (i<(w.d.rep.tail.log.length:Int))then rg i w.d.rep.tail.log.length (gC Dq V2 Dp [eV v,eV (w.d.rep.tail.log.getD i.toNat default).Ag] λy=>
  bif AP y.1 y.2 then some (.Am [],BE w)else
  bif !(w.d.rep.tail.log.getD i.toNat default).write then O9 w v N m M (Ao (i+1))else
  bif Ck (w.d.rep.tail.log.getD i.toNat default).key M.1 then bif !decide (M.2 (w.d.rep.tail.log.getD i.toNat default).key=i)then O9 w v N m M (Ao (i+1))else gQ w v N m M (w.d.rep.tail.log.getD i.toNat default) (Ao (i+1))
  else bif !decide (0=i)then O9 w v N m M (Ao (i+1))else gQ w v N m M (w.d.rep.tail.log.getD i.toNat default) (Ao (i+1)))
 else some (.Am [],BE w):=by kernel_rfl
def aW(M:MC)(i:Nat)(e:Entry):MC:=bif e.write then(Ic M.1 e.key,EG M.2 e.key (i:Int))else M
def Gf:List Entry->Nat->MC->MC
 | [],_,M=>M
 | e::r,i,M=>Gf r (i+1) (aW M i e)
def ah(M:MC)(i:Nat)(e:Entry):Bool:=e.write&&decide ((bif Ck e.key M.1 then M.2 e.key else 0)=(i:Int))
def PQ(room:Int)(M:MC)(i:Nat)(e:Entry)(C:List AH):List AH:=bif ah M i e then GC (C,FF e,room)else C
def PF(v:Au)(room:Int)(M:MC):List Entry->Nat->List AH->List AH
 | [],_,C=>C
 | e::r,i,C=>bif AP v e.Ag then C else PF v room M r (i+1) (PQ room M i e C)
def ae4(v:Au)(room:Int)(log:List Entry)(C:List AH):List AH:=PF v room (Gf log 0 ([],λ_=>0)) log 0 C
def Jv(w:Ai)(v:Au):Ai:=Jc w (ae4 v w.c.room w.d.rep.tail.log w.d.clean)
def iJ(w:Ai)(v:Au):Prop:=AU v/\(∀ e ∈ w.d.rep.tail.log,AU e.Ag/\Uk e)/\Nw w.d.clean/\w.d.clean.length+w.d.rep.tail.log.length<=9000
def as9(w:Ai)(v:Au)(hl:w.d.rep.tail.log.length<=9000)(N:Nat):∀ (d i m:Nat) (M:MC),i+d=w.d.rep.tail.log.length->d<m->YP w v N m M (i:Nat)=O9 w v N N (Gf (w.d.rep.tail.log.drop i) i M) ((0:Nat):Int):=by
 intro d
 induction d with
 | zero=>intro i m M hi hm;obtain⟨m,rfl⟩:=B3 m (by omega);rw[agQ,AN (by omega),Aj,Gj (by omega)];rfl
 | succ d ih=>
  intro i m M hi hm;obtain⟨m,rfl⟩:=B3 m (by omega);have hil:i<w.d.rep.tail.log.length:=by omega
  have hd:=drop_cons (z:=(default:Entry)) hil;have hw:Ao ((i:Int)+1)=((i+1:Nat):Int):=Cs (by omega);rw[agQ,Ax (show((i:Nat):Int)<(w.d.rep.tail.log.length:Int) by omega),Ae,B8 hil,BV,hw,hd];generalize w.d.rep.tail.log.getD i default=e;unfold Gf aW;cases Dc:e.write with
  | true=>exact ih (i+1) m _ (by omega) (by omega)
  | false=>exact ih (i+1) m M (by omega) (by omega)
def aqm{e:Entry}(h:Uk e):Ix (FF e):=by
 have h1:=h.1;have h2:=h.2;unfold FF Ix;dsimp only;cases e.del
 ·exact⟨h1,h2⟩
 ·exact⟨h1,Bu _⟩
def mN(p:LX):(GC p).length<=p.1.length+1:=by unfold GC;have:=acA p.2.2 (CX p.1 p.2.1.key++[p.2.1]);have:=Z0 p.1 p.2.1.key;simp at *;omega
def acR(room:Int):∀ l,∀ x ∈ R9 room l,x ∈ l
 | [],x,h=>h
 | y::r,x,h=>by
  unfold R9 at h;cases hc:decide (room<(FM (y::r):Int))with
  | true=>rw[hc]at h;exact JC _ (acR room r x h)
  | false=>rw[hc]at h;exact h
def uK(p:LX):∀ x ∈ GC p,x ∈ p.1\/x=p.2.1:=by
 intro x hx;have:=acR _ _ x hx;rcases Cp.1 this with h | h
 ·exact .inl (Gz.1 h).1
 ·exact .inr (by simpa using h)
def aqn{p:LX}(h:OS p):Nw (GC p):=by
 refine⟨?_,λx hx=>?_⟩
 ·have:=mN p;have:=h.2.2;omega
 ·rcases uK p x hx with h1 | h1
  ·exact h.1.2 x h1
  ·exact h1 ▸ h.2.1
def an3{w:Ai}{v:Au}{N m:Nat}{M:MC}{e:Entry}{i:Int}(h:OS (w.d.clean,FF e,w.c.room)):gQ w v N m M e i=O9 (Jc w (GC (w.d.clean,FF e,w.c.room))) v N m M i:=by
 have key:∀ (x:AH) {K:LX->Option (AV × Heap)},OS (w.d.clean,x,w.c.room)->gC (λa=>(Bm Da (a.getD 0 .Ak),Da (Bd a 1),AS a 2)) OS Vy [Bi w.d.clean,.agg [.str x.key,.str x.val,.bool x.has,.Al .f64 x.Ag.re x.Ag.im],.int .i64 w.c.room] K=K (w.d.clean,x,w.c.room):=
  λx {K} h=>Bj (w.d.clean,x,w.c.room) (Cv (Og w.d.clean) rfl) h (.refl _)
 unfold gQ;cases hd:e.del with
 | true=>
  have he:FF e=⟨e.key,[],false,e.Ag⟩:=by unfold FF;rw[hd];rfl
  rw[he]at h ⊢;rw[Dr,Aj,key ⟨e.key,[],false,e.Ag⟩ h]
 | false=>
  have he:FF e=⟨e.key,e.val,true,e.Ag⟩:=by unfold FF;rw[hd];rfl
  rw[he]at h ⊢;rw[EP,Ae,key ⟨e.key,e.val,true,e.Ag⟩ h]
def ata(v:Au)(hv:AU v)(N:Nat)(M:MC)(log:List Entry)(hg:∀ e ∈ log,AU e.Ag/\Uk e)(h9:log.length<=9000)(room:Int):∀ (d i m:Nat) (w:Ai),w.d.rep.tail.log=log->w.c.room=room->Nw w.d.clean->w.d.clean.length+d<=9000->i+d=log.length->d<m ->
  O9 w v N m M (i:Nat)=some (.Am [],BE (Jc w (PF v room M (log.drop i) i w.d.clean))):=by
 intro d
 induction d with
 | zero=>intro i m w hL hR hC hn hi hm;obtain⟨m,rfl⟩:=B3 m (by omega);rw[agR,hL,AN (by omega),Aj,Gj (by omega)];rfl
 | succ d ih=>
  intro i m w hL hR hC hn hi hm;obtain⟨m,rfl⟩:=B3 m (by omega);have hil:i<log.length:=by omega
  have hd:=drop_cons (z:=(default:Entry)) hil;have hw:Ao ((i:Int)+1)=((i+1:Nat):Int):=Cs (by omega);obtain⟨g1,g2⟩:=hg _ (De (z:=(default:Entry)) hil);rw[agR,hL,Ax (show((i:Nat):Int)<(log.length:Int) by omega),Ae,B8 hil,BV,hw,hd];generalize log.getD i default=e at *;have t2:∀ {K:Au × Au->Option (AV × Heap)},gC Dq V2 Dp [eV v,eV e.Ag] K=K (v,e.Ag):=λ{K}=>Ik hv g1;rw[t2];unfold PF;dsimp only;cases c1:AP v e.Ag with
  | true=>rfl
  | false=>
   rw[Aj,Aj];have skip:ah M i e=false->O9 w v N m M ((i+1:Nat):Int)=some (.Am [],BE (Jc w (PF v room M (log.drop (i+1)) (i+1) (PQ room M i e w.d.clean)))):=by intro h;unfold PQ;rw[h,Aj];exact ih (i+1) m w hL hR hC (by omega) (by omega) (by omega)
   have put:ah M i e=true->gQ w v N m M e ((i+1:Nat):Int)=some (.Am [],BE (Jc w (PF v room M (log.drop (i+1)) (i+1) (PQ room M i e w.d.clean)))):=by
    intro h;have hp:OS (w.d.clean,FF e,w.c.room):=⟨hC,aqm g2,by show w.d.clean.length<=10000;omega⟩
    have hl:=mN (w.d.clean,FF e,w.c.room);unfold PQ;rw[h,Ae,an3 hp,hR];rw[hR]at hp hl;exact ih (i+1) m (Jc w (GC (w.d.clean,FF e,room))) hL hR (aqn hp) (by show(GC (w.d.clean,FF e,room)).length+d<=9000;simp only at hl;omega) (by omega) (by omega)
   unfold ah at skip put;cases c2:e.write with
   | false=>exact skip (by rw[c2];rfl)
   | true=>
    rw[c2]at skip put;rw[Dr,Aj];cases c3:Ck e.key M.1 with
    | true=>
     rw[c3]at skip put;rw[Ae];cases c4:decide (M.2 e.key=(i:Int))with
     | true=>exact put (by rw[Ae,c4];rfl)
     | false=>exact skip (by rw[Ae,c4];rfl)
    | false=>
     rw[c3]at skip put;rw[Aj];cases c4:decide ((0:Int)=(i:Int))with
     | true=>exact put (by rw[Aj,c4];rfl)
     | false=>exact skip (by rw[Aj,c4];rfl)
def alT(w:Ai)(v:Au)(h:iJ w v):At PG Rd [.ptr 0 0 0,eV v] (Bo w) (.Am []) (BE (Jv w v))/\(Bo w).length<=(BE (Jv w v)).length:=by
 obtain⟨N,hN⟩:∃ N,N=200000:=⟨_,rfl⟩
 obtain⟨h1,h2,h3,h4⟩:=h;have e1:=as9 w v (by omega) N w.d.rep.tail.log.length 0 N ([],λ_=>0) (by omega) (by omega);have e2:=ata v h1 N (Gf (w.d.rep.tail.log.drop 0) 0 ([],λ_=>0)) w.d.rep.tail.log h2 (by omega) w.c.room w.d.rep.tail.log.length 0 N w rfl rfl h3 h4 (by omega) (by omega);have e:=(avI N w v).trans (e1.trans e2);rw[Hf]at e;exact Ds (ak Np (ak adQ AR)) (c:=1) (n:=N+1) (by show 1<=4;omega) e
def ae5:Af:=.EC Rd YN (λp=>iJ p.1 p.2) Wp (λp=>(.Am [],BE (Jv p.1 p.2)))
def alU:ae5.Ok PG:=Af.EL λp h=>alT p.1 p.2 h
end Go.Hd
end
