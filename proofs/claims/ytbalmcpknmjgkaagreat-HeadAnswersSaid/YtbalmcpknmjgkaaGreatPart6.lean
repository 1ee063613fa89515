/- Part 6 of the texts that the proof needs: the abstract machine, plain laws, contracts of the program's functions. No statement is claimed here. -/
import Derived.Test.YtbalmcpknmjgkaaGreatPart5
set_option linter.unusedVariables false
set_option linter.unusedSimpArgs false
noncomputable section
open Go Go.AM Go.Md
namespace Go.Hd
open Go.Wk
set_option maxRecDepth 100000
set_option maxHeartbeats 400000
def eHA(l:List Known):Env:=BU [(BC,0,[3,5]),(BC,2,[3,5,6,7,9]),(BC,4,[3,5,6,12])] [(CO,0),(C9,0),(C1,0),(DR,0),(Du,0)] [] l
theorem alV:Am (eFn []) 9 Du []=some (.agg (Cp K1)):=by kernel_rfl
def pM:Known:=.one Du [] (.agg (Cp K1))
theorem acL:pM.Ok PG:=Known.one_ok (BN AL alV)
def pN:Known:=.one CO [] (.bool true)
def pP(l:List HStp)(P:Play)(b:Bool):Known:=.one C9 [GL l] (acG P b)
def Ho(l:List HStp)(P:Play)(b:Bool):List Known:=[pN,pP l P b,cK P,pL,pM]
def cL(P:Play)(i:Int):St:={fr:=[(3,.ptr 0 0 0),(5,.int .i64 i)],hp:=[.arr true 33 [Jr P]]}
def kI(P:Play)(i:Int)(a:Msg)(o:Md.Op)(k:Int):St:={fr:=[(3,.ptr 0 0 0),(5,.int .i64 i),(6,.ptr 1 0 0),(7,.ptr 2 0 0),(9,.int .i64 k)],hp:=[.arr true 33 [Jr P],.arr true 31 [Ac a],.arr true 5 [Gc o]]}
def kJ(P:Play)(i:Int)(a:Msg)(k:Int):St:={fr:=[(3,.ptr 0 0 0),(5,.int .i64 i),(6,.ptr 1 0 0),(12,.int .i64 k)],hp:=[.arr true 33 [Jr P],.arr true 31 [Ac a]]}
def cM(kn:List Known)(N m:Nat)(s:St):Option AV:=LP (eHA kn) N 0 BC Bp 0 [] m s
def kK(kn:List Known)(N m q:Nat)(s:St):Option AV:=LP (eHA kn) N 0 BC Bp 2 [m] q s
def kL(kn:List Known)(N m q:Nat)(s:St):Option AV:=LP (eHA kn) N 0 BC Bp 4 [m] q s
def pQ(A:List AV)(K:Option AV):Option AV:=gC (fun _=>()) (fun _=>True) (fun _=>A) A fun _=>K
theorem alW(kn:List Known)(N:Nat)(l:List HStp)(P:Play)(b:Bool):Am (eHA (pN::pP l P b::kn)) (N+1) BC [GL l] =
 pQ [] (pQ [GL l] (bif !b then some (.bool true)else cM (pN::pP l P b::kn) N N (cL P 0))):=by kernel_rfl
def ajA(P:Play)(s n:Int)(K:Int × Int->Option AV):Option AV:=gC (fun a=>(Aq a 1,Aq a 2)) (fun _:Int × Int=>P.ops.length<=600000) (fun x=>[.agg (Jr P),.int .i64 x.1,.int .i64 x.2]) [.agg (Jr P),.int .i64 s,.int .i64 n] K
theorem ajB(l:List HStp)(P:Play)(b:Bool)(N m:Nat)(i:Int):cM (Ho l P b) N (m+1) (cL P i) =
 bif decide (i<(P.said.length:Int))then rg i P.said.length (ajA P (P.said.getD i.toNat default).sess (P.said.getD i.toNat default).num fun y=>
  bif !(NR P.ops y.1 y.2).2 then I9 else bif !decide ((P.said.getD i.toNat default).dst=IntKind.i64.wrap (100+(P.said.getD i.toNat default).sess))then I9 else kK (Ho l P b) N m N (kI P i (P.said.getD i.toNat default) (NR P.ops y.1 y.2).1 0))
 else some (.bool true):=by kernel_rfl
def neB(a b:Bool):Bool:=!(bif a then b else !b)
def gCk(o:Md.Op)(K:OC->Option AV):Option AV:=gC (fun a=>(Mi (Ay a 0),HO (Ay a 1))) (fun _=>True) Uq [.agg (Gc o),.agg (Cp K1)] K
theorem ajC(l:List HStp)(P:Play)(b:Bool)(N m q:Nat)(i:Int)(a:Msg)(o:Md.Op)(k:Int):kK (Ho l P b) N m (q+1) (kI P i a o k) =
 bif decide (k<i)then rg k P.said.length (bif decide ((P.said.getD k.toNat default).sess=a.sess)then bif decide ((P.said.getD k.toNat default).num=a.num)then
   bif !decide ((P.said.getD k.toNat default).code=a.code)then I9 else bif !Ah (P.said.getD k.toNat default).val a.val then I9 else bif neB (P.said.getD k.toNat default).has a.has then I9 else bif !XD (P.said.getD k.toNat default).ver a.ver then I9 else kK (Ho l P b) N m q (kI P i a o (IntKind.i64.wrap (k+1)))
   else kK (Ho l P b) N m q (kI P i a o (IntKind.i64.wrap (k+1)))else kK (Ho l P b) N m q (kI P i a o (IntKind.i64.wrap (k+1))))
 else pQ [] (gCk o fun y=>bif !decide (Cb y.1 y.2=0)then bif !decide (a.code=Cb y.1 y.2)then I9 else cM (Ho l P b) N m (cL P (IntKind.i64.wrap (i+1)))else kL (Ho l P b) N m N (kJ P i a 0)):=by kernel_rfl
theorem ajD(l:List HStp)(P:Play)(b:Bool)(N m q:Nat)(i:Int)(a:Msg)(k:Int):kL (Ho l P b) N m (q+1) (kJ P i a k) =
 bif decide (k<(P.log.length:Int))then rg k P.log.length (bif decide ((P.log.getD k.toNat default).sess=a.sess)then bif decide ((P.log.getD k.toNat default).num=a.num)then
   bif !decide ((P.log.getD k.toNat default).code=a.code)then I9 else bif !Ah (P.log.getD k.toNat default).res a.val then I9 else bif neB (P.log.getD k.toNat default).hasRes a.has then I9 else bif !XD (P.log.getD k.toNat default).ver a.ver then I9 else kL (Ho l P b) N m q (kJ P i a (IntKind.i64.wrap (k+1)))
   else kL (Ho l P b) N m q (kJ P i a (IntKind.i64.wrap (k+1)))else kL (Ho l P b) N m q (kJ P i a (IntKind.i64.wrap (k+1))))
 else cM (Ho l P b) N m (cL P (IntKind.i64.wrap (i+1))):=by kernel_rfl
theorem acM(a:Bool):neB a a=false:=by cases a <;> rfl
theorem acN{A:List AV}{K:Option AV}:pQ A K=K:=Aw () rfl trivial (.refl _)
theorem ajE(haw:Aa PG CO [] [] (.bool true) [])(l:List HStp)(hl:∀ s ∈ l,PZ s):Aa PG BC [GL l] [] (.bool true) []:=by
 obtain⟨P,b,j,hj,⟨A,H,f,h⟩,hc⟩:=agw l hl
 obtain⟨s1,s2,s3,s4,s5⟩:=h.sz
 have ho:=h.ds.ops
 have hh:=h.ds.h
 obtain⟨N,hN⟩:∃ N,N=1000000:=⟨_,rfl⟩
 have tr:∀ {a c:Int} {X Y:Option AV},a=c->(bif !decide (a=c)then X else Y)=Y:=fun {a c X Y} e=>by rw[decide_eq_true e];rfl
 have ts:∀ {a c:Txt} {X Y:Option AV},a=c->(bif !Ah a c then X else Y)=Y:=fun {a c X Y} e=>by rw[KG.2 e];rfl
 have tb:∀ {a c:Bool} {X Y:Option AV},a=c->(bif neB a c then X else Y)=Y:=fun {a c X Y} e=>by rw[e,acM];rfl
 have tv:∀ {a c:Ver} {X Y:Option AV},a=c->At c->(bif !XD a c then X else Y)=Y:=fun {a c X Y} e hv=>by rw[e,acJ hv];rfl
 have aba:∀ (m i:Nat) (a:Msg),HW (cx A P.ops P.d) H a->(∀ e ∈ H,e.sess=a.sess->e.num=a.num->e.code=a.code/\e.res=a.val/\e.hasRes=a.has/\e.ver=a.ver) -> ∀ k q x,x+k=P.log.length->k<q->kL (Ho l P b) N m q (kJ P (i:Nat) a (x:Nat))=cM (Ho l P b) N m (cL P (IntKind.i64.wrap ((i:Int)+1))):=by
  intro m i a ha hlog k
  induction k with
  | zero=>
   intro q x hx hq
   obtain⟨q,rfl⟩:∃ k,q=k+1:=⟨q - 1,by omega⟩
   rw[ajD,decide_eq_false (by omega),cond_false]
  | succ k ih=>
   intro q x hx hq
   obtain⟨q,rfl⟩:∃ k,q=k+1:=⟨q - 1,by omega⟩
   have hil:x<P.log.length:=by omega
   have hw:IntKind.i64.wrap ((x:Int)+1)=((x+1:Nat):Int):=Bv (by omega)
   have hm:=h.log _ (getD_mem (z:=(default:Entry)) hil)
   have e:=ih q (x+1) (by omega) (by omega)
   rw[ajD,decide_eq_true (show((x:Nat):Int)<(P.log.length:Int) by omega),cond_true,Bi hil,Int.toNat_natCast,hw,e]
   by_cases h1:(P.log.getD x default).sess=a.sess
   ·rw[decide_eq_true h1,cond_true]
    by_cases h2:(P.log.getD x default).num=a.num
    ·rw[decide_eq_true h2,cond_true]
     obtain⟨g1,g2,g3,g4⟩:=hlog _ hm h1 h2
     rw[tr g1,ts g2,tb g3,tv g4 (jZ ha hh)]
    ·rw[decide_eq_false h2,cond_false]
   ·rw[decide_eq_false h1,cond_false]
 have Rc:∀ (m i:Nat) (a:Msg) (o:Md.Op),i<=P.said.length->HW (cx A P.ops P.d) H a->(Cb o K1 ≠ 0->a.code=Cb o K1)->(Cb o K1=0 -> ∀ e ∈ H,e.sess=a.sess->e.num=a.num->e.code=a.code/\e.res=a.val/\e.hasRes=a.has/\e.ver=a.ver) ->
   ∀ k q x,x+k=i->k<q->kK (Ho l P b) N m q (kI P (i:Nat) a o (x:Nat))=cM (Ho l P b) N m (cL P (IntKind.i64.wrap ((i:Int)+1))):=by
  intro m i a o hi ha hck hlog k
  induction k with
  | zero=>
   intro q x hx hq
   obtain⟨q,rfl⟩:∃ k,q=k+1:=⟨q - 1,by omega⟩
   have qc:∀ {K:OC->Option AV},gCk o K=K (o,K1):=fun {K}=>Aw ((o,K1):OC) (Prod.ext (qW o) (N2 K1)) trivial (.refl _)
   rw[ajC,decide_eq_false (by omega),cond_false,acN,qc]
   dsimp only
   by_cases h0:Cb o K1=0
   ·rw[decide_eq_true h0,Bool.not_true,cond_false]
    exact aba m i a ha (hlog h0) P.log.length N 0 (by omega) (by omega)
   ·rw[decide_eq_false h0,Bool.not_false,cond_true]
    exact tr (hck h0)
  | succ k ih=>
   intro q x hx hq
   obtain⟨q,rfl⟩:∃ k,q=k+1:=⟨q - 1,by omega⟩
   have hil:x<P.said.length:=by omega
   have hw:IntKind.i64.wrap ((x:Int)+1)=((x+1:Nat):Int):=Bv (by omega)
   have e:=ih q (x+1) (by omega) (by omega)
   have hb:=h.said _ (getD_mem (z:=(default:Msg)) hil)
   rw[ajC,decide_eq_true (show((x:Nat):Int)<(i:Int) by omega),cond_true,Bi hil,Int.toNat_natCast,hw,e]
   by_cases h1:(P.said.getD x default).sess=a.sess
   ·rw[decide_eq_true h1,cond_true]
    by_cases h2:(P.said.getD x default).num=a.num
    ·rw[decide_eq_true h2,cond_true]
     obtain⟨g1,g2,g3,g4⟩:=acA ha hb h1 h2 ho hh
     rw[tr g1,ts g2,tb g3,tv g4 (jZ ha hh)]
    ·rw[decide_eq_false h2,cond_false]
   ·rw[decide_eq_false h1,cond_false]
 have abc:∀ k i m,i+k=P.said.length->k<m->cM (Ho l P b) N m (cL P (i:Nat))=some (.bool true):=by
  intro k
  induction k with
  | zero=>
   intro i m hi hm
   obtain⟨m,rfl⟩:∃ k,m=k+1:=⟨m - 1,by omega⟩
   rw[ajB,decide_eq_false (by omega),cond_false]
  | succ k ih=>
   intro i m hi hm
   obtain⟨m,rfl⟩:∃ k,m=k+1:=⟨m - 1,by omega⟩
   have hil:i<P.said.length:=by omega
   have hw:IntKind.i64.wrap ((i:Int)+1)=((i+1:Nat):Int):=Bv (by omega)
   have ha:=h.said _ (getD_mem (z:=(default:Msg)) hil)
   obtain⟨a,hae⟩:∃ a,P.said.getD i default=a:=⟨_,rfl⟩
   rw[hae]at ha
   obtain⟨p,p1,p2,p3⟩:=ajl ha ho
   have p1:cC P.ops a.sess a.num=some p:=p1
   have hf:NR P.ops a.sess a.num=(p.op,true):=by unfold NR;rw[p1]
   have qf:∀ {K:Int × Int->Option AV},ajA P a.sess a.num K=K (a.sess,a.num):=fun {K}=>Aw ((a.sess,a.num):Int × Int) rfl (by omega) (.refl _)
   have hd:a.dst=IntKind.i64.wrap (100+a.sess):=by
    obtain⟨y,y1,y2,_⟩:=ha.of
    have:=(ho.op y y1).sess
    have h1:=ha.dst
    rw[IntKind.wrap_i64];omega
   rw[ajB,decide_eq_true (show((i:Nat):Int)<(P.said.length:Int) by omega),cond_true,Bi hil,Int.toNat_natCast,hae,qf]
   dsimp only
   rw[hf,tr hd]
   refine(Rc m i a p.op (by omega) ha p2 (fun h0 e he=>p3 h0 e he hh) i N 0 (by omega) (by omega)).trans ?_
   rw[hw]
   exact ih (i+1) m (by omega) (by omega)
 have e:=alW [cK P,pL,pM] N l P b
 rw[acN,acN]at e
 refine BN (l:=Ho l P b) (ak (Known.one_ok haw) (ak (Known.one_ok hc) (ak (yW P) (ak acI (ak acL AL))))) (n:=N+1) (e.trans ?_)
 cases b with
 | false=>rw[Bool.not_false,cond_true]
 | true=>
  rw[Bool.not_true,cond_false]
  exact abc P.said.length 0 N (by omega) (by omega)
end Go.Hd
end
noncomputable section
open Go Go.AM Go.Md
namespace Go.Hd
open Go.Wk
set_option maxRecDepth 100000
def Wa(S:TypeId->List AV->Prop):List TypeId->List AV->Prop
 | [],cs=>cs=[]
 | t::r,cs=>∃ a b,cs=a++b/\S t a/\Wa S r b
theorem aef{S:TypeId->List AV->Prop}:∀ {l:List Field} {cs:List AV},R1 S l cs->Wa S (l.map (·.type)) cs
 | [],_,h=>h
 | f::r,_,⟨a,b,h1,h2,h3⟩=>⟨a,b,h1,h2,aef h3⟩
def sFs:Option TypeDesc->Option (List TypeId)
 | some (.struct fs)=>some (fs.toList.map (·.type))
 | _=>none
theorem kM{n:Nat}{t:TypeId}{ts:List TypeId}{cs:List AV}(hu:sFs (PG.underlying t)=some ts)(h:Shape PG (n+1) t cs):Wa (Shape PG n) ts cs:=by
 unfold Shape at h
 unfold sFs at hu
 split at hu
 ·rename_i fs e
  rw[e]at h
  injection hu with hu
  rw[<- hu]
  exact aef h
 ·cases hu
theorem agC{n:Nat}{cs:List AV}(h:Shape PG (n+1) 3 cs):∃ i,cs=[.int .i64 i]/\GP i:=by
 have hu:PG.underlying 3=some (.int .i64):=by kernel_rfl
 unfold Shape at h
 rw[hu]at h
 obtain⟨i,h1,h2,h3⟩:=h
 have e1:IntKind.i64.min = -9223372036854775808:=by decide
 have e2:IntKind.i64.max=9223372036854775807:=by decide
 rw[e1]at h2;rw[e2]at h3
 exact⟨i,h1,h2,h3⟩
theorem Wb{n:Nat}{cs:List AV}(h:Shape PG (n+1) 5 cs):∃ i,cs=[.int .u8 i]/\0<=i/\i<=255:=by
 have hu:PG.underlying 5=some (.int .u8):=by kernel_rfl
 unfold Shape at h
 rw[hu]at h
 obtain⟨i,h1,h2,h3⟩:=h
 have e1:IntKind.u8.min=0:=by decide
 have e2:IntKind.u8.max=255:=by decide
 rw[e1]at h2;rw[e2]at h3
 exact⟨i,h1,h2,h3⟩
theorem agD{n:Nat}{cs:List AV}(h:Shape PG (n+1) 4 cs):∃ b,cs=[.bool b]:=by
 have hu:PG.underlying 4=some .bool:=by kernel_rfl
 unfold Shape at h
 rw[hu]at h
 exact h
theorem Wc{n:Nat}{cs:List AV}(h:Shape PG (n+1) 9 cs):∃ s,cs=[.str s]:=by
 have hu:PG.underlying 9=some .string:=by kernel_rfl
 unfold Shape at h
 rw[hu]at h
 obtain⟨s,h1,_⟩:=h
 exact⟨s,h1⟩
theorem yX{X:Type}{z:X}{e:X->List AV}{Q:X->Prop}{m:Nat}{f:Nat->List AV}(h:∀ i,i<m -> ∃ x,Ch (f i) (e x)/\Q x):∃ l:List X,l.length=m/\(∀ i,i<m->Ch (f i) (e (l.getD i z))) /\ ∀ x ∈ l,Q x:=by
 induction m with
 | zero=>exact⟨[],rfl,fun i hi=>by omega,fun x hx=>by cases hx⟩
 | succ m ih=>
  obtain⟨l,h1,h2,h3⟩:=ih fun i hi=>h i (by omega)
  obtain⟨x,hx,hq⟩:=h m (by omega)
  refine⟨l++[x],by simp[h1],fun i hi=>?_,fun y hy=>?_⟩
  ·by_cases hm:i<m
   ·have:(l++[x]).getD i z=l.getD i z:=by simp[List.getD,List.getElem?_append_left (by omega:i<l.length)]
    rw[this];exact h2 i hm
   ·have:i=m:=by omega
    subst this
    have:(l++[x]).getD i z=x:=by subst h1;simp[List.getD]
    rw[this];exact hx
  ·rcases List.mem_append.1 hy with hy | hy
   ·exact h3 y hy
   ·rw[List.mem_singleton.1 hy];exact hq
theorem agE{X:Type}{n sz:Nat}{t e:TypeId}{E:X->List AV}{z:X}{Q:X->Prop}{cs:List AV}(hu:PG.underlying t=some (.slice e))(hc:PG.cellsOf e=sz)(hx:∀ c,Shape PG n e c -> ∃ x,Ch c (E x)/\Q x)(h:Shape PG (n+1) t cs) :
  ∃ (c:AV) (l:List X),cs=[c]/\AR c (C8 sz E z l) /\ ∀ x ∈ l,Q x:=by
 obtain⟨c,m,f,rfl,h1,h2,h3⟩:=Shape.list hu h
 obtain⟨l,g1,g2,g3⟩:=yX (z:=z) fun i hi=>hx _ (h3 i hi)
 refine⟨c,l,rfl,h1.trans ?_,g3⟩
 rw[hc]
 subst g1
 exact .trs g2
theorem acO{n:Nat}{cs:List AV}(h:Shape PG (n+2) 53 cs):∃ o:Md.Op,cs=Gc o/\GP o.kind:=by
 obtain⟨c1,d1,rfl,h1,c2,d2,rfl,h2,c3,d3,rfl,h3,c4,d4,rfl,h4,c5,d5,rfl,h5,rfl⟩:=kM (ts:=[3,9,9,9,4]) (by kernel_rfl) h
 obtain⟨i,rfl,hi⟩:=agC h1
 obtain⟨a,rfl⟩:=Wc h2
 obtain⟨b,rfl⟩:=Wc h3
 obtain⟨c,rfl⟩:=Wc h4
 obtain⟨e,rfl⟩:=agD h5
 exact⟨⟨i,a,b,c,e⟩,rfl,hi⟩
theorem yY{n:Nat}{cs:List AV}(h:Shape PG (n+3) 80 cs):∃ s:HStp,Ch cs (K2 s)/\PZ s:=by
 obtain⟨c1,d1,rfl,h1,c2,d2,rfl,h2,c3,d3,rfl,h3,c4,d4,rfl,h4,rfl⟩:=kM (ts:=[5,5,5,53]) (by kernel_rfl) h
 obtain⟨a,rfl,ha⟩:=Wb h1
 obtain⟨b,rfl,hb⟩:=Wb h2
 obtain⟨c,rfl,hc⟩:=Wb h3
 obtain⟨o,rfl,ho⟩:=acO h4
 refine⟨⟨a,b,c,o⟩,?_,⟨ha,hb,hc,ho⟩⟩
 rw[List.append_nil];exact .refl _
theorem pR{avs:List AV}(h:lD PG 9 [22] avs):∃ l:List HStp,(∀ s ∈ l,PZ s)/\Ch avs [GL l]:=by
 obtain⟨av,r,hs,rfl,rfl⟩:=h
 obtain⟨c,l,rfl,h1,h2⟩:=agE (n:=8) (sz:=8) (t:=22) (e:=80) (E:=K2) (z:=default) (Q:=PZ) (by kernel_rfl) (by kernel_rfl) (fun c h=>yY (n:=5) h) hs
 have u:PG.underlying 22=some (.slice 80):=by kernel_rfl
 have e2:R2 PG 22 [c]=c:=by unfold R2;rw[u];rfl
 rw[e2]
 exact⟨l,h2,.cons h1 .nil⟩
theorem headAnswers_ok:agN PG 9 BC [22]:=by
 intro avs h
 obtain⟨l,h1,h2⟩:=pR h
 exact(ajE acK l h1).args h2
end Go.Hd
end
