/- Part 5 of the texts that the proof needs: the abstract machine, plain laws, contracts of the program's functions. No statement is claimed here. -/
import Derived.Test.YtbalmcpknmjgkaaGreatPart4
set_option linter.unusedVariables false
set_option linter.unusedSimpArgs false
set_option linter.defProp false
set_option maxRecDepth 100000
set_option maxHeartbeats 1000000
noncomputable section
section
open Go Go.AM Go.Md
namespace Go.Hd
open Go.Wk
section
structure Y0(q:Ad):Prop where
 kd:q.kind=5
 src:q.src=100+q.Ah
 dst:q.dst=2
 AQ:q.AQ=0
 gen:q.gen=0
 Ah:1<=q.Ah/\q.Ah<=3
 num:FJ q.num
 ms:K2 q
 kind:FJ q.op.kind
 key:tx q.op.key
 val:tx q.op.val
structure Tz(C:Ctx):Prop where
 op:∀ q ∈ C.ops,Y0 q
 fn:∀ q ∈ C.ops,∀ p ∈ C.ops,q.Ah=p.Ah->q.num=p.num->q.op=p.op
def aiz(x:Ad):Prop:=x.has=false/\x.val=[]/\x.Ag=⟨0,0⟩
structure OU(C:Ctx)(H:List Entry)(x:Ad):Prop where
 kd:x.kind=6
 dst:x.dst=100+x.Ah
 Je:x.entries=[]
 of:∃ q ∈ C.ops,q.Ah=x.Ah/\q.num=x.num/\((GM q.op K1 ≠ 0/\x.code=GM q.op K1/\aiz x) \/
  (GM q.op K1=0/\x.code=5/\aiz x/\30<=H.length /\ ∀ e ∈ H,e.Ah=x.Ah->e.num ≠ x.num) \/
  (GM q.op K1=0 /\ ∃ e ∈ H,e.Ah=x.Ah/\e.num=x.num/\x.code=e.code/\x.val=e.res/\x.has=e.IT/\x.Ag=e.Ag))
def Gr(H H':List Entry):Prop:=∃ K,H'=H++K
def Gr.refl(H:List Entry):Gr H H:=⟨[],by simp⟩
def Gr.trans{A B D:List Entry}(h:Gr A B)(h':Gr B D):Gr A D:=by obtain⟨k,rfl⟩:=h;obtain⟨l,rfl⟩:=h';exact⟨k++l,by simp⟩
def Gr.snoc(H:List Entry)(e:Entry):Gr H (H++[e]):=⟨[e],rfl⟩
def OU.grow{C:Ctx}{H H':List Entry}{x:Ad}(h:OU C H x)(hg:Gr H H')(hl:H'.length<=30):OU C H' x:=by
 obtain⟨K,rfl⟩:=hg;refine⟨h.kd,h.dst,h.Je,?_⟩;obtain⟨q,hq,hs,hn,ho⟩:=h.of;refine⟨q,hq,hs,hn,?_⟩;rcases ho with h1 | ⟨h1,h2,h3,h4,h5⟩ | ⟨h1,e,he,h2⟩
 ·exact .inl h1
 ·have:K=[]:=by
   rw[CB]at hl;exact List.eq_nil_of_length_eq_zero (by omega)
  subst this;rw[FY];exact .inr (.inl ⟨h1,h2,h3,h4,h5⟩)
 ·exact .inr (.inr ⟨h1,e,JD _ he,h2⟩)
structure XV(nx:Int)(x:Ad):Prop where
 kd:x.kind=17
 dst:x.dst=0
 AQ:x.AQ=0
 Az:x.Az=1
 KL:x.KL=1
 src:x.src=2
 Ag:x.Ag=⟨0,0⟩
 floor:x.floor=⟨0,0⟩
 Je:x.entries=[]
 num:1<=x.num/\x.num<=nx
 key:tx x.key
def XV.mono{n m:Int}{x:Ad}(h:XV n x)(hm:n<=m):XV m x:={h with num:=⟨h.num.1,by have:=h.num.2;omega⟩}
def TY(C:Ctx)(H:List Entry)(nx:Int)(x:Ad):Prop:=OU C H x\/XV nx x
def rL(H:List Entry)(x:C4):Prop:=x.dst=100+x.Ah /\ ∃ e,F5 H x.Ah=some e/\e.num=x.num/\x.Ag=e.Ag
structure pc(C:Ctx)(X:An->Prop)(L:List Entry)(nx:Int)(a:Md.Ask):Prop where
 num:1<=a.num/\a.num<=nx
 key:tx a.key
 len:a.calls.length<=8
 calls:∀ q ∈ a.calls,q ∈ C.ops/\q.op.key=a.key
 now:¬ X a.key->M5 L a.key
 Bc:C.n0<a.num\/C.Bc a.num a.key
structure DS(C:Ctx)(X:An->Prop)(B:Nat)(H:List Entry)(f:Nat)(d:Md.AL):Prop where
 ops:Tz C
 h:Fg C H
 rep:d.rep=DJ H f
 fl:f<=H.length
 log:H.length<=f+8
 ap:∀ e ∈ H.take f,e.write=true->Ap C e
 Kw:0<=d.AB.num/\d.AB.num<=B
 Gm:d.AB.out.length<=12 /\ ∀ e ∈ d.AB.out,e ∈ H/\e.write=true
 FB:d.AB.done.length<=B /\ ∀ x ∈ d.AB.done,∃ e ∈ H,e.write=true/\x=LU e/\Ap C e
 clean:d.clean.length<=B /\ ∀ x ∈ d.clean,Ix x/\Cl H x
 waits:d.waits.length<=B /\ ∀ x ∈ d.waits,rL H x
 asks:d.asks.length<=B
 keys:d.asks.Pairwise λa b=>a.key ≠ b.key
 ask:∀ a ∈ d.asks,pc C X (H.drop f) d.next a
 next:0<=d.next/\d.next<=B
 n0:C.n0<=d.next
 pu:SG C.p0 d.AB
def X0:An->Prop:=λ_=>False
structure WS(C:Ctx)(X:An->Prop)(B:Nat)(H:List Entry)(f:Nat)(w:Ai):Prop where
 d:DS C X B H f w.d
 c:w.c=K1
 out:w.out.length<=B
 said:∀ x ∈ w.out,TY C H w.d.next x
 DI:tx w.DI.key/\tx w.DI.val
variable {C:Ctx} {X:An->Prop} {B:Nat} {H:List Entry} {f:Nat}
def pc.mono{L:List Entry}{n m:Int}{a:Md.Ask}(h:pc C X L n a)(hm:n<=m):pc C X L m a:={h with num:=⟨h.num.1,by have:=h.num.2;omega⟩}
def DS.mono{D:Nat}{d:Md.AL}(h:DS C X B H f d)(hB:B<=D):DS C X D H f d:=
 {h with Kw:=⟨h.Kw.1,by have:=h.Kw.2;omega⟩,FB:=⟨by have:=h.FB.1;omega,h.FB.2⟩,clean:=⟨by have:=h.clean.1;omega,h.clean.2⟩,waits:=⟨by have:=h.waits.1;omega,h.waits.2⟩,asks:=by have:=h.asks;omega,next:=⟨h.next.1,by have:=h.next.2;omega⟩}
def WS.mono{D:Nat}{w:Ai}(h:WS C X B H f w)(hB:B<=D):WS C X D H f w:={h with d:=h.d.mono hB,out:=by have:=h.out;omega}
def TY.mono{n m:Int}{x:Ad}(h:TY C H n x)(hm:n<=m):TY C H m x:=h.imp id λh=>h.mono hm
def TY.grow{H':List Entry}{n:Int}{x:Ad}(h:TY C H n x)(hg:Gr H H')(hl:H'.length<=30):TY C H' n x:=h.imp (λh=>h.grow hg hl) id
def DS.OV{d:Md.AL}(h:DS C X B H f d):∀ e ∈ d.rep.tail.log,e ∈ H:=by rw[h.rep];exact λe he=>Qd he
def DS.Ti{d:Md.AL}(h:DS C X B H f d):d.rep.tail.log.length=H.length - f/\d.rep.tail.log.length<=8:=by rw[h.rep];have:=h.log;have e:(DJ H f).tail.log.length=H.length - f:=XC;rw[e];omega
def DS.last{d:Md.AL}(h:DS C X B H f d):d.rep.tail.last=v1 H.length/\AU d.rep.tail.last/\nu d.rep.tail.last=H.length:=by rw[h.rep];have:=h.h.len;exact⟨rfl,Ox (by omega),xX (by omega)⟩
def DS.head{d:Md.AL}(h:DS C X B H f d):CH d.rep=true:=by rw[h.rep];exact abQ H f
def DS.short{d:Md.AL}(h:DS C X B H f d):Hr d.rep:=by rw[h.rep];exact aa1 h.h f
def DS.kE{d:Md.AL}(h:DS C X B H f d):Fe d.rep.seen:=by rw[h.rep];exact h.h.se.ok
def DS.kr{d:Md.AL}(h:DS C X B H f d):Ir d.rep=v1 H.length:=by rw[h.rep];exact aov H f
def DS.es{d:Md.AL}(h:DS C X B H f d):MA d.rep.tail.log:=⟨by have:=h.Ti.2;omega,λe he=>⟨(h.h.Ho e (h.OV e he)).key,(h.h.Ho e (h.OV e he)).val⟩⟩
def vK(h:Fg C H)(f:Nat):Kj (DJ H f) where
 short:=aa1 h f
 ph:=.inr (.inr rfl)
 sync:=λe=>by cases e
 len:=by show 1<=4;omega
 B5:=Ox (by omega)
 log:=λe he=>h.num (Qd he)
def DS.ag{d:Md.AL}(h:DS C X B H f d):Kj d.rep:=by rw[h.rep];exact vK h.h f
def DS.find{d:Md.AL}(h:DS C X B H f d)(t:Int):CA d.rep.seen t=match F5 H t with | some e=>(GH e,true) | none=>(default,false):=by rw[h.rep];exact h.h.find t
def WS.fi{w:Ai}(h:WS C X B H f w)(hB:B<=9000):Qs w:=⟨by have:=h.d.Ti.2;omega,by have:=h.d.clean.1;omega⟩
def WS.refuse{w:Ai}(h:WS C X B H f w){m:Ad}{k:Int}(ha:OU C H (Tv w m.src m.Ah m.num k)):WS C X (B+1) H f (On w m k):=by
 have h0:=h.mono (Nat.le_succ B);refine {h0 with out:=?_,said:=λx hx=>?_}
 ·show(w.out++[_]).length<=B+1;have:=h.out;simp;omega
 ·rcases Cp.1 (show x ∈ w.out++[Tv w m.src m.Ah m.num k] from hx)with hx | hx
  ·exact h.said x hx
  ·rw[DO.1 hx];exact .inl ha
def amn{w:Ai}{m:Ad}(h:Tz C)(hm:m ∈ C.ops)(hc:GM m.op K1 ≠ 0):OU C H (Tv w m.src m.Ah m.num (GM m.op K1)):=
 ⟨rfl,(h.op m hm).src,rfl,m,hm,rfl,rfl,.inl ⟨hc,rfl,rfl,rfl,rfl⟩⟩
def aow{w:Ai}{m:Ad}(h:Tz C)(hm:m ∈ C.ops)(hc:GM m.op K1=0)(hl:30<=H.length)(hn:∀ e ∈ H,e.Ah=m.Ah->e.num ≠ m.num):OU C H (Tv w m.src m.Ah m.num 5):=
 ⟨rfl,(h.op m hm).src,rfl,m,hm,rfl,rfl,.inr (.inl ⟨hc,rfl,⟨rfl,rfl,rfl⟩,hl,hn⟩)⟩
def vL{w:Ai}(h:WS C X B H f w)(m:Ad):(Mv w m=0 /\ ∀ y,F5 H m.Ah=some y->y.num<m.num)\/(Mv w m=1 /\ ∃ y,F5 H m.Ah=some y/\y.num=m.num/\(CA w.d.rep.seen m.Ah).1.Ag=y.Ag)\/(Mv w m=2):=by
 have hf:=h.d.find m.Ah;unfold Mv P8;rw[hf];cases hl:F5 H m.Ah with
 | none=>exact .inl ⟨rfl,λy hy=>by cases hy⟩
 | some y=>
  dsimp only;have e:(GH y).num=y.num:=rfl;rw[Dr,Aj,e];by_cases h1:y.num<m.num
  ·rw[Ax h1,Ae];exact .inl ⟨rfl,λz hz=>by cases hz;exact h1⟩
  ·rw[AN h1,Aj];by_cases h2:m.num=y.num
   ·rw[Ax h2,Ae];exact .inr (.inl ⟨rfl,y,rfl,h2.symm,rfl⟩)
   ·rw[AN h2,Aj];exact .inr (.inr rfl)
def WS.wait{w:Ai}(h:WS C X B H f w){m:Ad}(hm:m ∈ C.ops){y:Entry}(hy:F5 H m.Ah=some y)(hn:y.num=m.num):WS C X (B+1) H f (I4 w y.Ag m):=by
 have h0:=h.mono (Nat.le_succ B);have hw:(I4 w y.Ag m).d.waits.length<=B+1 /\ ∀ x ∈ (I4 w y.Ag m).d.waits,rL H x:=by
  refine⟨?_,λx hx=>?_⟩
  ·have h1:=h.d.waits.1;have h2:=KS (λx=>!pW m x) w.d.waits;show((w.d.waits.filter λx=>!pW m x)++[_]).length<=B+1;rw[CB];simp only[FD];omega
  ·rcases Cp.1 (show x ∈ (w.d.waits.filter λx=>!pW m x)++[⟨y.Ag,m.src,m.Ah,m.num⟩] from hx)with hx | hx
   ·exact h.d.waits.2 x (Gz.1 hx).1
   ·rw[DO.1 hx];exact⟨(h.d.ops.op m hm).src,y,hy,hn,rfl⟩
 exact {h0 with d:={h0.d with waits:=hw}}
def WS.uS{w:Ai}(h:WS C X B H f w){L:List AH}(h1:L.length<=B)(h2:∀ x ∈ L,Ix x/\Cl H x):WS C X B H f (Jc w L):={h with d:={h.d with clean:=⟨h1,h2⟩}}
def WS.find{w:Ai}(h:WS C X B H f w)(k:An):WS C X (B+1) H f (B4 w k).2.2:=by
 have h0:=h.mono (Nat.le_succ B);unfold B4;cases (EY w.d.rep.tail k).2 with
 | true=>exact h0
 | false=>
  rw[Aj];cases w.Hu&&A5 w.DI.key k with
  | true=>exact h0
  | false=>
   rw[Aj];refine h0.uS ?_ λx hx=>?_
   ·show(F4 (w.d.clean,k)).2.1.length<=B+1;have h1:=h.d.clean.1;have h2:=Z0 w.d.clean k;unfold F4;dsimp only;split <;> simp <;> omega
   ·revert hx;show x ∈ (F4 (w.d.clean,k)).2.1->_;unfold F4;dsimp only;split
    ·rename_i y hy;intro hx;rcases Cp.1 hx with hx | hx
     ·exact h.d.clean.2 x (Gz.1 hx).1
     ·rw[DO.1 hx];exact h.d.clean.2 y (XY hy)
    ·exact λhx=>h.d.clean.2 x hx
def aox{k:An}{l:List Entry}{e:Entry}(h:Em l k=some e):e ∈ l:=(ad7 (H:=l) h).1
def WS.item{w:Ai}(h:WS C X B H f w)(k:An):tx (B4 w k).1.val:=by
 unfold B4;cases hv:(EY w.d.rep.tail k).2 with
 | true=>
  rw[Ae];show tx (EY w.d.rep.tail k).1.val;unfold EY;cases ho:Em w.d.rep.tail.log k with
  | none=>exact Bu _
  | some e=>
   have hm:e ∈ w.d.rep.tail.log:=aox ho;have:=(h.d.h.Ho e (h.d.OV e hm)).val;show tx (bif !e.del then e.val else []);cases e.del with
   | true=>exact Bu _
   | false=>exact this
 | false=>
  rw[Aj];cases w.Hu&&A5 w.DI.key k with
  | true=>exact h.DI.2
  | false=>
   rw[Aj];show tx (F4 (w.d.clean,k)).1.val;unfold F4;dsimp only;split
   ·rename_i y hy;exact(h.d.clean.2 y (XY hy)).1.2
   ·exact Bu _
def amo{w:Ai}(h:WS C X B H f w){k:An}(hf:(B4 w k).2.1=false):M5 (H.drop f) k:=by
 unfold B4 at hf;cases hv:(EY w.d.rep.tail k).2 with
 | true=>rw[hv]at hf;cases hf
 | false=>
  unfold EY at hv;rw[h.d.rep]at hv;unfold M5;cases ho:Em (H.drop f) k with
  | none=>rfl
  | some e=>have:(DJ H f).tail.log=H.drop f:=rfl;rw[this,ho]at hv;cases hv
def akF{w:Ai}{q:Ad}(h:bF w q=false):∀ a ∈ w.d.asks,a.key ≠ q.op.key:=by
 intro a ha hk;have:bF w q=true:=by unfold bF;exact List.any_eq_true.2 ⟨a,ha,by rw[DV];simpa using hk⟩
 rw[this]at h;cases h
def WS.ask{w:Ai}(h:WS C X B H f w){q:Ad}(hq:q ∈ C.ops)(CZ:M5 (H.drop f) q.op.key):WS C X (B+1) H f (VE w q):=by
 have k:=h.mono (Nat.le_succ B);unfold VE;cases hh:bF w q with
 | true=>exact k
 | false=>
  rw[Aj];have jl:=akF hh;have h1:=h.d.asks;have h2:=h.out;have h3:=h.d.next;have ho:=h.d.ops.op q hq;have O1:=h.d.n0;refine {k with d:={k.d with asks:=?_,keys:=?_,ask:=λa ha=>?_,next:=?_,n0:=by show C.n0<=w.d.next+1;omega},out:=?_,said:=λx hx=>?_}
  ·show(w.d.asks++[JO w q]).length<=B+1;simp;omega
  ·refine R1.2 ⟨h.d.keys,by simp,λa ha b hb=>?_⟩;rw[DO.1 hb];exact jl a ha
  ·rcases Cp.1 (show a ∈ w.d.asks++[JO w q] from ha)with ha | ha
   ·exact(h.d.ask a ha).mono (by show w.d.next<=w.d.next+1;omega)
   ·rw[DO.1 ha];exact⟨⟨by show 1<=w.d.next+1;omega,by show w.d.next+1<=w.d.next+1;omega⟩,ho.key,by simp[JO],λx hx=>by simp[JO]at hx;rw[hx];exact⟨hq,rfl⟩,λ_=>CZ,.inl (by show C.n0<w.d.next+1;omega)⟩
  ·show 0<=w.d.next+1/\w.d.next+1<=((B+1:Nat):Int);omega
  ·show(w.out++[_]).length<=B+1;simp;omega
  ·rcases Cp.1 (show x ∈ w.out++[KO (w.d.rep,JO w q)] from hx)with hx | hx
   ·exact(h.said x hx).mono (by show w.d.next<=w.d.next+1;omega)
   ·rw[DO.1 hx];refine .inr ⟨rfl,rfl,?_,?_,?_,?_,rfl,rfl,rfl,⟨by show 1<=w.d.next+1;omega,by show w.d.next+1<=w.d.next+1;omega⟩,ho.key⟩
    ·show w.d.rep.AQ=0;rw[h.d.rep];rfl
    ·show w.d.rep.view.Az=1;rw[h.d.rep];rfl
    ·show w.d.rep.self.BD=1;rw[h.d.rep];rfl
    ·show w.d.rep.self.node=2;rw[h.d.rep];rfl
def WS.av6{w:Ai}(h:WS C X B H f w)(hB:B<=9000){q:Ad}(hq:q ∈ C.ops)(hn:wT w q):aZ w q:=
 ⟨hn,(h.d.ops.op q hq).ms,by have:=h.d.asks;omega,by have:=h.out;omega,h.d.next.1,by have:=h.d.next.2;omega⟩
end
section
variable {C:Ctx} {X:An->Prop} {B:Nat} {H:List Entry} {f:Nat}
def aty{m:Ad}(hm:Y0 m)(v:Au)(x:AH)(hx:tx x.val)(room:Bool):EI (Oh m.op v m.Ah m.num x room)/\(Oh m.op v m.Ah m.num x room).key=m.op.key/\(Oh m.op v m.Ah m.num x room).Ah=m.Ah/\(Oh m.op v m.Ah m.num x room).num=m.num/\(Oh m.op v m.Ah m.num x room).Ag=v:=by
 have h0:tx []:=Bu _;have hk:=hm.key;have hv:=hm.val;have Uq:=hm.kind;have hs:=hm.Ah;have hn:=hm.num;have i0:FJ 0:=NT (by decide) (by decide);have i1:FJ 1:=NT (by decide) (by decide);have i2:FJ 2:=NT (by decide) (by decide);have i3:FJ 3:=NT (by decide) (by decide);unfold Oh;dsimp only;cases PD m.op.kind && !room with
 | true=>exact⟨⟨hk,h0,Uq,hs,hn,i3,h0⟩,rfl,rfl,rfl,rfl⟩
 | false=>
  cases decide (m.op.kind=1)with
  | true=>
   cases x.has with
   | true=>exact⟨⟨hk,h0,Uq,hs,hn,i0,hx⟩,rfl,rfl,rfl,rfl⟩
   | false=>exact⟨⟨hk,h0,Uq,hs,hn,i1,h0⟩,rfl,rfl,rfl,rfl⟩
  | false=>
   cases decide (m.op.kind=2)with
   | true=>exact⟨⟨hk,hv,Uq,hs,hn,i0,h0⟩,rfl,rfl,rfl,rfl⟩
   | false=>
    cases decide (m.op.kind=3)with
    | true=>exact⟨⟨hk,h0,Uq,hs,hn,i0,h0⟩,rfl,rfl,rfl,rfl⟩
    | false=>
     cases decide (m.op.kind=4)with
     | true=>
      cases (bif x.has then m.op.IU else !m.op.IU)&&(!x.has||A5 x.val m.op.Bc)with
      | true=>exact⟨⟨hk,hv,Uq,hs,hn,i0,h0⟩,rfl,rfl,rfl,rfl⟩
      | false=>
       cases hh:x.has with
       | true=>exact⟨⟨hk,h0,Uq,hs,hn,i2,hx⟩,rfl,rfl,rfl,rfl⟩
       | false=>exact⟨⟨hk,h0,Uq,hs,hn,i2,h0⟩,rfl,rfl,rfl,rfl⟩
     | false=>exact⟨⟨hk,h0,Uq,hs,hn,i0,h0⟩,rfl,rfl,rfl,rfl⟩
def Fg.snoc(h:Fg C H){e:Entry}(hl:H.length<30)(he:EI e)(hv:e.Ag=v1 (H.length+1))(hr:∀ y,F5 H e.Ah=some y->y.num<e.num)(hc:∃ q ∈ C.ops,q.Ah=e.Ah/\q.num=e.num/\GM q.op K1=0/\e.key=q.op.key):Fg C (H++[e]) where
 len:=by rw[CB,FD];omega
 Ag:=λi hi=>by
  by_cases h1:i<H.length
  ·rw[List.getElem_append_left h1];exact h.Ag i h1
  ·have:i=H.length:=by rw[CB,FD]at hi;omega
   subst this;rw[List.getElem_append_right (Ar _)];simpa using hv
 Ho:=λx hx=>by
  rcases Cp.1 hx with hx | hx
  ·exact h.Ho x hx
  ·rw[DO.1 hx];exact he
 VH:=h.VH.push hr
 call:=λx hx=>by
  rcases Cp.1 hx with hx | hx
  ·exact h.call x hx
  ·rw[DO.1 hx];exact hc
structure bL(C:Ctx)(H:List Entry)(m:Ad)(e:Entry):Prop where
 ei:EI e
 key:e.key=m.op.key
 Ah:e.Ah=m.Ah
 num:e.num=m.num
 Ag:e.Ag=v1 (H.length+1)
 A8:Fg C (H++[e])
def afs{w:Ai}(hw:WS C X B H f w){m:Ad}(hm:m ∈ C.ops)(ML:GM m.op K1=0)(hn:H.length<30)(hv:∀ y,F5 H m.Ah=some y->y.num<m.num)(x:AH)(hx:tx x.val):bL C H m (Fq w m x):=by
 obtain⟨a1,a2,a3,a4,a5⟩:=aty (hw.d.ops.op m hm) (Sf w) x hx (!w.d.busy);have e:Oh m.op (Sf w) m.Ah m.num x (!w.d.busy)=Fq w m x:=rfl;rw[e]at a1 a2 a3 a4 a5;have X8:Sf w=v1 (H.length+1):=by unfold Sf;rw[hw.d.last.2.2,hw.d.rep];rfl
 rw[X8]at a5;exact⟨a1,a2,a3,a4,a5,hw.d.h.snoc hn a1 a5 (λy hy=>by rw[a4];rw[a3]at hy;exact hv y hy) ⟨m,hm,a3.symm,a4.symm,ML,a2⟩⟩
def abR{e:Entry}(hf:f<=H.length):(H++[e]).drop f=H.drop f++[e]:=List.drop_append_of_le_length hf
def aoy{L:List Entry}{e:Entry}{k:An}(h:M5 L k)(he:e.write=true->e.key ≠ k):M5 (L++[e]) k:=by
 rw[Xp]at h ⊢;intro x hx hw;rcases Cp.1 hx with hx | hx
 ·exact h x hx hw
 ·rw[DO.1 hx]at hw ⊢;exact he hw
def akG{w:Ai}(hw:WS C X B H f w){m:Ad}(hm:m ∈ C.ops){e:Entry}(he:bL C H m e):((w.d.waits.filter λx=>!pW m x)++[(⟨e.Ag,m.src,m.Ah,m.num⟩:C4)]).length<=B+1 /\ ∀ x ∈ (w.d.waits.filter λx=>!pW m x)++[(⟨e.Ag,m.src,m.Ah,m.num⟩:C4)],rL (H++[e]) x:=by
 refine⟨?_,λx hx=>?_⟩
 ·have h1:=hw.d.waits.1;have h2:=KS (λx=>!pW m x) w.d.waits;rw[CB];simp only[FD];omega
 ·rcases Cp.1 hx with hx | hx
  ·obtain⟨hx,hp⟩:=Gz.1 hx;have hne:¬ x.Ah=m.Ah:=by simpa [pW] using hp
   obtain⟨a,y,b,c⟩:=hw.d.waits.2 x hx;refine⟨a,y,?_,c⟩;rw[mn,AE (by rw[he.Ah];exact λh=>hne h.symm)];exact b
  ·rw[DO.1 hx];refine⟨(hw.d.ops.op m hm).src,e,?_,he.num,rfl⟩;show F5 (H++[e]) m.Ah=some e;rw[mn,Ay he.Ah]
def ad8{X':An->Prop}{w:Ai}(hw:WS C X B H f w){m:Ad}(hm:m ∈ C.ops){e:Entry}(he:bL C H m e)(hl:H.length<f+8){cl:List AH}{bz:Bool}(hc1:cl.length<=B+1)(hc2:∀ x ∈ cl,Ix x/\Cl (H++[e]) x)(hX:∀ k,¬ X' k -> ¬ X k/\(e.write=true->e.key ≠ k)) :
  DS C X' (B+1) (H++[e]) f {w.d with rep:=DJ (H++[e]) f,waits:=(w.d.waits.filter λx=>!pW m x)++[⟨e.Ag,m.src,m.Ah,m.num⟩],clean:=cl,busy:=bz} where
 ops:=hw.d.ops
 h:=he.A8
 rep:=rfl
 fl:=by rw[CB];have:=hw.d.fl;omega
 log:=by rw[CB,FD];omega
 ap:=λx hx hxw=>hw.d.ap x (by rw[List.take_append_of_le_length hw.d.fl]at hx;exact hx) hxw
 Kw:=⟨hw.d.Kw.1,by have:=hw.d.Kw.2;show w.d.AB.num<=((B+1:Nat):Int);omega⟩
 Gm:=⟨hw.d.Gm.1,λx hx=>by obtain⟨a,b⟩:=hw.d.Gm.2 x hx;exact⟨JD _ a,b⟩⟩
 FB:=⟨by have:=hw.d.FB.1;show w.d.AB.done.length<=B+1;omega,λx hx=>by obtain⟨y,y1,y2⟩:=hw.d.FB.2 x hx;exact⟨y,JD _ y1,y2⟩⟩
 clean:=⟨hc1,hc2⟩
 waits:=akG hw hm he
 asks:=by have:=hw.d.asks;show w.d.asks.length<=B+1;omega
 keys:=hw.d.keys
 ask:=λa ha=>by have h0:=hw.d.ask a ha;refine⟨h0.num,h0.key,h0.len,h0.calls,λhx=>?_,h0.Bc⟩;obtain⟨x1,x2⟩:=hX _ hx;rw[abR hw.d.fl];exact aoy (h0.now x1) x2
 next:=⟨hw.d.next.1,by have:=hw.d.next.2;show w.d.next<=((B+1:Nat):Int);omega⟩
 n0:=hw.d.n0
 pu:=hw.d.pu
def ad9{e:Entry}{x:AH}(h:Cl H x)(he:e.write=true->e.key ≠ x.key):Cl (H++[e]) x:=by
 unfold Cl at h ⊢;have:LW (H++[e]) x.key=LW H x.key:=by
  rw[ad6];cases hw:e.write with
  | false=>rfl
  | true=>
   have:A5 e.key x.key=false:=by rw[DV];simpa using he hw
   rw[this];rfl
 rw[this];exact h
def amp{w:Ai}(hw:WS C X B H f w){m:Ad}(hm:m ∈ C.ops){e:Entry}(he:bL C H m e)(hl:H.length<f+8):WS C (λk=>X k\/k=e.key) (B+1) (H++[e]) f (XT (I4 (GQ w (DJ (H++[e]) f)) e.Ag m) e.key):=by
 have Ey:∀ x ∈ CX w.d.clean e.key,Ix x/\Cl (H++[e]) x:=λx hx=>by
  obtain⟨h1,h2⟩:=Gz.1 hx;have hne:¬ x.key=e.key:=by
   have:A5 x.key e.key=false:=by simpa using h2
   rw[DV]at this;simpa using this
  exact⟨(hw.d.clean.2 x h1).1,ad9 (hw.d.clean.2 x h1).2 λ_ h=>hne h.symm⟩
 have hd:=ad8 (X':=λk=>X k\/k=e.key) hw hm he hl (cl:=CX w.d.clean e.key) (bz:=aP w.d.busy (Iu ((H++[e]).drop f)) w.c.high w.c.low) (by have h1:=Z0 w.d.clean e.key;have h2:=hw.d.clean.1;show(CX w.d.clean e.key).length<=B+1;omega) Ey λk hk=>⟨λh=>hk (.inl h),λ_ h=>hk (.inr h.symm)⟩
 have ha:BL (DJ (H++[e]) f)=[]:=ma _ _;refine⟨hd,hw.c,?_,λx hx=>?_,hw.DI⟩
 ·show(w.out++BL (DJ (H++[e]) f)).length<=B+1;rw[ha,FY];have:=hw.out;omega
 ·have hx:x ∈ w.out++BL (DJ (H++[e]) f):=hx;rw[ha,FY]at hx;exact(hw.said x hx).grow (Gr.snoc H e) he.A8.len
def akH{w:Ai}(hw:WS C X B H f w){m:Ad}(hm:m ∈ C.ops){e:Entry}(he:bL C H m e)(hl:H.length<f+8)(hnw:e.write=false):WS C X (B+1) (H++[e]) f (Nv (I4 (GQ w (DJ (H++[e]) f)) e.Ag m)):=by
 have Ey:∀ x ∈ w.d.clean,Ix x/\Cl (H++[e]) x:=λx hx=>⟨(hw.d.clean.2 x hx).1,ad9 (hw.d.clean.2 x hx).2 λh=>by rw[hnw]at h;cases h⟩
 have hd:=ad8 (X':=X) hw hm he hl (cl:=w.d.clean) (bz:=w.d.busy) (by have:=hw.d.clean.1;show w.d.clean.length<=B+1;omega) Ey λk hk=>⟨hk,λh=>by rw[hnw]at h;cases h⟩
 have ha:BL (DJ (H++[e]) f)=[]:=ma _ _;refine⟨hd,hw.c,?_,λx hx=>?_,hw.DI⟩
 ·show(w.out++BL (DJ (H++[e]) f)).length<=B+1;rw[ha,FY];have:=hw.out;omega
 ·have hx:x ∈ w.out++BL (DJ (H++[e]) f):=hx;rw[ha,FY]at hx;exact(hw.said x hx).grow (Gr.snoc H e) he.A8.len
def To(C:Ctx)(X:An->Prop)(B:Nat)(H:List Entry)(f:Nat)(w:Ai):Prop:=∃ H',Gr H H'/\WS C X B H' f w
def WS.to{w:Ai}(h:WS C X B H f w):To C X B H f w:=⟨H,Gr.refl H,h⟩
def To.mono{D:Nat}{w:Ai}(h:To C X B H f w)(hB:B<=D):To C X D H f w:=by obtain⟨H',a,b⟩:=h;exact⟨H',a,b.mono hB⟩
def aea(c:Bz){B2:Nat}{w:Ai}{m:Ad}(x:AH)(hx:tx x.val)(hw:WS C X B H f w)(hm:m ∈ C.ops)(ML:GM m.op K1=0)(hl:H.length<f+8)(hn:H.length<30)(hv:∀ y,F5 H m.Ah=some y->y.num<m.num)(h1:B+1<=B2)(h2:B2<=9000)
  (ayf:∀ (e:Entry) (w':Ai),e.write=true->bL C H m e->WS C (λk=>X k\/k=m.op.key) (B+1) (H++[e]) f w'->w'.d.asks=w.d.asks->a8 c w' m.op.key/\To C X B2 (H++[e]) f (Sd c w' m.op.key)) :
  aj c w m x/\To C X B2 H f (RX c w m x):=by
 have he:=afs hw hm ML hn hv x hx;obtain⟨e,Za⟩:∃ e,Fq w m x=e:=⟨_,rfl⟩
 rw[Za]at he;have hp:IQ (w.d.rep,e)=(DJ (H++[e]) f,true):=by rw[hw.d.rep];exact aml (by omega) hw.d.fl he.Ag
 have ha:BL (DJ (H++[e]) f)=[]:=ma _ _;have Sr:=vK he.A8 f;have oD:=hw.out;have Ey:=hw.d.clean.1;have Qq:((H++[e]).drop f).length<=8:=by rw[XC,CB,FD];omega
 have V8:MA ((H++[e]).drop f):=⟨by omega,λy hy=>⟨(he.A8.Ho y (Qd hy)).key,(he.A8.Ho y (Qd hy)).val⟩⟩
 have hE:e.write=true->a8 c (XT (I4 (GQ w (DJ (H++[e]) f)) e.Ag m) e.key) e.key/\To C X B2 (H++[e]) f (Sd c (XT (I4 (GQ w (DJ (H++[e]) f)) e.Ag m) e.key) e.key):=by
  intro Dc;have hd:=amp hw hm he hl;obtain⟨W,hW⟩:∃ W,XT (I4 (GQ w (DJ (H++[e]) f)) e.Ag m) e.key=W:=⟨_,rfl⟩
  have hwa:W.d.asks=w.d.asks:=by rw[<- hW];rfl
  rw[hW]at hd ⊢;rw[he.key]at hd ⊢;exact ayf e W Dc he hd hwa
 refine⟨⟨by rw[hw.d.rep];show(0:Int)<=1;omega,hw.d.last.2.1,⟨hw.d.short,⟨by have:=hw.d.Ti.2;show w.d.rep.tail.log.length<=10000;omega,hw.d.last.2.1,?_,hw.d.kE⟩⟩,by have:=hw.d.waits.1;omega,λ_=>?_⟩,?_⟩
 ·show AU (Fq w m x).Ag;rw[Za,he.Ag];exact Ox (by omega)
 ·rw[Za,hp];exact⟨Sr,by show w.out.length<=1000000;omega,by show(BL (DJ (H++[e]) f)).length<=100000;rw[ha];simp,λ_=>V8,λ_=>by show w.d.clean.length<=100000;omega,λh=>(hE h).1⟩
 ·unfold RX;rw[Za,hp];dsimp only;rw[Dr,Aj];unfold gV;cases Dc:e.write with
  | false=>rw[EP,Ae];exact⟨H++[e],Gr.snoc H e,(akH hw hm he hl Dc).mono h1⟩
  | true=>rw[Dr,Aj];obtain⟨H',g,k⟩:=(hE Dc).2;exact⟨H',(Gr.snoc H e).trans g,k⟩
end
section
variable {C:Ctx} {X:An->Prop} {B:Nat} {H:List Entry} {f:Nat}
structure aiA(H:List Entry)(f:Nat)(m:Ad):Prop where
 log:H.length<f+8
 num:H.length<30
 chk:GM m.op K1=0
 new:∀ y,F5 H m.Ah=some y->y.num<m.num
def aeb{w:Ai}(hw:WS C X B H f w){m:Ad}(h:Qa w m=true):aiA H f m:=by
 obtain⟨_,g⟩:=A4 h;obtain⟨g2,g⟩:=A4 g;obtain⟨g3,g⟩:=A4 g;obtain⟨g4,g⟩:=A4 g;obtain⟨g5,g6⟩:=A4 g;simp only[Bool.not_eq_true']at g3 g4 g5 g6;unfold Mu at g5;rw[Mw]at g5;have h1:=Gk g5.1;have h2:=Gk g6;rw[hw.c]at h1 h2 g2;have h1:¬ ((8:Int)<=(w.d.rep.tail.log.length:Int)):=h1;have h2:¬ ((30:Int)<=(nu w.d.rep.tail.last:Int)):=h2;rw[hw.d.last.2.2]at h2;have hl:=hw.d.Ti.1;have hf:=hw.d.fl;refine⟨by omega,by omega,El g2,?_⟩;rcases vL hw m with ⟨_,k⟩ | ⟨k,_⟩ | k
 ·exact k
 ·exact absurd k (Gk g3)
 ·exact absurd k (Gk g4)
def aoz(v:Au):AP v v=false:=by unfold AP;rw[Ax rfl,Ae];simp
def mW(c:Bz){B2:Nat}{w:Ai}{m:Ad}(hm:m ∈ C.ops)(hw:WS C X B H f w)(h1:B+1<=B2)(h2:B2<=9000)(Q:Ai->Prop)(hQ0:Q w)(hQr:∀ k,Q (On w m k))(hQw:∀ v,Q (I4 w v m))
  (hf:Qa w m=true->aiA H f m->Fp c w m/\To C X B2 H f (Lq c w m)/\Q (Lq c w m)):bG c w m/\To C X B2 H f (Qb c w m)/\Q (Qb c w m):=by
 have ho:=hw.d.ops.op m hm;have iR:AU (Ir w.d.rep):=by rw[hw.d.kr];have:=hw.d.h.len;exact Ox (by omega)
 have hw2:To C X B2 H f w:=(hw.mono (by omega)).to;refine⟨⟨by have:=hw.out;omega,by have:=hw.d.waits.1;omega,hw.d.kE,hw.d.last.2.1,iR,λh=>(hf h (aeb hw h)).1⟩,?_⟩;unfold Qb;have g1:decide (m.gen<w.d.rep.view.gen)=false:=AN (by rw[ho.gen,hw.d.rep];show ¬ ((0:Int)<0);omega);rw[g1,Aj];cases g2:decide (GM m.op w.c=0)with
 | false=>have hne:=Gk g2;rw[hw.c]at hne ⊢;exact⟨((hw.refuse (amn hw.d.ops hm hne)).mono h1).to,hQr _⟩
 | true=>
  have ML:=El g2;rw[hw.c]at ML;rw[Dr,Aj];cases g3:decide (Mv w m=1)with
  | true=>
   rcases vL hw m with ⟨k,_⟩ | ⟨_,y,k1,k2,k3⟩ | k
   ·have:=El g3;omega
   ·rw[Ae,k3];exact⟨((hw.wait hm k1 k2).mono h1).to,hQw _⟩
   ·have:=El g3;omega
  | false=>
   rw[Aj];cases g4:decide (Mv w m=2)with
   | true=>exact⟨hw2,hQ0⟩
   | false=>
    rw[Aj];cases g5:Mu w m with
    | true=>exact⟨hw2,hQ0⟩
    | false=>
     rw[Aj];cases g6:decide (w.c.Ov<=(nu w.d.rep.tail.last:Int))with
     | true=>
      rw[Ae,hw.d.kr,hw.d.last.1,aoz,EP,Ae];have Ur:=El g6;rw[hw.c,hw.d.last.2.2]at Ur;have Ur:(30:Int)<=(H.length:Int):=Ur;refine⟨((hw.refuse (aow hw.d.ops hm ML (by omega) λe he hs=>?_)).mono h1).to,hQr 5⟩;rcases vL hw m with ⟨_,k⟩ | ⟨k,_⟩ | k
      ·obtain⟨y,hy⟩:=abP he;rw[hs]at hy;have:=k y hy;have:=ad5 H hw.d.h.VH m.Ah y hy e he hs;omega
      ·exact absurd k (Gk g3)
      ·exact absurd k (Gk g4)
     | false=>
      have hg:Qa w m=true:=by unfold Qa;rw[g1,g2,g3,g4,g5,g6];rfl
      exact(hf hg (aeb hw hg)).2
def RY(w:Ai)(k:An):Prop:=∀ a ∈ w.d.asks,a.key ≠ k
def WC(H:List Entry)(f:Nat)(w:Ai)(k:An):Prop:=(∃ e ∈ H.drop f,Yc k e)\/(w.Hu=true/\w.DI.key=k)
def av7{w:Ai}(hw:WS C X B H f w){k:An}(h:WC H f w k):(B4 w k).2=(true,w):=by
 unfold B4;cases hv:(EY w.d.rep.tail k).2 with
 | true=>rfl
 | false=>
  have hn:M5 (H.drop f) k:=by
   unfold EY at hv;rw[hw.d.rep]at hv;unfold M5;have e:(DJ H f).tail.log=H.drop f:=rfl;rw[e]at hv;cases ho:Em (H.drop f) k with
   | none=>rfl
   | some y=>rw[ho]at hv;cases hv
  rcases h with ⟨e,he,h1,h2⟩ | ⟨h1,h2⟩
  ·exact absurd h2 (Xp.1 hn e he h1)
  ·have:A5 w.DI.key k=true:=by rw[DV];simpa using h2
   rw[h1,this];rfl
def WC.grow{H':List Entry}{w w':Ai}{k:An}(h:WC H f w k)(hg:Gr H H')(hf:f<=H.length)(h1:w'.DI=w.DI)(h2:w'.Hu=w.Hu):WC H' f w' k:=by
 rcases h with ⟨e,he,h⟩ | h
 ·obtain⟨K,rfl⟩:=hg;refine .inl ⟨e,?_,h⟩;rw[List.drop_append_of_le_length hf];exact JD _ he
 ·exact .inr (by rw[h1,h2];exact h)
def ac1{w:Ai}{k:An}(h:RY w k):Hp w k=w.d.asks.length:=List.findIdx_eq_length.2 λa ha=>by have:=h a ha;show A5 a.key k=false;rw[DV];simpa using this
def aec{c:Bz}{w:Ai}{k:An}(h:RY w k):Sd c w k=w:=by unfold Sd;rw[ac1 h,Js (Ar _),Aj]
def NH(w w':Ai):Prop:=w'.d.asks=w.d.asks/\w'.DI=w.DI/\w'.Hu=w.Hu
def NH.refl(w:Ai):NH w w:=⟨rfl,rfl,rfl⟩
def NH.trans{a b c:Ai}(h:NH a b)(h':NH b c):NH a c:=⟨h'.1.trans h.1,h'.2.1.trans h.2.1,h'.2.2.trans h.2.2⟩
def abS(c:Bz){w:Ai}{m:Ad}(x:AH)(hk:(Fq w m x).key=m.op.key)(CZ:RY w m.op.key):NH w (RX c w m x):=by
 unfold RX;cases hp:(IQ (w.d.rep,Fq w m x)).2 with
 | false=>exact NH.refl w
 | true=>
  rw[Dr,Aj];unfold gV;cases (Fq w m x).write with
  | false=>exact⟨rfl,rfl,rfl⟩
  | true=>rw[Dr,Aj,aec (by rw[hk];exact CZ)];exact⟨rfl,rfl,rfl⟩
def WS.less{w:Ai}{k:An}(h:WS C (λy=>X y\/y=k) B H f w)(CZ:RY w k):WS C X B H f w:=
 {h with d:={h.d with ask:=λa ha=>{h.d.ask a ha with now:=λhx=>(h.d.ask a ha).now λh2=>h2.elim hx (CZ a ha)}}}
def aoA{w:Ai}{q:Ad}(hw:WS C X B H f w)(hq:q ∈ C.ops)(CZ:RY w q.op.key)(hk:WC H f w q.op.key)(hB:B+1<=9000) :
  bG .none w q/\To C X (B+1) H f (Qb .none w q)/\NH w (Qb .none w q):=by
 refine mW .none hq hw (Ar _) hB (NH w) (NH.refl w) (λk=>⟨rfl,rfl,rfl⟩) (λv=>⟨rfl,rfl,rfl⟩) λ_ hg=>?_;have hfw:=av7 hw hk;have Kd:∀ x,tx x.val->aj .none w q x/\To C X (B+1) H f (RX .none w q x):=λx hx=>aea .none x hx hw hq hg.chk hg.log hg.num hg.new (Ar _) hB λe w' Dc he rM ha=>by have zx:RY w' q.op.key:=λa h=>CZ a (by rw[<- ha];exact h);rw[aec zx];exact⟨⟨by have:=rM.d.asks;omega,λhi=>by rw[ac1 zx]at hi;omega⟩,(rM.less zx).to⟩
 have Sh:∀ x,tx x.val->(Fq w q x).key=q.op.key:=λx hx=>(afs hw hq hg.chk hg.num hg.new x hx).key;have Pb:tx (B4 w q.op.key).1.val:=hw.item _;have df:tx (default:AH).val:=Bu _;have e1:(B4 w q.op.key).2.1=true:=by rw[hfw]
 have e2:(B4 w q.op.key).2.2=w:=by rw[hfw]
 refine⟨⟨λ_=>hw.fi (by omega),λ_ h=>(by rw[e1]at h;cases h),λ_ _=>(by rw[e2];exact(Kd _ Pb).1),λ_=>(Kd _ df).1⟩,?_⟩;unfold Lq;rw[e1,e2];cases J6 w q with
 | true=>exact⟨(Kd _ Pb).2,abS .none _ (Sh _ Pb) CZ⟩
 | false=>exact⟨(Kd _ df).2,abS .none _ (Sh _ df) CZ⟩
def ua{k:An}:∀ (l:List Ad) {B:Nat} {H:List Entry} {w:Ai},WS C X B H f w->(∀ q ∈ l,q ∈ C.ops/\q.op.key=k)->RY w k->WC H f w k->B+l.length<=9000 ->
  Nu Hq w l/\To C X (B+l.length) H f (Nx Hq w l)/\NH w (Nx Hq w l)
 | [],B,H,w,hw,_,_,_,_=>⟨trivial,hw.to,NH.refl w⟩
 | q::l,B,H,w,hw,hq,CZ,hk,hB=>by
  obtain⟨q1,q2⟩:=hq q (by simp);simp only[CR]at hB;obtain⟨a,⟨H',g,b⟩,s⟩:=aoA hw q1 (by rw[q2];exact CZ) (by rw[q2];exact hk) (by omega);obtain⟨d,⟨H2,g2,e⟩,s2⟩:=ua l b (λx hx=>hq x (JC _ hx)) (λy hy=>CZ y (by rw[<- s.1];exact hy)) (hk.grow g hw.d.fl s.2.1 s.2.2) (by omega);refine⟨⟨a,d⟩,⟨H2,g.trans g2,?_⟩,s.trans s2⟩;have:B+(q::l).length=B+1+l.length:=by simp;omega
  rw[this];exact e
def vM{k:An}:∀ {l:List Md.Ask} {i:Nat},(l.Pairwise λa b=>a.key ≠ b.key)->i<l.length->(l.getD i default).key=k -> ∀ a ∈ l.eraseIdx i,a.key ≠ k
 | [],i,_,hi,_=>absurd hi (C5 i)
 | x::r,0,h,_,hk=>λa ha=>by have:=(R4.1 h).1 a (by simpa using ha);rw[<- hk];exact λe=>this e.symm
 | x::r,i+1,h,hi,hk=>λa ha=>by
  have hr:=R4.1 h;have JV:i<r.length:=by simpa using hi
  have hm:r.getD i default ∈ r:=De (z:=(default:Md.Ask)) JV;rcases Dz.1 (by simpa using ha:a ∈ x::r.eraseIdx i)with rfl | ha
  ·rw[<- hk];exact hr.1 _ hm
  ·exact vM hr.2 JV hk a ha
def WS.drop{w:Ai}(h:WS C X B H f w)(i:Nat):WS C X B H f (VG w (w.d.asks.eraseIdx i)):=
 {h with d:={h.d with
   asks:=by have:=h.d.asks;have h2:(w.d.asks.eraseIdx i).length<=w.d.asks.length:=(List.eraseIdx_sublist w.d.asks i).length_le;show(w.d.asks.eraseIdx i).length<=B;omega
   keys:=h.d.keys.sublist (List.eraseIdx_sublist _ _)
   ask:=λa ha=>h.d.ask a ((List.eraseIdx_sublist w.d.asks i).subset ha)}}
def aqX{w:Ai}{k:An}(hw:WS C (λy=>X y\/y=k) B H f w)(hk:WC H f w k)(hB:B+8<=9000):a8 Hq w k/\To C X (B+8) H f (Sd Hq w k):=by
 unfold a8 Sd;by_cases hi:Hp w k<w.d.asks.length
 ·have Fo:w.d.asks.getD (Hp w k) default ∈ w.d.asks:=De (z:=(default:Md.Ask)) hi;have ha:=hw.d.ask _ Fo;have Sh:(w.d.asks.getD (Hp w k) default).key=k:=by
   have hg:w.d.asks.getD (Hp w k) default=w.d.asks[Hp w k]:=by simp[List.getD,hi]
   have:=List.findIdx_getElem (p:=Yd k) (xs:=w.d.asks) (w:=hi);rw[hg];have t:A5 (w.d.asks[Hp w k]).key k=true:=this;rw[DV]at t;simpa using t
  have CZ:RY (VG w (w.d.asks.eraseIdx (Hp w k))) k:=vM hw.d.keys hi Sh;have hl:=ha.len;obtain⟨a,b,_⟩:=ua (k:=k) (w.d.asks.getD (Hp w k) default).calls ((hw.drop (Hp w k)).less CZ) (λq hq=>⟨(ha.calls q hq).1,(ha.calls q hq).2.trans Sh⟩) CZ hk (by omega);rw[Cd hi,Ae];exact⟨⟨by have:=hw.d.asks;omega,λ_=>⟨by omega,a⟩⟩,b.mono (by omega)⟩
 ·rw[Js (by omega),Aj];have CZ:RY w k:=λa ha he=>hi (List.findIdx_lt_length_of_exists ⟨a,ha,by show A5 a.key k=true;rw[DV];simpa using he⟩);exact⟨⟨by have:=hw.d.asks;omega,λh=>absurd h hi⟩,((hw.less CZ).mono (by omega)).to⟩
def aoB{w:Ai}{q:Ad}(hw:WS C X B H f w)(hq:q ∈ C.ops)(hB:B+10<=9000)(GI:Qa w q=true->J6 w q=true->(B4 w q.op.key).2.1=false->wT (B4 w q.op.key).2.2 q) :
  bG Hq w q/\To C X (B+10) H f (Qb Hq w q):=by
 have:=mW Hq (B2:=B+10) (m:=q) hq hw (by omega) hB (λ_=>True) trivial (λ_=>trivial) (λ_=>trivial) λhg go=>?_
 ·exact⟨this.1,this.2.1⟩
 have Pb:tx (B4 w q.op.key).1.val:=hw.item _;have df:tx (default:AH).val:=Bu _;have Kd:∀ (w1:Ai) x,tx x.val->WS C X (B+1) H f w1->aj Hq w1 q x/\To C X (B+10) H f (RX Hq w1 q x):=λw1 x hx hw1=>aea Hq x hx hw1 hq go.chk go.log go.num go.new (by omega) hB λe w' Dc he rM ha=>by have T4:WC (H++[e]) f w' q.op.key:=.inl ⟨e,by rw[abR hw.d.fl];simp,Dc,he.key⟩;have:=aqX rM T4 (by omega);exact⟨this.1,this.2.mono (by omega)⟩
 have hf:=hw.find q.op.key;refine⟨⟨λ_=>hw.fi (by omega),λha O0=>hf.av6 (by omega) hq (GI hg ha O0),λ_ _=>(Kd _ _ Pb hf).1,λ_=>(Kd w default df (hw.mono (by omega))).1⟩,?_,trivial⟩;unfold Lq;cases J6 w q with
 | false=>exact(Kd w default df (hw.mono (by omega))).2
 | true=>
  cases hc:(B4 w q.op.key).2.1 with
  | false=>exact((hf.ask hq (amo hw hc)).mono (by omega)).to
  | true=>exact(Kd _ _ Pb hf).2
end
section
variable {C:Ctx} {X:An->Prop} {B:Nat} {H:List Entry} {f:Nat}
def US{a b:An}:A5 a b=true ↔ a=b:=by rw[DV];simp
def mo{k s:An}{ks:List An}:Ck k (Ic ks s)=true ↔ Ck k ks=true\/k=s:=by
 unfold Ic;cases h:Ck s ks with
 | true=>rw[Ae];exact⟨.inl,λh2=>h2.elim id λe=>by rw[e];exact h⟩
 | false=>rw[Aj,KH,KH];simp
def amq(l:List AH)(x:AH):Dx (l++[x])=iF (Dx l) x:=by unfold Dx;rw[List.foldl_append];rfl
def aqY(l:List AH)(k:An):Ck k (Dx l).1=true -> ∃ x ∈ l,x.key=k/\(Dx l).2 k=x.Ag:=by
 revert k;refine fk (P:=λl=>∀ k,Ck k (Dx l).1=true -> ∃ x ∈ l,x.key=k/\(Dx l).2 k=x.Ag) ?_ ?_ l
 ·intro k h;cases h
 ·intro l x ih k h;rw[amq]at h ⊢;show ∃ y ∈ l++[x],y.key=k/\EG (Dx l).2 x.key x.Ag k=y.Ag;unfold EG;by_cases hk:k=x.key
  ·refine⟨x,by simp,hk.symm,?_⟩;rw[US.2 hk];rfl
  ·rcases mo.1 (show Ck k (Ic (Dx l).1 x.key)=true from h)with h | h
   ·obtain⟨y,y1,y2,y3⟩:=ih k h;refine⟨y,JD _ y1,y2,?_⟩;have:A5 k x.key=false:=by
     cases hb:A5 k x.key with
     | false=>rfl
     | true=>exact absurd (US.1 hb) hk
    rw[this];exact y3
   ·exact absurd h hk
def akI(h:Fg C H){done:List AH}(hd:∀ x ∈ done,∃ e ∈ H,e.write=true/\x=LU e/\Ap C e){e:Entry}(hs:Nr e (Dx done)=true)(hw:e.write=true):Ap C e:=by
 unfold Nr at hs;rw[hw,Dr,Bool.false_or]at hs;obtain⟨s1,s2⟩:=A4 hs;obtain⟨x,hx,hk,hv⟩:=aqY done e.key s1;obtain⟨y,hy,_,rfl,z,z1,z2⟩:=hd x hx;have hk:y.key=e.key:=hk;rw[hv]at s2;have s2:AP (LU y).Ag e.Ag=false:=by simpa using s2
 exact⟨z,by rw[<- hk];exact z1,(api s2).trans z2⟩
def aqZ(h:Fg C H){done:List AH}(hd:∀ x ∈ done,∃ e ∈ H,e.write=true/\x=LU e/\Ap C e):∀ (n g:Nat),g+n=H.length -> ∃ g',g<=g'/\g'<=H.length/\Xx (Dx done) (v1 H.length) (v1 g) (H.drop g)=v1 g' /\ ∀ e ∈ (H.drop g).take (g' - g),e.write=true->Ap C e:=by
 intro n
 induction n with
 | zero=>
  intro g hg;refine⟨g,Ar _,by omega,?_,λe he=>?_⟩
  ·rw[Gj (by omega)];rfl
  ·rw[LN]at he;cases he
 | succ n ih=>
  intro g hg;have Sv:g<H.length:=by omega
  have hl:=h.len;rw[List.drop_eq_getElem_cons Sv];show ∃ g',g<=g'/\g'<=H.length/\(bif !Nr H[g] (Dx done)||AP (v1 H.length) (H[g]).Ag then v1 g else Xx (Dx done) (v1 H.length) (H[g]).Ag (H.drop (g+1)))=v1 g'/\_;cases hc:!Nr H[g] (Dx done)||AP (v1 H.length) (H[g]).Ag with
  | true=>refine⟨g,Ar _,by omega,rfl,λe he=>?_⟩;rw[LN]at he;cases he
  | false=>
   rw[Mw]at hc;obtain⟨g',a1,a2,a3,a4⟩:=ih (g+1) (by omega);refine⟨g',by omega,a2,?_,λe he hw=>?_⟩
   ·rw[Aj,h.Ag g Sv];exact a3
   ·rw[show g' - g=(g' - (g+1))+1 by omega,List.take_succ_cons]at he;rcases Dz.1 he with rfl | he
    ·exact akI h hd (by simpa using hc.1) hw
    ·exact a4 e he hw
def aan(b:List Entry):∀ (a:List Entry) (i:Nat) (M:MC),Gf (a++b) i M=Gf b (i+a.length) (Gf a i M)
 | [],i,M=>rfl
 | x::a,i,M=>by show Gf (a++b) (i+1) (aW M i x)=_;rw[aan b a (i+1),CR,show i+1+a.length=i+(a.length+1) by omega];rfl
def aoC(L:List Entry)(k:An):∀ e,Em L k=some e->Ck k (Gf L 0 ([],λ_=>0)).1=true /\ ∃ i:Nat,L[i]? = some e/\(Gf L 0 ([],λ_=>0)).2 k=(i:Int):=by
 refine fk (P:=λL=>∀ e,Em L k=some e->Ck k (Gf L 0 ([],λ_=>0)).1=true /\ ∃ i:Nat,L[i]? = some e/\(Gf L 0 ([],λ_=>0)).2 k=(i:Int)) ?_ ?_ L
 ·intro e h;cases h
 ·intro L x ih e h;have h':LW (L++[x]) k=some e:=h;rw[ad6]at h';rw[aan,Ev];show Ck k (aW (Gf L 0 ([],λ_=>0)) L.length x).1=true /\ ∃ i:Nat,(L++[x])[i]? = some e/\(aW (Gf L 0 ([],λ_=>0)) L.length x).2 k=(i:Int)
  unfold aW;cases hc:x.write&&A5 x.key k with
  | true=>rw[hc,Ae]at h';cases h';obtain⟨c1,c2⟩:=A4 hc;have c2:=US.1 c2;rw[c1,Ae];refine⟨mo.2 (.inr c2.symm),L.length,by simp,?_⟩;show EG _ x.key (L.length:Int) k=_;unfold EG;rw[US.2 c2.symm];rfl
  | false=>
   rw[hc,Aj]at h';obtain⟨a1,i,a2,a3⟩:=ih e h';have hi:i<L.length:=(GO.1 a2).1;have a2':(L++[x])[i]? = some e:=by rw[DY hi];exact a2
   cases hw:x.write with
   | false=>exact⟨a1,i,a2',a3⟩
   | true=>
    rw[hw,Tj]at hc;rw[Ae];refine⟨mo.2 (.inl a1),i,a2',?_⟩;show EG _ x.key (L.length:Int) k=_;unfold EG;have:A5 k x.key=false:=by
     cases hb:A5 k x.key with
     | false=>rfl
     | true=>rw[US.2 (US.1 hb).symm]at hc;cases hc
    rw[this];exact a3
def aq0{L:List Entry}{i:Nat}(hi:i<L.length)(h:ah (Gf L 0 ([],λ_=>0)) i L[i]=true):Em L (L[i]).key=some L[i]:=by
 obtain⟨h1,h2⟩:=A4 h;have hne:¬ M5 L (L[i]).key:=λhn=>Xp.1 hn L[i] (R5 hi) h1 rfl;cases hv:Em L (L[i]).key with
 | none=>exact absurd hv hne
 | some e=>
  obtain⟨a1,j,a2,a3⟩:=aoC L (L[i]).key e hv;rw[a1,Ae,a3]at h2;have:j=i:=by have:=El h2;omega
  subst this;rw[BR hi]at a2;exact a2.symm
def aoD{v:Au}{room:Int}{L:List Entry}:∀ (n i:Nat) (D:List AH),i+n=L.length->(PF v room (Gf L 0 ([],λ_=>0)) (L.drop i) i D).length<=D.length+n /\ ∀ x ∈ PF v room (Gf L 0 ([],λ_=>0)) (L.drop i) i D,x ∈ D \/ ∃ e ∈ L,Em L e.key=some e/\x=FF e:=by
 intro n
 induction n with
 | zero=>intro i D hi;rw[Gj (by omega)];exact⟨by show D.length<=_;omega,λx hx=>.inl hx⟩
 | succ n ih=>
  intro i D hi;have hil:i<L.length:=by omega
  rw[List.drop_eq_getElem_cons hil];show(bif AP v (L[i]).Ag then D else PF v room (Gf L 0 ([],λ_=>0)) (L.drop (i+1)) (i+1) (PQ room (Gf L 0 ([],λ_=>0)) i L[i] D)).length<=_ /\ ∀ x ∈ (bif AP v (L[i]).Ag then D else PF v room (Gf L 0 ([],λ_=>0)) (L.drop (i+1)) (i+1) (PQ room (Gf L 0 ([],λ_=>0)) i L[i] D)),_;cases AP v (L[i]).Ag with
  | true=>exact⟨by rw[Ae];omega,λx hx=>.inl hx⟩
  | false=>
   rw[Aj];obtain⟨a1,a2⟩:=ih (i+1) (PQ room (Gf L 0 ([],λ_=>0)) i L[i] D) (by omega);have hS:(PQ room (Gf L 0 ([],λ_=>0)) i L[i] D).length<=D.length+1 /\ ∀ x ∈ PQ room (Gf L 0 ([],λ_=>0)) i L[i] D,x ∈ D \/ ∃ e ∈ L,Em L e.key=some e/\x=FF e:=by
    unfold PQ;cases hl:ah (Gf L 0 ([],λ_=>0)) i L[i]with
    | false=>exact⟨by rw[Aj];omega,λx hx=>.inl hx⟩
    | true=>
     refine⟨mN (D,FF L[i],room),λx hx=>?_⟩;rcases uK (D,FF L[i],room) x hx with hx | rfl
     ·exact .inl hx
     ·exact .inr ⟨L[i],R5 hil,aq0 hil hl,rfl⟩
   refine⟨by omega,λx hx=>?_⟩;rcases a2 x hx with hx | hx
   ·exact hS.2 x hx
   ·exact .inr hx
def aq1{e:Entry}(h:Em (H.drop f) e.key=some e):LW H e.key=some e:=by unfold LW;rw[<- Xz f H,th,h]
def aq2{e:Entry}(hv:AU e.Ag)(h:LW H e.key=some e):Cl H (FF e):=by unfold Cl;refine⟨hv,?_⟩;have:(FF e).key=e.key:=rfl;rw[this,h];refine⟨rfl,λhd=>?_⟩;show(bif !e.del then e.val else [])=e.val;rw[hd];rfl
def ac2{log:List Entry}{upto:Au}:∀ (r:List Entry) (i:Nat) (M:MC),log.drop i=r->(∀ k,Ck k M.1=true -> ∃ j:Nat,M.2 k=(j:Int) /\ ∃ e,log[j]? = some e/\e.write=true) ->
  ∀ k,Ck k (PN upto r i M).1=true -> ∃ j:Nat,(PN upto r i M).2 k=(j:Int) /\ ∃ e,log[j]? = some e/\e.write=true
 | [],_,_,_,h=>h
 | e::r,i,M,hr,h=>by
  have hi:i<log.length:=by
   rcases Cj i log.length with h | h
   ·exact h
   ·rw[Gj h]at hr;cases hr
  rw[List.drop_eq_getElem_cons hi]at hr;obtain⟨he,hr⟩:=List.cons.inj hr;refine ac2 r (i+1) (RU upto M i e) hr λk hk=>?_;unfold RU at hk ⊢;cases hc:e.write && !AP upto e.Ag with
  | false=>rw[hc,Aj]at hk;rw[Aj];exact h k hk
  | true=>
   rw[hc,Ae]at hk;rw[Ae];obtain⟨c1,_⟩:=A4 hc;show ∃ j:Nat,EG M.2 e.key (i:Int) k=(j:Int)/\_;unfold EG;cases hb:A5 k e.key with
   | true=>exact⟨i,rfl,e,by rw[BR hi,he],c1⟩
   | false=>
    rw[Aj];rcases mo.1 hk with hk | hk
    ·exact h k hk
    ·rw[US.2 hk]at hb;cases hb
def aoE(p:JW):∀ e ∈ KJ p,e ∈ p.t.log/\e.write=true:=by
 intro e he;unfold KJ VB at he;obtain⟨i,hi,rfl⟩:=Mz.1 he;have hi:=az hi;have hi:i ∈ Km p.t (Dx p.done) (gM p) (gM p).1:=(ZR _ _).mem_iff.1 hi;obtain⟨hi,_⟩:=Gz.1 hi;obtain⟨k,hk,rfl⟩:=Mz.1 hi;obtain⟨j,h1,e,h2,h3⟩:=ac2 (log:=p.t.log) (upto:=p.upto) p.t.log 0 ([],λ_=>0) rfl (λk hk=>by cases hk) k ((KH _ _).2 hk);have h1:(gM p).2 k=(j:Int):=h1;rw[h1,BV];have:p.t.log.getD j default=e:=by simp[List.getD,h2]
 rw[this];exact⟨Dy h2,h3⟩
end
section
variable {C:Ctx} {X:An->Prop} {B:Nat} {H:List Entry} {f:Nat}
structure Us(H:List Entry)(f:Nat)(p:C3)(x:Ad):Prop where
 kd:x.kind=15
 dst:x.dst=0
 AQ:x.AQ=0
 Az:x.Az=1
 KL:x.KL=1
 src:x.src=2
 Ag:x.Ag=⟨0,0⟩
 num:x.num<=p.num
 now:x.num=p.num->p.out=[]\/x.entries=p.out
 Je:x.entries.length<=12 /\ ∀ e ∈ x.entries,e ∈ H/\e.write=true
 floor:∃ g,g<=f/\x.floor=v1 g
def av8(C:Ctx)(H:List Entry)(f:Nat)(d:Md.AL)(x:Ad):Prop:=TY C H d.next x\/Us H f d.AB x
structure Lft(C:Ctx)(B:Nat)(H:List Entry)(f:Nat)(w:Ai):Prop where
 d:DS C X0 B H f w.d
 out:w.out.length<=B+B+100
 said:∀ x ∈ w.out,av8 C H f w.d x
def atz{w:Ai}(hw:WS C X B H f w){x:C4}(hx:rL H x):OU C H (yZ w x):=by
 obtain⟨h1,e,h2,h3,h4⟩:=hx;obtain⟨m1,m2⟩:=fm h2;have hf:=hw.d.find x.Ah;rw[h2]at hf;obtain⟨q,q1,q2,q3,q4,_⟩:=hw.d.h.call e m1;refine⟨rfl,h1,rfl,q,q1,?_,?_,.inr (.inr ⟨q4,e,m1,m2,h3,?_,?_,?_,?_⟩)⟩
 ·rw[q2,m2];rfl
 ·rw[q3,h3];rfl
 ·show(CA w.d.rep.seen x.Ah).1.code=e.code;rw[hf];rfl
 ·show(CA w.d.rep.seen x.Ah).1.res=e.res;rw[hf];rfl
 ·show(CA w.d.rep.seen x.Ah).1.IT=e.IT;rw[hf];rfl
 ·show(CA w.d.rep.seen x.Ah).1.Ag=e.Ag;rw[hf];rfl
def afu{d:Md.AL}(hw:DS C X B H f d){p:C3}(ho:p.out.length<=12 /\ ∀ e ∈ p.out,e ∈ H/\e.write=true):∀ x ∈ C7 (p,d.rep),Us H f p x:=by
 intro x hx;unfold C7 at hx;cases hc:p.out.isEmpty with
 | true=>rw[hc]at hx;cases hx
 | false=>rw[hc]at hx;rw[DO.1 (show x ∈ [nJ p d.rep] from hx),hw.rep];exact⟨rfl,rfl,rfl,rfl,rfl,rfl,rfl,JG _,λ_=>.inr rfl,ho,f,Ar _,rfl⟩
def av9{w:Ai}(hw:DS C X B H f w.d){p:C3}(_:1<=p.num)(ho:p.out.length<=12 /\ ∀ e ∈ p.out,e ∈ H/\e.write=true):∀ x ∈ C7 (p,w.d.rep),Us H f p x:=afu hw ho
def abT{w:Ai}(m:Ad)(h:WS C X0 B H f w)(hB:B+8<=8000):HH w m /\ ∃ f',f<=f'/\Lft C (B+8) H f' (HR w m):=by
 have ag7:Du w=v1 H.length:=h.d.kr;have Ur:=h.d.h.len;have iR:AU (Du w):=by rw[ag7];exact Ox (by omega)
 have Qq:w.d.rep.tail.log=H.drop f:=by rw[h.d.rep];rfl
 have Yl:w.d.rep.tail.floor=v1 f:=by rw[h.d.rep];rfl
 obtain⟨f',f1,f2,f3,f4⟩:=aqZ h.d.h h.d.FB.2 (H.length - f) f (by have:=h.d.fl;omega);have aiB:E4 w=v1 f':=by unfold E4 XQ;show Xx (Dx w.d.AB.done) (Du w) w.d.rep.tail.floor w.d.rep.tail.log=v1 f';rw[ag7,Yl,Qq];exact f3
 have rN:AU (E4 w):=by rw[aiB];exact Ox (by omega)
 have hlen:=h.d.Ti.2;have Ey:=h.d.clean.1;have oD:=h.out;have hwl:=h.d.waits.1;have T6:=h.d.FB.1;have hpo:=h.d.Gm.1;have X8:∀ e ∈ w.d.rep.tail.log,AU e.Ag:=λe he=>h.d.h.num (h.d.OV e he);have hdv:∀ x ∈ w.d.AB.done,AU x.Ag:=λx hx=>by obtain⟨e,e1,_,rfl,_⟩:=h.d.FB.2 x hx;exact h.d.h.num e1
 obtain⟨c1,c2⟩:=aoD (v:=E4 w) (room:=w.c.room) (L:=w.d.rep.tail.log) w.d.rep.tail.log.length 0 w.d.clean (Ev _);rw[Hf]at c1 c2;have hC:∀ x ∈ ae4 (E4 w) w.c.room w.d.rep.tail.log w.d.clean,Ix x/\Cl H x:=λx hx=>by
  rcases c2 x hx with hx | ⟨e,he,hv,rfl⟩
  ·exact h.d.clean.2 x hx
  ·have hE:=h.d.h.Ho e (h.d.OV e he);refine⟨⟨hE.key,?_⟩,aq2 (h.d.h.num (h.d.OV e he)) (aq1 (f:=f) (by rw[<- Qq];exact hv))⟩;show(bif !e.del then e.val else []).length<=2000;cases e.del with
   | true=>exact Bu _
   | false=>exact hE.val
 have h1:WS C X0 (B+8) H f (Jv w (E4 w)):=(h.mono (show B<=B+8 by omega)).uS (by show(PF _ _ _ _ _ _).length<=B+8;omega) hC;have zy:OG (Jv w (E4 w)).d.rep (E4 w)=DJ H f':=by show OG w.d.rep (E4 w)=_;rw[h.d.rep,aiB];exact amm h.d.h.Ag (by omega) f1 f2
 have h2:WS C X0 (B+8) H f' (Lr w):=by
  have e:Lr w=GQ (Jv w (E4 w)) (DJ H f'):=by unfold Lr;rw[zy]
  rw[e];refine {h1 with d:={h1.d with rep:=rfl,fl:=f2,log:=by have:=h1.d.log;omega,ap:=λx hx hw=>?_,ask:=λa ha=>?_}}
  ·have e2:H.take f'=H.take f++(H.drop f).take (f' - f):=by
    conv=>lhs;rw[show f'=f+(f' - f) by omega]
    rw[List.take_add]
   rw[e2]at hx;rcases Cp.1 hx with hx | hx
   ·exact h.d.ap x hx hw
   ·exact f4 x hx hw
  ·have h0:=h1.d.ask a ha;refine {h0 with now:=λhx=>?_};have:=h0.now hx;rw[Xp]at this ⊢;intro e he;exact this e (by rw[show f'=f+(f' - f) by omega,<- List.drop_drop]at he;exact Qd he)
 have hdl:(Gg w).d.AB.done.length<=B:=CI (KS _ _) T6;have h3:WS C X0 (B+8) H f' (Gg w):={h2 with d:={h2.d with Kw:=h2.d.Kw,Gm:=h2.d.Gm,FB:=⟨by omega,λx hx=>h.d.FB.2 x (Gz.1 hx).1⟩}}
 have h4:WS C X0 (B+8) H f' (Fk (Gg w)):={h3 with d:={h3.d with rep:=h3.d.rep}}
 have ayg:(Fk (Gg w)).d.waits.length<=B:=hwl;have azs:(I6 (Fk (Gg w)) (Du w) (Fk (Gg w)).d.waits).length<=B:=by unfold I6;rw[OK];exact CI (KS _ _) ayg
 have hao:(C1 w).out.length<=B+B:=by show((Fk (Gg w)).out++I6 (Fk (Gg w)) (Du w) (Fk (Gg w)).d.waits).length<=B+B;rw[CB];have:(Fk (Gg w)).out.length<=B:=oD;omega
 have h5:DS C X0 (B+8) H f' (C1 w).d:={h4.d with waits:=⟨CI (KS _ _) h4.d.waits.1,λx hx=>h4.d.waits.2 x (Gz.1 hx).1⟩}
 have azt:=h5.Ti.2;have zz:∀ x ∈ (C1 w).out,TY C H (C1 w).d.next x:=λx hx=>by
  rcases Cp.1 (show x ∈ (Fk (Gg w)).out++I6 (Fk (Gg w)) (Du w) (Fk (Gg w)).d.waits from hx)with hx | hx
  ·exact h4.said x hx
  ·obtain⟨y,hy,rfl⟩:=Mz.1 hx;exact .inl (atz h4 (h4.d.waits.2 y (Gz.1 hy).1))
 have awa:∀ e ∈ (C1 w).d.rep.tail.log,AU e.Ag:=λe he=>h5.h.num (h5.OV e he);have ayh:∀ x ∈ (C1 w).d.AB.done,AU x.Ag:=λx hx=>by obtain⟨e,e1,_,rfl,_⟩:=h5.FB.2 x hx;exact h5.h.num e1
 have hba:Wo (Et (C1 w) (Du w)).ba:=⟨by show(C1 w).d.rep.tail.log.length<=12;omega,by show(C1 w).d.AB.done.length<=100000;have:=h5.FB.1;omega,iR,awa,ayh⟩
 have iS:0<=w.d.AB.num/\w.d.AB.num<=B:=h.d.Kw;have hst:(EB (Et (C1 w) (Du w))).1.out.length<=12/\(∀ e ∈ (EB (Et (C1 w) (Du w))).1.out,e ∈ H/\e.write=true)/\(0<=(EB (Et (C1 w) (Du w))).1.num/\(EB (Et (C1 w) (Du w))).1.num<=((B+8:Nat):Int))/\(EB (Et (C1 w) (Du w))).1.done=(C1 w).d.AB.done /\
   ((EB (Et (C1 w) (Du w))).2=true->1<=(EB (Et (C1 w) (Du w))).1.num)/\SG C.p0 (EB (Et (C1 w) (Du w))).1:=by
  have hn5:(C1 w).d.AB.num=w.d.AB.num:=rfl;unfold EB;cases (Et (C1 w) (Du w)).p.out.isEmpty with
  | false=>exact⟨h5.Gm.1,h5.Gm.2,h5.Kw,rfl,λh=>(by cases h),h5.pu⟩
  | true=>
   cases (KJ (Et (C1 w) (Du w)).ba).isEmpty with
   | true=>exact⟨h5.Gm.1,h5.Gm.2,h5.Kw,rfl,λh=>(by cases h),h5.pu⟩
   | false=>
    have hw1:Ao ((Et (C1 w) (Du w)).p.num+1)=w.d.AB.num+1:=by show Ao (w.d.AB.num+1)=_;rw[Ru];omega
    refine⟨abD hba,λe he=>?_,?_,rfl,λ_=>?_,.inl ?_⟩
    ·obtain⟨b1,b2⟩:=aoE (Et (C1 w) (Du w)).ba e he;exact⟨h5.OV e b1,b2⟩
    ·show 0<=Ao _/\Ao _<=_;rw[hw1];omega
    ·show 1<=Ao _;rw[hw1];omega
    ·show C.p0.num<Ao _;rw[hw1];rcases(show SG C.p0 w.d.AB from h.d.pu)with h | ⟨h,_⟩ <;> omega
 refine⟨⟨⟨by show w.d.rep.tail.log.length<=100000;omega,by show w.d.AB.done.length<=100000;omega,iR,X8,hdv⟩,
  ⟨rN,λe he=>⟨X8 e he,(h.d.h.Ho e (h.d.OV e he)).key,(h.d.h.Ho e (h.d.OV e he)).val⟩,⟨by omega,λx hx=>(h.d.clean.2 x hx).1⟩,by omega⟩,
  ⟨h1.d.short,⟨by show w.d.rep.tail.log.length<=10000;omega,?_,?_,rN,X8,?_⟩⟩,
  ⟨⟨by show w.d.AB.out.length<=100000;omega,by show w.d.AB.done.length<=100000;omega⟩,by show(Lr w).d.rep.tail.log.length<=100000;have:=h2.d.Ti.2;omega⟩,
  h3.d.es,
  ⟨h4.d.kE,iR,?_,by omega,by show w.out.length<=1000000;omega,λx hx=>?_⟩,
  ⟨⟨by show w.d.AB.out.length<=100000;omega,by show(Gg w).d.AB.done.length<=100000;omega⟩,hba⟩,
  by omega,by omega⟩,f',f1,?_⟩
 ·show AU w.d.rep.tail.floor;rw[Yl];exact Ox (by omega)
 ·exact h.d.last.2.1
 ·show E1 w.d.rep.tail.floor w.d.rep.tail.last;rw[Yl,h.d.last.1];unfold E1;rw[Ty (by omega) (by have:=h.d.fl;omega)];have:=h.d.fl;simp;omega
 ·rw[h4.d.rep];exact Ox (by omega)
 ·obtain⟨_,e,e1,_,e3⟩:=h4.d.waits.2 x hx;rw[e3];exact h.d.h.num (fm e1).1
 unfold HR;cases xT (C1 w) m with
 | true=>exact⟨h5,by rw[Ae];omega,λx hx=>.inl (zz x hx)⟩
 | false=>
  rw[Aj];have hP:DS C X0 (B+8) H f' (NF (C1 w) (EB (Et (C1 w) (Du w))).1).d:={h5 with Kw:=hst.2.2.1,Gm:=⟨hst.1,hst.2.1⟩,pu:=hst.2.2.2.2.2,FB:=by show(EB (Et (C1 w) (Du w))).1.done.length<=B+8 /\ ∀ x ∈ (EB (Et (C1 w) (Du w))).1.done,_;rw[hst.2.2.2.1];exact h5.FB}
  unfold pb;cases hb:(EB (Et (C1 w) (Du w))).2 with
  | true=>
   have Yl:=aaX ((EB (Et (C1 w) (Du w))).1,(C1 w).d.rep);refine⟨hP,?_,λx hx=>?_⟩
   ·show((C1 w).out++C7 ((EB (Et (C1 w) (Du w))).1,(C1 w).d.rep)).length<=_;rw[CB];omega
   ·rcases Cp.1 (show x ∈ (C1 w).out++C7 ((EB (Et (C1 w) (Du w))).1,(C1 w).d.rep) from hx)with hx | hx
    ·exact .inl (zz x hx)
    ·exact .inr (av9 h5 (hst.2.2.2.2.1 hb) ⟨hst.1,hst.2.1⟩ x hx)
  | false=>exact⟨hP,by show(C1 w).out.length<=_;omega,λx hx=>.inl (zz x hx)⟩
end
section
variable {C:Ctx} {X:An->Prop} {B:Nat} {H:List Entry} {f:Nat}
structure VaI(H:List Entry)(d:Md.AL)(m:Ad):Prop where
 kd:m.kind=18
 dst:m.dst=2
 num:m.num<=d.next
 itm:Ix (K5 m)
 now:∀ a ∈ d.asks,a.num=m.num->a.key=m.key->Cl H (K5 m)
structure FdI(C:Ctx)(d:Md.AL)(m:Ad):Prop where
 kd:m.kind=16
 dst:m.dst=2
 code:m.code=0
 num:m.num<=d.AB.num
 now:m.num=d.AB.num -> ∀ e ∈ d.AB.out,Ap C e
def WS.awb{w:Ai}(h:WS C X B H f w){m:Ad}(hi:Ix (K5 m)):WS C X B H f (ow w m):={h with DI:=hi}
def atA{w:Ai}{m:Ad}(hw:WS C X0 B H f w)(hi:Ix (K5 m))(Ey:∀ a ∈ w.d.asks,a.num=m.num->a.key=m.key->Cl H (K5 m))(hB:B+9<=9000):gZ Hq w m/\To C X0 (B+9) H f (TX Hq w m):=by
 have azu:=hw.d.asks;unfold TX;cases hf:Kn w m with
 | false=>exact⟨⟨by omega,λh=>by rw[hf]at h;cases h⟩,(hw.mono (by omega)).to⟩
 | true=>
  rw[Tj];by_cases DU:GV w m<w.d.asks.length
  ·have Fo:w.d.asks.getD (GV w m) default ∈ w.d.asks:=De (z:=(default:Md.Ask)) DU;have ha:=hw.d.ask _ Fo;have o8:TW m (w.d.asks.getD (GV w m) default)=true:=by
    have hg:w.d.asks.getD (GV w m) default=w.d.asks[GV w m]:=by simp[List.getD,DU]
    rw[hg];exact List.findIdx_getElem (p:=TW m) (xs:=w.d.asks) (w:=DU)
   obtain⟨k1,k2⟩:=A4 o8;have k1:=El k1;have k2:(w.d.asks.getD (GV w m) default).key=m.key:=by rw[DV]at k2;simpa using k2
   have hC:=Ey _ Fo k1 k2;have hg:WS C X0 (B+1) H f (bK w m (GV w m)):=by
    refine((((hw.drop (GV w m)).awb hi).mono (Nat.le_succ B)).uS (L:=GC (w.d.clean,K5 m,w.c.room)) ?_ λx hx=>?_)
    ·have:=mN (w.d.clean,K5 m,w.c.room);have:=hw.d.clean.1;simp only at *;omega
    ·rcases uK (w.d.clean,K5 m,w.c.room) x hx with hx | rfl
     ·exact hw.d.clean.2 x hx
     ·exact⟨hi,hC⟩
   have CZ:RY (bK w m (GV w m)) m.key:=vM hw.d.keys DU k2;have hl:=ha.len;obtain⟨a,b,_⟩:=ua (k:=m.key) (w.d.asks.getD (GV w m) default).calls hg (λq hq=>⟨(ha.calls q hq).1,(ha.calls q hq).2.trans k2⟩) CZ (.inr ⟨rfl,rfl⟩) (by omega);rw[Cd DU,Ae];refine⟨⟨by omega,λ_ _=>⟨?_,by omega,a⟩⟩,b.mono (by omega)⟩;exact⟨⟨by have:=hw.d.clean.1;show w.d.clean.length<=_;omega,λx hx=>(hw.d.clean.2 x hx).1⟩,hi,by have:=hw.d.clean.1;show w.d.clean.length<=_;omega⟩
  ·rw[Js (by omega),Aj];exact⟨⟨by omega,λ_ h=>absurd h DU⟩,(hw.mono (by omega)).to⟩
def ajX{w:Ai}{m:Ad}(h:WS C X B H f w)(hc:m.code=0)(hm:m.num=w.d.AB.num -> ∀ e ∈ w.d.AB.out,Ap C e):WS C X (B+12) H f (NF w (Ht w.d.AB m).1):=by
 have k:=h.mono (show B<=B+12 by omega);have hp:(Ht w.d.AB m).1.num=w.d.AB.num/\((Ht w.d.AB m).1.out=[]\/(Ht w.d.AB m).1.out=w.d.AB.out)/\(Ht w.d.AB m).1.done.length<=B+12 /\ ∀ x ∈ (Ht w.d.AB m).1.done,∃ e ∈ H,e.write=true/\x=LU e/\Ap C e:=by
  unfold Ht;cases decide ((w.d.AB.out.length:Int)=0)with
  | true=>exact⟨rfl,.inr rfl,k.d.FB.1,k.d.FB.2⟩
  | false=>
   cases hn:decide (m.num=w.d.AB.num)with
   | false=>exact⟨rfl,.inr rfl,k.d.FB.1,k.d.FB.2⟩
   | true=>
    rw[Ax hc];refine⟨rfl,.inl rfl,?_,λx hx=>?_⟩
    ·show(gK w.d.AB).length<=B+12;unfold gK;have h1:=h.d.FB.1;have h2:=h.d.Gm.1;have h3:=KS (λx=>!Ck x.key (w.d.AB.out.map λe=>e.key)) w.d.AB.done;rw[CB,OK];omega
    ·rcases Cp.1 (show x ∈ gK w.d.AB from hx)with hx | hx
     ·exact h.d.FB.2 x (Gz.1 hx).1
     ·obtain⟨e,he,rfl⟩:=Mz.1 hx;exact⟨e,(h.d.Gm.2 e he).1,(h.d.Gm.2 e he).2,rfl,hm (El hn) e he⟩
 obtain⟨p1,p2,p3,p4⟩:=hp;refine {k with d:={k.d with Kw:=by show 0<=(Ht w.d.AB m).1.num/\(Ht w.d.AB m).1.num<=((B+12:Nat):Int);rw[p1];exact k.d.Kw,Gm:=?_,FB:=⟨p3,p4⟩,pu:=?_}}
 ·show(Ht w.d.AB m).1.out.length<=12 /\ ∀ e ∈ (Ht w.d.AB m).1.out,_;rcases p2 with p2 | p2
  ·rw[p2];exact⟨by simp,λe he=>by cases he⟩
  ·rw[p2];exact k.d.Gm
 ·have:=h.d.pu;unfold SG at this ⊢;show C.p0.num<(Ht w.d.AB m).1.num\/(Ht w.d.AB m).1.num=C.p0.num/\((Ht w.d.AB m).1.out=[]\/(Ht w.d.AB m).1.out=C.p0.out)
  rw[p1];rcases this with h1 | ⟨h1,h2⟩
  ·exact .inl h1
  ·refine .inr ⟨h1,?_⟩;rcases p2 with p2 | p2
   ·exact .inl p2
   ·rw[p2];exact h2
def ag8{d:Md.AL}(h:DS C X0 B H f d):WS C X0 B H f (Bq d K1):=⟨h,rfl,Bu _,λx hx=>(by cases hx),⟨Bu _,Bu _⟩⟩
def DS.rp{d:Md.AL}(h:DS C X B H f d):Qr d.rep:=by
 have h1:=h.Ti.2;have h2:=h.kE.1;refine⟨?_,by omega,by omega,?_⟩
 ·rw[h.rep];show 1<=100000;omega
 ·rw[h.rep];show 1<=100000;omega
def DS.dk{d:Md.AL}(h:DS C X0 B H f d)(hB:B<=8000):K3 d:=
 ⟨h.rp,by have:=h.Gm.1;omega,by have:=h.FB.1;omega,by have:=h.clean.1;omega,by have:=h.waits.1;omega,by have:=h.asks;omega,λa ha=>⟨by have:=(h.ask a ha).len;omega,λq hq=>(h.ops.op q ((h.ask a ha).calls q hq).1).ms⟩⟩
def akJ{w:Ai}(h:WS C X B H f w){q:Ad}(hq:q ∈ C.ops){i:Nat}(hi:i<w.d.asks.length)(hk:(w.d.asks.getD i default).key=q.op.key)(hl:(w.d.asks.getD i default).calls.length<8):WS C X B H f (Xy w i q):=by
 have Fo:w.d.asks.getD i default ∈ w.d.asks:=De (z:=(default:Md.Ask)) hi;have yt:(OT w.d.asks i q).map Md.Ask.key=w.d.asks.map Md.Ask.key:=by
  unfold OT;rw[List.map_set];refine List.ext_getElem (by simp) λn h1 h2=>?_;rw[List.getElem_set];by_cases hn:i=n
  ·subst hn;simp[List.getD,hi]
  ·rw[AE hn]
 refine {h with d:={h.d with asks:=by show(OT w.d.asks i q).length<=B;unfold OT;rw[XD];exact h.d.asks,keys:=?_,ask:=λa ha=>?_}}
 ·show(OT w.d.asks i q).Pairwise λa b=>a.key ≠ b.key;have h1:(w.d.asks.map Md.Ask.key).Pairwise (· ≠ ·):=List.pairwise_map.2 h.d.keys;rw[<- yt]at h1;exact List.pairwise_map.1 h1
 ·rcases List.mem_or_eq_of_mem_set (show a ∈ w.d.asks.set i {w.d.asks.getD i default with calls:=(w.d.asks.getD i default).calls++[q]} from ha)with ha | rfl
  ·exact h.d.ask a ha
  ·have h0:=h.d.ask _ Fo;refine⟨h0.num,h0.key,?_,λx hx=>?_,h0.now,h0.Bc⟩
   ·show((w.d.asks.getD i default).calls++[q]).length<=8;rw[CB,FD];omega
   ·rcases Cp.1 (show x ∈ (w.d.asks.getD i default).calls++[q] from hx)with hx | hx
    ·exact h0.calls x hx
    ·rw[DO.1 hx];exact⟨hq,hk.symm⟩
def atB{w:Ai}{k:An}(hp:w.d.asks.Pairwise λa b=>a.key ≠ b.key){j:Nat}(hj:j<w.d.asks.length)(hk:(w.d.asks.getD j default).key=k):Hp w k=j:=by
 have hg:∀ i,(hi:i<w.d.asks.length)->w.d.asks.getD i default=w.d.asks[i]:=λi hi=>by simp[List.getD,hi]
 rw[hg j hj]at hk;refine(List.findIdx_eq hj).2 ⟨by show A5 (w.d.asks[j]).key k=true;rw[DV];simpa using hk,λi DC=>?_⟩;have hi:i<w.d.asks.length:=by omega
 have:=XX.1 hp i j hi hj DC;show A5 (w.d.asks[i]).key k=false;rw[DV];rw[hk]at this;simpa using this
def Pg(C:Ctx)(B:Nat)(H:List Entry)(f:Nat)(w:Ai):Prop:=∃ H' f',Gr H H'/\f<=f'/\Lft C B H' f' w
def To.wX{w:Ai}(m:Ad)(h:To C X0 B H f w)(hB:B+8<=8000):HH w m/\Pg C (B+8) H f (IA w m):=by obtain⟨H',g,hw⟩:=h;obtain⟨a,f',b,c⟩:=abT m hw hB;refine⟨a,H',f',g,b,?_⟩;unfold IA;rw[hw.d.head,Ae];exact c
def Pg.mono{D:Nat}{w:Ai}(h:Pg C B H f w)(hB:B<=D):Pg C D H f w:=by obtain⟨H',f',a,b,c⟩:=h;exact⟨H',f',a,b,c.d.mono hB,by have:=c.out;omega,c.said⟩
def Xd{d:Md.AL}{m:Ad}(hd:DS C X0 B H f d)(hm:m ∈ C.ops\/FdI C d m)(hB:B+30<=8000):Oi (d,K1,m)/\Pg C (B+30) H f (EW (d,K1,m)):=by
 have hw:=ag8 hd;have aiC:Ny (d,K1,m)->nU (d,K1,m)/\Pg C (B+30) H f (IA (Vk (d,K1,m)) m):=by
  intro ht;have hc:m ∈ C.ops:=by
   rcases hm with h | h
   ·exact h
   ·exact absurd (ht.kd.symm.trans h.kd) (by decide)
  have DU:GU (d,K1,m)<d.asks.length:=ht.ix;have hroom:((d.asks.getD (GU (d,K1,m)) default).calls.length:Int)<8:=ht.room;have Sh:(d.asks.getD (GU (d,K1,m)) default).key=m.op.key:=by
   have hg:d.asks.getD (GU (d,K1,m)) default=d.asks[GU (d,K1,m)]:=by simp[List.getD,DU]
   have:=List.findIdx_getElem (p:=Yd m.op.key) (xs:=d.asks) (w:=DU);rw[hg];have t:A5 (d.asks[GU (d,K1,m)]).key m.op.key=true:=this;rw[DV]at t;simpa using t
  have hf:=hw.find m.op.key;have ea:(B4 (Bq d K1) m.op.key).2.2.d.asks=d.asks:=l9 _ _;have hT:WS C X0 (B+1) H f (Vk (d,K1,m)):=akJ hf hc (by rw[ea];exact DU) (by rw[ea];exact Sh) (by rw[ea];omega);obtain⟨b1,b2⟩:=hT.to.wX m (by omega);exact⟨⟨hd.dk (by omega),hd.kE,hd.last.2.1,hw.fi (by omega),by show(d.asks.getD (GU (d,K1,m)) default).calls.length<=100000;omega,(hd.ops.op m hc).ms,λ_=>b1⟩,b2.mono (by omega)⟩
 have rest:¬ Ny (d,K1,m)->gY E3 (d,K1,m)/\Pg C (B+30) H f (OH E3 (d,K1,m)):=by
  intro GI;have fin:∀ {w:Ai},To C X0 (B+12) H f w->Hz E3 (Bq d K1) m=w->ga E3 (Bq d K1) m->gY E3 (d,K1,m)/\Pg C (B+30) H f (OH E3 (d,K1,m)):=by intro w h1 he hk;obtain⟨b1,b2⟩:=h1.wX m (by omega);refine⟨⟨hd.dk (by omega),hk,λ_=>by show HH (Hz E3 (Bq d K1) m) m;rw[he];exact b1⟩,?_⟩;show Pg C (B+30) H f (IA (Hz E3 (Bq d K1) m) m);rw[he];exact b2.mono (by omega)
  have h0:To C X0 (B+12) H f (Bq d K1):=(hw.mono (by omega)).to;rcases hm with hc | hc
  ·have ho:=hd.ops.op m hc;have hk:=ho.kd;have ag9:bG Hq (Bq d K1) m/\To C X0 (B+10) H f (Qb Hq (Bq d K1) m):=by
    refine aoB hw hc (by omega) λhg ha hn j hj hjk hjl=>?_;have ea:(B4 (Bq d K1) m.op.key).2.2.d.asks=d.asks:=l9 _ _;have ec:(B4 (Bq d K1) m.op.key).2.2.c=K1:=aaY _ _;rw[ea]at hj hjk hjl;rw[ec]at hjl;have DU:GU (d,K1,m)=j:=atB (w:=Bq d K1) hd.keys hj hjk;exact GI ⟨hk,by rw[ho.dst,hd.rep];rfl,by rw[ho.AQ,hd.rep];rfl,hd.head,hg,ha,hn,by rw[DU];exact hj,by rw[DU];exact hjl⟩
   have KP:Hz E3 (Bq d K1) m=bif decide (m.dst=d.rep.self.node)&&(decide (m.AQ=d.rep.AQ)&&CH d.rep)then Qb Hq (Bq d K1) m else Bq d K1:=by unfold Hz;rw[Ax hk];rfl
   have kF:ga E3 (Bq d K1) m:=⟨.inl hk,λ_ h1 h2 h3=>ag9.1,λh=>absurd (hk.symm.trans h) (by decide),λh=>by rcases h with h | h <;> exact absurd (hk.symm.trans h) (by decide)⟩
   cases aiD:decide (m.dst=d.rep.self.node)&&(decide (m.AQ=d.rep.AQ)&&CH d.rep)with
   | false=>exact fin h0 (by rw[KP,aiD];rfl) kF
   | true=>exact fin (ag9.2.mono (by omega)) (by rw[KP,aiD];rfl) kF
  ·have hk:=hc.kd;have kF:ga E3 (Bq d K1) m:=⟨.inr (.inr (.inr hk)),λh=>absurd (hk.symm.trans h) (by decide),λ_=>⟨by show d.AB.out.length<=100000;have:=hd.Gm.1;omega,by show d.AB.done.length<=100000;have:=hd.FB.1;omega⟩,λh=>by rcases h with h | h <;> exact absurd (hk.symm.trans h) (by decide)⟩
   have KP:Hz E3 (Bq d K1) m=bif Kn (Bq d K1) m then NF (Bq d K1) (Ht d.AB m).1 else Bq d K1:=by unfold Hz;rw[AN (show ¬ m.kind=5 by omega),Ax hk];rfl
   cases hf:Kn (Bq d K1) m with
   | false=>exact fin h0 (by rw[KP,hf];rfl) kF
   | true=>exact fin (ajX hw hc.code hc.now).to (by rw[KP,hf];rfl) kF
 refine⟨⟨λh=>(aiC h).1,λh=>(rest h).1⟩,?_⟩;unfold EW;by_cases ht:Ny (d,K1,m)
 ·rw[Ay ht];exact(aiC ht).2
 ·rw[AE ht];exact(rest ht).2
def aoF{d:Md.AL}{m:Ad}(hd:DS C X0 B H f d)(hm:VaI H d m)(hB:B+30<=8000):zu (d,K1,m)/\Pg C (B+30) H f (xW (d,K1,m)):=by have hw:=ag8 hd;obtain⟨v1,v2⟩:=atA (m:=m) hw hm.itm hm.now (by omega);obtain⟨b1,b2⟩:=v2.wX m (by omega);exact⟨⟨hm.kd,hd.dk (by omega),v1,λ_=>b1⟩,b2.mono (by omega)⟩
end
end Go.Hd
namespace Go.AM
def HM.agg{w:World}{I J:Nat->Prop}{φ:Ac}{cs A3:List AV}(h:HN w I J φ cs A3):HM w I J φ (.agg cs) (.agg A3):=by
 intro u hu;cases hu with
 | agg _ vs hl h1 hr=>refine .agg _ vs (h.1.trans hl) h1 λk c u e e'=>?_;obtain⟨c0,e0,r⟩:=h.2 k c e;exact r u (hr k c0 u e0 e')
def HM.Am{w:World}{I J:Nat->Prop}{φ:Ac}{cs A3:List AV}(h:HN w I J φ cs A3):HM w I J φ (.Am cs) (.Am A3):=by
 intro u hu;cases hu with
 | Am _ vs hl hr=>refine .Am _ vs (h.1.trans hl) λk c u e e'=>?_;obtain⟨c0,e0,r⟩:=h.2 k c e;exact r u (hr k c0 u e0 e')
def HM.zA{w:World}{I J:Nat->Prop}{φ:Ac}{m sz n:Nat}{f:Nat->List AV}(hI:∀ B,J B->I B)(hJ:∀ B,J B->m<=B/\F7 w B):HM w J I φ (.tr sz n f) (.mk 2 m (.tr sz n f)):=by
 intro u hu;have t:RV w I Ac.no (.tr sz n f) u:=by
  cases hu with
  | tr _ _ _ B o cap uf hB hn C6 hlen hc h1 hr=>exact .tr sz n f B o cap uf (λh=>hI _ (hB h)) hn C6 hlen hc h1 λi k c hi e=>(hr i k c hi e).mono (λB hB=>⟨hI B hB,rfl⟩) (λ_=>Ar _) (Ac.le_refl _)
  | Cq _ _ a=>exact .Cq sz f a
 cases hu with
 | tr _ _ _ B o cap uf hB hn C6 hlen hc h1 hr=>exact .mk 2 m _ _ _ _ t λB' q p e h0=>by cases e;exact⟨hI _ (hB h0),hJ _ (hB h0)⟩
 | Cq _ _ a=>exact .mk 2 m _ _ _ _ t λB q p e h0=>absurd h0 (DP 0)
end Go.AM
namespace Go.Hd
open Go.Wk
def Bp(n:Nat):List AV:=List.replicate n .undef
def dkR(m:Nat)(d:Md.AL):List AV:=Bp 11++(.mk 2 m (AY d.rep.tail.log)::(Bp 6++(.mk 2 m (Bi d.clean)::(Bp 1++(.sn 4 0 d.waits.length::Bp 2)))))
def dg(m:Nat)(x:Ad):List AV:=Bp 23++(.mk 2 m (AY x.entries)::Bp 7)
def pd(m:Nat)(W:Ai):AV:=.Am [.agg (dkR m W.d),.sn 31 2 W.out.length]
def kG(m:Nat)(W:Ai):Heap:=[.seq true 4 W.d.waits.length (CM W.d.waits),.dead,.seq true 31 W.out.length λi=>dg m (W.out.getD i default)]
section
variable {w:World} {I J:Nat->Prop} {φ:Ac} {m:Nat}
def Oy:∀ (l:List AV),HN w J I φ l (Bp l.length)
 | []=>.nil
 | _::r=>.cons .undef (Oy r)
def atC(hI:∀ B,J B->I B)(hJ:∀ B,J B->m<=B/\F7 w B)(d:Md.AL):HN w J I φ (Hc 0 d) (dkR m d):=
 .append (Oy [.int .i64 d.rep.AQ,.int .i64 d.rep.self.node,.int .i64 d.rep.self.BD,.int .i64 d.rep.view.AQ,.int .i64 d.rep.view.Az,.int .i64 d.rep.view.gen,.int .i64 d.rep.view.phase,CD d.rep.view.chain,.int .i64 d.rep.frozen,.Al .f64 d.rep.tail.floor.re d.rep.tail.floor.im,.Al .f64 d.rep.tail.last.re d.rep.tail.last.im])
  (.cons (.zA hI hJ) (.append (Oy [B7 d.rep.seen,.Al .f64 d.rep.B5.re d.rep.B5.im,E6 d.rep.synced,.int .i64 d.AB.num,AY d.AB.out,Bi d.AB.done]) (.cons (.zA hI hJ) (.append (Oy [.bool d.busy]) (.cons (.jf rfl) (Oy [.sn 3 1 d.asks.length,.int .i64 d.next]))))))
def atD(hI:∀ B,J B->I B)(hJ:∀ B,J B->m<=B/\F7 w B)(x:Ad):HN w J I φ (Aq x) (dg m x):=
 .append (Oy [.int .i64 x.kind,.int .i64 x.src,.int .i64 x.dst,.int .i64 x.BD,.int .i64 x.KL,.int .i64 x.AQ,.int .i64 x.Az,.int .i64 x.gen,.int .i64 x.Ah,.int .i64 x.num,.int .i64 x.a,.int .i64 x.code,.bool x.has,.bool x.fresh,.str x.key,.str x.val,.Al .f64 x.Ag.re x.Ag.im,.Al .f64 x.floor.re x.floor.im,.int .i64 x.op.kind,.str x.op.key,.str x.op.val,.str x.op.Bc,.bool x.op.IU])
  (.cons (.zA hI hJ) (Oy [CD x.chain,Iq x.views,.Al .f64 x.image.floor.re x.image.floor.im,.Al .f64 x.image.last.re x.image.last.im,.int .i64 x.image.gen,AY x.image.log,B7 x.image.seen]))
end
def TU.con{f m:Nat}{A:List AV}{W:Ai}(h:TU PG f m A (iQ W) (QW W))(hw:vC m A):At PG f A [] (pd m W) (kG m W):=by
 intro w I φ ra hh hx;have:=UX hh;subst this;refine(h w I ra hh hx (hw.VY hx).le).mono λu w' ⟨φ',J,a1,a2,a3,a4,a5,a6⟩=>?_;have hI:∀ B,J B->I B\/J B:=λB hB=>.inr hB;have Bc:∀ B,I B->w'.heap[B]? = w.heap[B]? := λB hB=>a3.keep B (hh.lt B hB) id;refine⟨φ',λB=>I B\/J B,HM.Am (.cons (.agg (atC hI a4 W.d)) (.cons (.jf rfl) .nil)) u a1,a2.tell (hp':=kG m W) ?_ ?_ rfl ?_,λb p hb=>absurd hb (C5 b),λB hB=>.inl hB,λB hB=>?_,λB hB=>.inr ?_,a3.weaken λB hB=>hB.elim,λB hB hy=>?_⟩
 ·intro B hB hx;rcases hx with x | x
  ·have:=hh.lt B x;have:=(a5 B hB).1;omega
  ·obtain⟨b,o,s,e1,e2⟩:=hB;exact a2.CP b B o s e1 e2 x
 ·rintro B (x | x)
  ·exact He (hh.lt B x) a3.size
  ·exact a2.lt B x
 ·intro b hb
  match b,hb with
  | 0,_=>exact(Dv.seq λi _=>.jf rfl).at 0
  | 1,_=>exact .inl rfl
  | 2,_=>exact(Dv.seq λi _=>atD hI a4 _).at 2
  | n+3,hb=>exact absurd (show n+3<3 from hb) (by omega)
 ·rcases hB with x | x
  ·exact .inl x
  ·exact(a6 B x).imp id .inr
 ·refine(a5 B ?_).1;obtain⟨b,o,s,e1,e2⟩:=hB
  match b,e1 with
  | 0,_=>exact⟨0,o,s,rfl,e2⟩
  | 2,_=>exact⟨2,o,s,rfl,e2⟩
 ·rcases hB with (x | x) | x
  ·intro c e fz hc;exact hy (.inl x) c e fz ((Bc B x).symm.trans hc)
  ·exact(a4 B x).2
  ·refine(a5 B ?_).2;obtain⟨b,o,s,e1,e2⟩:=x
   match b,e1 with
   | 0,_=>exact⟨0,o,s,rfl,e2⟩
   | 2,_=>exact⟨2,o,s,rfl,e2⟩
def ajY(m:Nat){C:Ctx}{B:Nat}{H:List Entry}{f:Nat}{d:Md.AL}{q:Ad}(hd:DS C X0 B H f d)(hm:q ∈ C.ops)(hp:∀ x ∈ C.ops,Mj x)(hB:B+30<=8000) :
  At PG Ei [.agg (Jd m d),.agg (D4 K1),.agg (Aq q)] [] (pd m (EW (d,K1,q))) (kG m (EW (d,K1,q))):=by
 have ho:=hd.ops.op q hm;obtain⟨⟨k1,k2⟩,H',f',_,_,hl⟩:=Xd hd (.inl hm) hB;have hr:=hd.rep;have R8:q.dst=d.rep.self.node:=by rw[ho.dst,hr];rfl
 have MO:q.AQ=d.rep.AQ:=by rw[ho.AQ,hr];rfl
 have hh:=hd.head;have hdk:=hd.dk (by omega:B<=8000);have ha:∀ a ∈ d.asks,∀ c ∈ a.calls,Mj c:=λa h1 c h2=>hp c ((hd.ask a h1).calls c h2).1;have e5:BK q 5=q:=UZ ho.kd;refine TU.con ?_ ⟨0,_,rfl,7,_,rfl⟩;have RZ:CH (EW (d,K1,q)).d.rep=true:=hl.d.head;unfold EW at RZ ⊢;by_cases ht:Ny (d,K1,q)
 ·rw[Ay ht]at RZ ⊢;have ok:=k1 ht;have hf:CH (Vk (d,K1,q)).d.rep=true:=by
   cases hx:CH (Vk (d,K1,q)).d.rep with
   | true=>rfl
   | false=>unfold IA at RZ;rw[hx,Aj,hx]at RZ;cases RZ
  have:=amj (m:=m) (k:=K1) (q:=q) hdk R8 MO hh (hp q hm) ha ht.ix (by rw[e5];exact ad3 (d,K1,q) ht ok) (by rw[e5];exact hf) (by rw[e5];exact ok.bh hf);rw[e5]at this;unfold IA;rw[hf,Ae];exact this
 ·rw[AE ht]at RZ ⊢;have ok:=k2 ht;have KP:Hz E3 (Bq d K1) q=E3.f (Bq d K1) q:=by
   unfold Hz;rw[Ax ho.kd,Ae,Ax (show q.dst=(Bq d K1).d.rep.self.node from R8),Ax (show q.AQ=(Bq d K1).d.rep.AQ from MO)];have:CH (Bq d K1).d.rep=true:=hh;rw[this];rfl
  have e:OH E3 (d,K1,q)=IA (E3.f (Bq d K1) q) q:=by show IA (Hz E3 (Bq d K1) q) q=_;rw[KP]
  rw[e]at RZ ⊢;have hf:CH (E3.f (Bq d K1) q).d.rep=true:=by
   cases hx:CH (E3.f (Bq d K1) q).d.rep with
   | true=>rfl
   | false=>unfold IA at RZ;rw[hx,Aj,hx]at RZ;cases RZ
  have hb:HH (E3.f (Bq d K1) q) q:=by have:=ok.bh;dsimp only at this;rw[KP]at this;exact this hf
  have:=ami (m:=m) (k:=K1) (q:=q) hdk R8 MO hh (hp q hm) ha afj (by rw[e5];exact ok.main.call ho.kd R8 MO hh) (by rw[e5];exact hf) (by rw[e5];exact hb);rw[e5]at this;unfold IA;rw[hf,Ae];exact this
structure Row where
 key:An
 Ag:Au
 val:An
 del:Bool
instance:Inhabited Row:=⟨⟨[],⟨0,0⟩,[],false⟩⟩
def HT(r:Row):List AV:=[.str r.key,.Al .f64 r.Ag.re r.Ag.im,.str r.val,.bool r.del]
def PR(a:List AV):Row:=⟨Ia a 0,⟨(Ci a 1).1,(Ci a 1).2⟩,Ia a 2,Kr a 3⟩
def aa2(r:Row):PR (HT r)=r:=rfl
def DX(l:List Row):AV:=DQ 4 HT default l
def fD(l:List Row):Bm PR (DX l)=l:=Py aa2 l
def N7(l:List Af):Env:=Cw [(Pt,0,[0,1,4,5,6]),(SU,0,[0,3,5,6,4005999]),(SU,2,[0,3,5,7]),(Zt,0,[0,1,5,6,4005999]),(WL,0,[0,2,3])]
 [(Pt,0),(SU,0),(dU,0),(dS,0),(WL,0)] [] l
def rO(l:List Row)(k:An)(i:Int):St:={fr:=[(0,DX l),(1,.str k),(4,.ptr 0 0 0),(5,.bool false),(6,.int .i64 i)],hp:=[.arr true 4 [HT default]]}
def awc(N:Nat)(l:List Row)(k:An):A6 (N7 []) (N+1) Pt [DX l,.str k]=LP (N7 []) N 0 Pt By 0 [] N (rO l k 0):=by kernel_rfl
def kH(p:Row × Bool):AV:=.Am [.agg (HT p.1),.bool p.2]
def aha(N m:Nat)(l:List Row)(k:An)(i:Int):LP (N7 []) N 0 Pt By 0 [] (m+1) (rO l k i) =
 bif decide (i<(l.length:Int))then rg i l.length (bif A5 (l.getD i.toNat default).key k then rg i l.length (some (kH (l.getD i.toNat default,true)))else LP (N7 []) N 0 Pt By 0 [] m (rO l k (Ao (i+1))))
 else some (kH (default,false)):=by kernel_rfl
def ED(l:List Row)(k:An):Row × Bool:=match l.find? λr=>A5 r.key k with
 | some r=>(r,true)
 | none=>(default,false)
abbrev RK:=List Row × An
def kI(a:List AV):RK:=(Bm PR (a.getD 0 .Ak),Ia a 1)
def dh(p:RK):List AV:=[DX p.1,.str p.2]
def atF(p:RK):kI (dh p)=p:=Cv (fD p.1) rfl
def amr(p:RK)(h:p.1.length<=100000):At PG Pt (dh p) [] (kH (ED p.1 p.2)) []:=by
 obtain⟨l,k⟩:=p;have h:l.length<=100000:=h;obtain⟨N,hN⟩:∃ N,N=200000:=⟨_,rfl⟩
 have run:∀ d i m,i+d=l.length->d<m->LP (N7 []) N 0 Pt By 0 [] m (rO l k (i:Nat))=some (kH (ED (l.drop i) k)):=by
  intro d
  induction d with
  | zero=>intro i m hi hm;obtain⟨m,rfl⟩:=B3 m (by omega);rw[aha,AN (by omega),Aj,Gj (by omega)];rfl
  | succ d ih=>
   intro i m hi hm;obtain⟨m,rfl⟩:=B3 m (by omega);have hil:i<l.length:=by omega
   have hw:Ao ((i:Int)+1)=((i+1:Nat):Int):=Cs (by omega);rw[aha,Ax (show((i:Nat):Int)<(l.length:Int) by omega),Ae,B8 hil,B8 hil,BV,hw,drop_cons (z:=(default:Row)) hil];unfold ED;rw[List.find?_cons];cases A5 (l.getD i default).key k with
   | true=>rfl
   | false=>rw[Aj];exact ih (i+1) m (by omega) (by omega)
 exact Cx AR ((awc N l k).trans (by have:=run l.length 0 N (by omega) (by omega);rw[Hf]at this;exact this))
def wY:Af:=.spec Pt kI (λp=>p.1.length<=100000) dh (λp=>kH (ED p.1 p.2))
def abU:wY.Ok PG:=Af.BJ amr
def Vl{R:Type}(n:Nat)(K:Option R):Option R:=bif n.ble n then bif((n+1)*56).ble 140737488355328&&(n+1).ble 140737488355328 then K else none else none
def fo{R:Type}{n:Nat}(h:n<=1000000){K:Option R}:Vl n K=K:=by unfold Vl;rw[Bn (Ar _),Bn (show(n+1)*56<=140737488355328 by omega),Bn (show n+1<=140737488355328 by omega)];rfl
def HG{X:Type}(e:X->List AV)(z:X)(n:Nat)(F:Nat->List AV)(l:List X):Prop:=n=l.length /\ ∀ j,j<n->F j=e (l.getD j z)
def HG.nil{X:Type}{e:X->List AV}{z:X}{F:Nat->List AV}:HG e z 0 F []:=⟨rfl,λj hj=>absurd hj (C5 j)⟩
def HG.app{X:Type}{e:X->List AV}{z:X}{n:Nat}{F:Nat->List AV}{l:List X}(h:HG e z n F l)(x:X):HG e z (n+1) (BQ n F (View.list [e x])) (l++[x]):=by
 obtain⟨rfl,h⟩:=h;refine⟨by simp,λj hj=>?_⟩;by_cases hjl:j<l.length
 ·rw[Tc hjl,h j hjl];simp only[List.getD];rw[DY hjl]
 ·have:j=l.length:=by omega
  subst this;rw[Td (Ar _) (show l.length<l.length+1 by omega)];simp only[List.getD];rw[FC (Ar _),LN];rfl
def HG.sub{X:Type}{e:X->List AV}{z:X}{n:Nat}{F:Nat->List AV}{l:List X}{sz:Nat}(h:HG e z n F l):Br (.tr sz n F) (DQ sz e z l):=by obtain⟨rfl,h⟩:=h;exact .N2 λi hi=>by rw[h i hi];exact .refl _
def rP(l:List Row)(r:Row)(n:Nat)(F:Nat->List AV)(i:Int):St:={fr:=[(0,DX l),(3,.ptr 0 0 0),(5,.sn 4 1 n),(6,.int .i64 i),(4005999,.undef)],hp:=[.arr true 4 [HT r],.seq true 4 n F]}
def di(l:List Row)(r:Row)(n:Nat)(F:Nat->List AV)(i:Int):St:={fr:=[(0,DX l),(3,.ptr 0 0 0),(5,.sn 4 1 n),(7,.int .i64 i)],hp:=[.arr true 4 [HT r],.seq true 4 n F]}
def rQ(N m:Nat)(s:St):Option AV:=LP (N7 []) N 0 SU By 0 [] m s
def dj(N m:Nat)(s:St):Option AV:=LP (N7 []) N 0 SU By 2 [] m s
def awd(N:Nat)(l:List Row)(r:Row):A6 (N7 []) (N+1) SU [DX l,.agg (HT r)]=rQ N N (rP l r 0 (λ_=>[]) 0):=by kernel_rfl
def ahb(N m:Nat)(l:List Row)(r:Row)(n:Nat)(F:Nat->List AV)(i:Int):rQ N (m+1) (rP l r n F i) =
 bif decide (i<(l.length:Int))then rg i l.length (bif strLt (l.getD i.toNat default).key r.key then rg i l.length (Vl n (rQ N m (rP l r (n+1) (BQ n F (View.list [HT (l.getD i.toNat default)])) (Ao (i+1)))))
  else Vl n (dj N N (di l r (n+1) (BQ n F (View.list [HT r])) 0)))else Vl n (dj N N (di l r (n+1) (BQ n F (View.list [HT r])) 0)):=by kernel_rfl
def ahc(N m:Nat)(l:List Row)(r:Row)(n:Nat)(F:Nat->List AV)(i:Int):dj N (m+1) (di l r n F i) =
 bif decide (i<(l.length:Int))then rg i l.length (bif !(strLt (l.getD i.toNat default).key r.key||A5 (l.getD i.toNat default).key r.key)then rg i l.length (Vl n (dj N m (di l r (n+1) (BQ n F (View.list [HT (l.getD i.toNat default)])) (Ao (i+1)))))
  else dj N m (di l r n F (Ao (i+1))))else bif n.ble n then some (.tr 4 n F)else none:=by kernel_rfl
def Ph(r x:Row):Bool:=!(strLt x.key r.key||A5 x.key r.key)
def K6(l:List Row)(r:Row):List Row:=(l.takeWhile λx=>strLt x.key r.key)++r::l.filter (Ph r)
abbrev RR:=List Row × Row
def dRR(a:List AV):RR:=(Bm PR (a.getD 0 .Ak),PR (Bd a 1))
def eRR(p:RR):List AV:=[DX p.1,.agg (HT p.2)]
def aoG(p:RR)(h:p.1.length<=100000):At PG SU (eRR p) [] (DX (K6 p.1 p.2)) []:=by
 obtain⟨l,r⟩:=p;have h:l.length<=100000:=h;obtain⟨N,hN⟩:∃ N,N=200000:=⟨_,rfl⟩
 have bw:∀ d i m n F a,i+d=l.length->d<m->n<=200001+i->HG HT default n F a -> ∃ n' F',dj N m (di l r n F (i:Nat))=some (.tr 4 n' F')/\HG HT default n' F' (a++(l.drop i).filter (Ph r)):=by
  intro d
  induction d with
  | zero=>intro i m n F a hi hm hn hH;obtain⟨m,rfl⟩:=B3 m (by omega);refine⟨n,F,?_,by rw[Gj (by omega)];simpa using hH⟩;rw[ahc,AN (by omega),Aj,Bn (Ar _)];rfl
  | succ d ih=>
   intro i m n F a hi hm hn hH;obtain⟨m,rfl⟩:=B3 m (by omega);have hil:i<l.length:=by omega
   have hw:Ao ((i:Int)+1)=((i+1:Nat):Int):=Cs (by omega);rw[ahc,Ax (show((i:Nat):Int)<(l.length:Int) by omega),Ae,B8 hil,B8 hil,BV,hw,drop_cons (z:=(default:Row)) hil,fo (by omega)];have e:(!(strLt (l.getD i default).key r.key||A5 (l.getD i default).key r.key))=Ph r (l.getD i default):=rfl;rw[e,OJ];cases Ph r (l.getD i default)with
   | true=>obtain⟨n',F',e1,e2⟩:=ih (i+1) m (n+1) _ _ (by omega) (by omega) (by omega) (hH.app (l.getD i default));refine⟨n',F',e1,?_⟩;rw[JE]at e2;exact e2
   | false=>obtain⟨n',F',e1,e2⟩:=ih (i+1) m n F a (by omega) (by omega) (by omega) hH;exact⟨n',F',e1,e2⟩
 have zB:∀ d i m n F a,i+d=l.length->d<m->n<=i->HG HT default n F a -> ∃ n' F',rQ N m (rP l r n F (i:Nat))=some (.tr 4 n' F')/\HG HT default n' F' (a++((l.drop i).takeWhile λx=>strLt x.key r.key)++r::l.filter (Ph r)):=by
  intro d
  induction d with
  | zero=>intro i m n F a hi hm hn hH;obtain⟨m,rfl⟩:=B3 m (by omega);obtain⟨n',F',e1,e2⟩:=bw l.length 0 N (n+1) _ _ (by omega) (by omega) (by omega) (hH.app r);refine⟨n',F',?_,by rw[Gj (by omega),List.takeWhile_nil,FY];rw[Hf,JE]at e2;exact e2⟩;rw[ahb,AN (by omega),Aj,fo (by omega)];exact e1
  | succ d ih=>
   intro i m n F a hi hm hn hH;obtain⟨m,rfl⟩:=B3 m (by omega);have hil:i<l.length:=by omega
   have hw:Ao ((i:Int)+1)=((i+1:Nat):Int):=Cs (by omega);rw[ahb,Ax (show((i:Nat):Int)<(l.length:Int) by omega),Ae,B8 hil,B8 hil,BV,hw,drop_cons (z:=(default:Row)) hil,fo (by omega),fo (by omega),List.takeWhile_cons];cases strLt (l.getD i default).key r.key with
   | true=>obtain⟨n',F',e1,e2⟩:=ih (i+1) m (n+1) _ _ (by omega) (by omega) (by omega) (hH.app (l.getD i default));refine⟨n',F',e1,?_⟩;rw[JE a]at e2;exact e2
   | false=>obtain⟨n',F',e1,e2⟩:=bw l.length 0 N (n+1) _ _ (by omega) (by omega) (by omega) (hH.app r);refine⟨n',F',e1,?_⟩;rw[Hf,JE]at e2;rw[AE (by simp),FY];exact e2
 obtain⟨n,F,e1,e2⟩:=zB l.length 0 N 0 (λ_=>[]) [] (by omega) (by omega) (by omega) HG.nil;rw[Hf,NO]at e2;exact(Cx AR ((awd N l r).trans e1)).res e2.sub
def ahd:Af:=.spec SU dRR (λp=>p.1.length<=100000) eRR (λp=>DX (K6 p.1 p.2))
def aoH:ahd.Ok PG:=Af.BJ aoG
def aiE:List Af:=[fA]
def dm(l:List Row)(v:Au)(n:Nat)(F:Nat->List AV)(i:Int):St:={fr:=[(0,DX l),(1,eV v),(5,.sn 4 0 n),(6,.int .i64 i),(4005999,.undef)],hp:=[.seq true 4 n F]}
def dp(N m:Nat)(s:St):Option AV:=LP (N7 aiE) N 0 Zt By 0 [] m s
def awe(N:Nat)(l:List Row)(v:Au):A6 (N7 aiE) (N+1) Zt [DX l,eV v]=dp N N (dm l v 0 (λ_=>[]) 0):=by kernel_rfl
def ahe(N m:Nat)(l:List Row)(v:Au)(n:Nat)(F:Nat->List AV)(i:Int):dp N (m+1) (dm l v n F i) =
 bif decide (i<(l.length:Int))then rg i l.length (bif !(l.getD i.toNat default).del then rg i l.length (Vl n (dp N m (dm l v (n+1) (BQ n F (View.list [HT (l.getD i.toNat default)])) (Ao (i+1)))))
  else rg i l.length (fR v (l.getD i.toNat default).Ag λy=>bif AP y.1 y.2 then rg i l.length (Vl n (dp N m (dm l v (n+1) (BQ n F (View.list [HT (l.getD i.toNat default)])) (Ao (i+1)))))
   else dp N m (dm l v n F (Ao (i+1)))))else bif n.ble n then some (.tr 4 n F)else none:=by kernel_rfl
def stays(v:Au)(x:Row):Bool:=!x.del||AP v x.Ag
def VL(l:List Row)(v:Au):List Row:=l.filter (stays v)
abbrev dr:=List Row × Au
def pe(a:List AV):dr:=(Bm PR (a.getD 0 .Ak),⟨(Ci a 1).1,(Ci a 1).2⟩)
def iT(p:dr):List AV:=[DX p.1,eV p.2]
def aq3(p:dr):pe (iT p)=p:=Cv (fD p.1) rfl
def pf(p:dr):Prop:=p.1.length<=100000/\AU p.2 /\ ∀ x ∈ p.1,AU x.Ag
def aq4(p:dr)(h:pf p):At PG Zt (iT p) [] (DX (VL p.1 p.2)) []:=by
 obtain⟨l,v⟩:=p;obtain⟨h,hv,hx⟩:=h;have h:l.length<=100000:=h;obtain⟨N,hN⟩:∃ N,N=200000:=⟨_,rfl⟩
 have run:∀ d i m n F a,i+d=l.length->d<m->n<=i->HG HT default n F a -> ∃ n' F',dp N m (dm l v n F (i:Nat))=some (.tr 4 n' F')/\HG HT default n' F' (a++(l.drop i).filter (stays v)):=by
  intro d
  induction d with
  | zero=>intro i m n F a hi hm hn hH;obtain⟨m,rfl⟩:=B3 m (by omega);refine⟨n,F,?_,by rw[Gj (by omega)];simpa using hH⟩;rw[ahe,AN (by omega),Aj,Bn (Ar _)];rfl
  | succ d ih=>
   intro i m n F a hi hm hn hH;obtain⟨m,rfl⟩:=B3 m (by omega);have hil:i<l.length:=by omega
   have hm2:l.getD i default ∈ l:=De (z:=(default:Row)) hil;have hw:Ao ((i:Int)+1)=((i+1:Nat):Int):=Cs (by omega);rw[ahe,Ax (show((i:Nat):Int)<(l.length:Int) by omega),Ae,B8 hil,B8 hil,B8 hil,BV,hw,drop_cons (z:=(default:Row)) hil,fo (by omega),mi hv (hx _ hm2),OJ];unfold stays at ih ⊢;obtain⟨n1,F1,e1,e2⟩:=ih (i+1) m (n+1) _ _ (by omega) (by omega) (by omega) (hH.app (l.getD i default));obtain⟨n2,F2,f1,f2⟩:=ih (i+1) m n F a (by omega) (by omega) (by omega) hH;rw[JE]at e2;dsimp only;cases (l.getD i default).del with
   | false=>exact⟨n1,F1,e1,e2⟩
   | true=>
    cases AP v (l.getD i default).Ag with
    | true=>exact⟨n1,F1,e1,e2⟩
    | false=>exact⟨n2,F2,f1,f2⟩
 obtain⟨n,F,e1,e2⟩:=run l.length 0 N 0 (λ_=>[]) [] (by omega) (by omega) (by omega) HG.nil;rw[Hf,NO]at e2;exact(Cx (ak l7 AR) ((awe N l v).trans e1)).res e2.sub
def ahf:Af:=.spec Zt pe pf iT (λp=>DX (VL p.1 p.2))
def aoI:ahf.Ok PG:=Af.BJ aq4
end Go.Hd
end
section
open Go Go.AM Go.Md Go.Fl
namespace Go.Hd
open Go.Wk
def atG{n m:Nat}(hn:n<2 ^ 53)(hm:m<2 ^ 53):Sn .f64 (fl n) (fl m)=decide (m<n):=by
 have:FloatKind.f64.format.order (fl n) (fl m)=some (compare n m):=uA hn hm;unfold Sn;rw[this];rcases Qg n m with h | h | h
 ·rw[Nat.compare_eq_lt.2 h,AN (by omega)];rfl
 ·rw[Nat.compare_eq_eq.2 h,AN (by omega)];rfl
 ·rw[Nat.compare_eq_gt.2 h,Ax h];rfl
def awf(v:Au):A6 (N7 []) 9 dS [eV v] =
 bif Sn .f64 v.re 0||Db .f64 v.re 0 then bif ID .f64 v.re 4787326403894837248||Db .f64 v.re 4787326403894837248 then bif Sn .f64 v.im 0||Db .f64 v.im 0 then
  bif !(ID .f64 v.im 4787326403894837248||Db .f64 v.im 4787326403894837248)then some (.bool false)else Wk.gF v.re (Wk.gF v.im (some (.bool (Db .f64 (FloatKind.f64.nearest (vE v)) v.re&&Db .f64 (FloatKind.f64.nearest (vN v)) v.im))))
 else some (.bool false)else some (.bool false)else some (.bool false):=by kernel_rfl
def aq5:fl (2 ^ 40)=4787326403894837248:=by decide
def aq6:fl 0=0:=by decide
def ams(v:Au)(h:AU v):At PG dS [eV v] [] (.bool true) []:=by
 obtain⟨e,n,he,hn,rfl⟩:=h;have hv:AU (vr e n):=⟨e,n,he,hn,rfl⟩
 have b1:∀ {k:Nat},k<2 ^ 40->(Sn .f64 (fl k) 0||Db .f64 (fl k) 0)=true:=λ{k} hk=>by
  rw[<- aq6,atG (by omega) (by omega),fN (by omega) (by omega)];rcases LJ k with h | h
  ·subst h;rfl
  ·rw[Ax h];rfl
 have b2:∀ {k:Nat},k<2 ^ 40->(ID .f64 (fl k) 4787326403894837248||Db .f64 (fl k) 4787326403894837248)=true:=λ{k} hk=>by rw[<- aq5,wk (by omega) (by omega),Ax hk];rfl
 have b3:∀ {k:Nat},k<2 ^ 40->Db .f64 (fl k) (fl k)=true:=λ{k} hk=>by rw[fN (by omega) (by omega),Ax rfl]
 have e1:vE (vr e n)=(e:Int):=by unfold vE;show(fI (fl e)).getD 0=_;rw[XJ (by omega)];rfl
 have e2:vN (vr e n)=(n:Int):=by unfold vN;show(fI (fl n)).getD 0=_;rw[XJ (by omega)];rfl
 refine Cx AR ((awf (vr e n)).trans ?_);rw[Wk.LA hv.int.1,Wk.LA hv.int.2,e1,e2,fx,fx];show(bif Sn .f64 (fl e) 0||Db .f64 (fl e) 0 then bif ID .f64 (fl e) 4787326403894837248||Db .f64 (fl e) 4787326403894837248 then bif Sn .f64 (fl n) 0||Db .f64 (fl n) 0 then
  bif !(ID .f64 (fl n) 4787326403894837248||Db .f64 (fl n) 4787326403894837248)then some (AV.bool false)else some (.bool (Db .f64 (fl e) (fl e)&&Db .f64 (fl n) (fl n)))
 else some (.bool false)else some (.bool false)else some (.bool false))=_
 rw[b1 he,b2 he,b1 hn,b2 hn,b3 he,b3 hn];rfl
def vO:Af:=.spec dS MR AU MS (λ_=>.bool true)
def aa3:vO.Ok PG:=Af.BJ ams
def aiF:List Af:=[vO]
def rR(l:List Entry)(i:Int):St:={fr:=[(0,AY l),(2,.bool false),(3,.int .i64 i)],hp:=[]}
def rS(N m:Nat)(s:St):Option AV:=LP (N7 aiF) N 0 WL By 0 [] m s
def awg(N:Nat)(l:List Entry):A6 (N7 aiF) (N+1) WL [AY l]=bif decide (60<(l.length:Int))then some (.bool false)else rS N N (rR l 0):=by kernel_rfl
def ahg(N m:Nat)(l:List Entry)(i:Int):rS N (m+1) (rR l i) =
 bif decide (i<(l.length:Int))then rg i l.length (gC MR AU MS [eV (l.getD i.toNat default).Ag] λ_=>rS N m (rR l (Ao (i+1))))else some (.bool true):=by kernel_rfl
def kJ(l:List Entry):Prop:=l.length<=60 /\ ∀ e ∈ l,AU e.Ag
def atH(l:List Entry)(h:kJ l):At PG WL [AY l] [] (.bool true) []:=by
 obtain⟨h1,h2⟩:=h;obtain⟨N,hN⟩:∃ N,N=200000:=⟨_,rfl⟩
 have run:∀ d i m,i+d=l.length->d<m->rS N m (rR l (i:Nat))=some (.bool true):=by
  intro d
  induction d with
  | zero=>intro i m hi hm;obtain⟨m,rfl⟩:=B3 m (by omega);rw[ahg,AN (by omega),Aj]
  | succ d ih=>
   intro i m hi hm;obtain⟨m,rfl⟩:=B3 m (by omega);have hil:i<l.length:=by omega
   have hw:Ao ((i:Int)+1)=((i+1:Nat):Int):=Cs (by omega);have hv:=h2 _ (De (z:=(default:Entry)) hil);have q:∀ {K:Au->Option AV},gC MR AU MS [eV (l.getD i default).Ag] K=K (l.getD i default).Ag:=λ{K}=>Bj _ rfl hv (.refl _);rw[ahg,Ax (show((i:Nat):Int)<(l.length:Int) by omega),Ae,B8 hil,BV,q,hw];exact ih (i+1) m (by omega) (by omega)
 refine Cx (ak aa3 AR) ((awg N l).trans ?_);rw[AN (by omega),Aj];exact run l.length 0 N (by omega) (by omega)
def afv:Af:=.spec WL (dL DG) kJ (λl=>[AY l]) (λ_=>.bool true)
def amt:afv.Ok PG:=Af.BJ atH
def eAp(l:List Af):Env:=Cw [(WO,0,[1,2,7,8])] [(Pt,0),(SU,0),(dU,0)] [(WO,2,[7])] l
def zC:List Af:=[wY,ahd,fA]
def M6(a:AV)(v:Au)(es:List Entry)(i:Int):St:={fr:=[(1,eV v),(2,AY es),(7,a),(8,.int .i64 i)],hp:=[]}
def M7(N m:Nat)(s:St):Option AV:=LP (eAp zC) N 0 WO By 0 [] m s
def awh(N:Nat)(l:List Row)(v:Au)(es:List Entry):A6 (eAp zC) (N+1) WO [DX l,eV v,AY es] =
 bif((0+l.length)*56).ble 140737488355328&&(0+l.length).ble 140737488355328 then bif l.length.beq 0 then M7 N N (M6 (.A9 4 []) v es 0)else bif l.length.beq 0||l.length.ble l.length then M7 N N (M6 (DX l) v es 0)else none else none:=by kernel_rfl
def gFd(a:AV)(k:An)(K:RK->Option AV):Option AV:=gC kI (λp=>p.1.length<=100000) dh [a,.str k] K
def gPu(a:AV)(r:Row)(K:RR->Option AV):Option AV:=gC dRR (λp=>p.1.length<=100000) eRR [a,.agg (HT r)] K
def rT(a:AV)(N m:Nat)(v:Au)(es:List Entry)(i:Int)(e:Entry):Option AV:=
 bif !e.del then gPu a ⟨e.key,e.Ag,e.val,e.del⟩ λy=>M7 N m (M6 (DX (K6 y.1 y.2)) v es (Ao (i+1)))else gPu a ⟨e.key,e.Ag,[],e.del⟩ λy=>M7 N m (M6 (DX (K6 y.1 y.2)) v es (Ao (i+1)))
def Zb(a:AV)(N m:Nat)(v:Au)(es:List Entry)(i:Int):Option AV:=
 bif decide (i<(es.length:Int))then rg i es.length (gFd a (es.getD i.toNat default).key λy=>bif !(es.getD i.toNat default).write then M7 N m (M6 a v es (Ao (i+1)))else
  fR v (es.getD i.toNat default).Ag λz=>bif !AP z.1 z.2 then M7 N m (M6 a v es (Ao (i+1)))else
  bif(ED y.1 y.2).2 then fR (ED y.1 y.2).1.Ag (es.getD i.toNat default).Ag λx=>bif !AP x.1 x.2 then M7 N m (M6 a v es (Ao (i+1)))else rT a N m v es i (es.getD i.toNat default)
  else rT a N m v es i (es.getD i.toNat default))else some a
def ahh(N m:Nat)(l:List Row)(v:Au)(es:List Entry)(i:Int):M7 N (m+1) (M6 (DX l) v es i)=Zb (DX l) N m v es i:=by kernel_rfl
def ahi(N m:Nat)(v:Au)(es:List Entry)(i:Int):M7 N (m+1) (M6 (.A9 4 []) v es i)=Zb (.A9 4 []) N m v es i:=by kernel_rfl
def VM(e:Entry):Row:=⟨e.key,e.Ag,bif !e.del then e.val else [],e.del⟩
def M8(v:Au)(l:List Row)(e:Entry):List Row:=bif !e.write then l else bif !AP v e.Ag then l else bif(ED l e.key).2 && !AP (ED l e.key).1.Ag e.Ag then l else K6 l (VM e)
def IB(l:List Row)(v:Au)(es:List Entry):List Row:=es.foldl (M8 v) l
def aoJ(l:List Row)(r:Row):(K6 l r).length<=l.length+1:=by
 have key:∀ l:List Row,(l.takeWhile λx=>strLt x.key r.key).length+(l.filter (Ph r)).length<=l.length:=by
  intro l
  induction l with
  | nil=>simp
  | cons a l ih=>
   rw[List.takeWhile_cons,OJ];have hb:=KS (Ph r) l;cases hs:strLt a.key r.key with
   | true=>
    have ha:Ph r a=false:=by unfold Ph;rw[hs];rfl
    rw[ha,Ay rfl,AE (by simp),CR,CR];omega
   | false=>
    rw[AE (by simp),CR,U8];cases Ph r a with
    | true=>rw[Ay rfl,CR];omega
    | false=>rw[AE (by simp)];omega
 have:=key l;unfold K6;rw[CB,CR];omega
def aoK{l:List Row}{r x:Row}(h:x ∈ K6 l r):x ∈ l\/x=r:=by
 unfold K6 at h;rcases Cp.1 h with h | h
 ·exact .inl ((List.takeWhile_sublist _).subset h)
 ·rcases Dz.1 h with rfl | h
  ·exact .inr rfl
  ·exact .inl (Gz.1 h).1
def mq{l:List Row}{k:An}(h:(ED l k).2=true):(ED l k).1 ∈ l/\(ED l k).1.key=k:=by
 unfold ED at h ⊢;cases hf:l.find? λr=>A5 r.key k with
 | none=>rw[hf]at h;cases h
 | some r=>have h1:A5 r.key k=true:=List.find?_some (p:=λr:Row=>A5 r.key k) hf;exact⟨XY hf,US.1 h1⟩
def wZ{v:Au}{l:List Row}{e:Entry}(hl:∀ x ∈ l,AU x.Ag)(he:AU e.Ag):(M8 v l e).length<=l.length+1 /\ ∀ x ∈ M8 v l e,AU x.Ag:=by
 have h0:l.length<=l.length+1 /\ ∀ x ∈ l,AU x.Ag:=⟨by omega,hl⟩
 unfold M8;cases e.write with
 | false=>exact h0
 | true=>
  cases AP v e.Ag with
  | false=>exact h0
  | true=>
   cases (ED l e.key).2 && !AP (ED l e.key).1.Ag e.Ag with
   | true=>exact h0
   | false=>
    refine⟨aoJ _ _,λx hx=>?_⟩;rcases aoK (show x ∈ K6 l (VM e) from hx)with hx | rfl
    ·exact hl x hx
    ·exact he
abbrev dt:=List Row × Au × List Entry
def pg(a:List AV):dt:=(Bm PR (a.getD 0 .Ak),⟨(Ci a 1).1,(Ci a 1).2⟩,Bm DG (a.getD 2 .Ak))
def iU(p:dt):List AV:=[DX p.1,eV p.2.1,AY p.2.2]
def aq7(p:dt):pg (iU p)=p:=Cv (fD p.1) (Cv rfl (Of p.2.2))
def pj(p:dt):Prop:=p.1.length<=10000/\p.2.2.length<=10000/\AU p.2.1/\(∀ x ∈ p.1,AU x.Ag) /\ ∀ e ∈ p.2.2,AU e.Ag
def aed{sz:Nat}{f:Nat->List AV}:Br (.A9 sz []) (.tr sz 0 f):=by
 intro w I u hv;cases hv with
 | A9 _ _ _ h _=>exact Br.N2 (λi hi=>absurd hi (C5 i)) w I u h
def atI(p:dt)(h:pj p):At PG WO (iU p) [] (DX (IB p.1 p.2.1 p.2.2)) []:=by
 obtain⟨l0,v,es⟩:=p;obtain⟨h1,h2,hv,hx,he⟩:=h;dsimp only at h1 h2 hv hx he ⊢;obtain⟨N,hN⟩:∃ N,N=200000:=⟨_,rfl⟩
 have aiG:∀ k ∈ zC,k.Ok PG:=ak abU (ak aoH (ak l7 AR));have stp:∀ {a:AV} {l:List Row} {i m:Nat},Bm PR a=l->Br a (DX l)->i<es.length->l.length<=20000->(∀ x ∈ l,AU x.Ag)->Zb a N m v es (i:Int)=M7 N m (M6 a v es ((i+1:Nat):Int))/\M8 v l (es.getD i default)=l\/Zb a N m v es (i:Int)=M7 N m (M6 (DX (M8 v l (es.getD i default))) v es ((i+1:Nat):Int)):=by
  intro a l i m hd hs hi hl hV;obtain⟨e,Za⟩:∃ e,es.getD i default=e:=⟨_,rfl⟩
  have hw:Ao ((i:Int)+1)=((i+1:Nat):Int):=Cs (by omega);have MP:AU e.Ag:=by rw[<- Za];exact he _ (De (z:=(default:Entry)) hi)
  have q1:∀ {K:RK->Option AV},gFd a e.key K=K (l,e.key):=λ{K}=>Bj (l,e.key) (Cv (by show Bm PR a=l;exact hd) rfl) (by show l.length<=100000;omega) (.cons hs (.refl _));have q2:∀ {r:Row} {K:RR->Option AV},gPu a r K=K (l,r):=λ{r K}=>Bj (l,r) (Cv (by show Bm PR a=l;exact hd) (aa2 r)) (by show l.length<=100000;omega) (.cons hs (.refl _));have hP:rT a N m v es (i:Int) e=M7 N m (M6 (DX (K6 l (VM e))) v es ((i+1:Nat):Int)):=by
   unfold rT VM;cases hdl:e.del with
   | true=>rw[Dr,Aj,q2,hw];rfl
   | false=>rw[EP,Ae,q2,hw];rfl
  unfold Zb;rw[Ax (show((i:Nat):Int)<(es.length:Int) by omega),Ae,B8 hi,BV,Za,q1,hP,hw,mi hv MP];dsimp only;unfold M8;cases e.write with
  | false=>exact .inl ⟨rfl,rfl⟩
  | true=>
   cases AP v e.Ag with
   | false=>exact .inl ⟨rfl,rfl⟩
   | true=>
    cases hf:(ED l e.key).2 with
    | false=>exact .inr rfl
    | true=>
     have hm:=(mq hf).1;rw[mi (hV _ hm) MP];cases AP (ED l e.key).1.Ag e.Ag with
     | false=>exact .inl ⟨rfl,rfl⟩
     | true=>exact .inr rfl
 have drop:∀ {i:Nat},i<es.length -> ∀ l,IB l v (es.drop i)=IB (M8 v l (es.getD i default)) v (es.drop (i+1)):=λ{i} hi l=>by rw[drop_cons (z:=(default:Entry)) hi];rfl
 have run:∀ d i m l,i+d=es.length->d<m->l.length<=10000+i->(∀ x ∈ l,AU x.Ag)->M7 N m (M6 (DX l) v es (i:Nat))=some (DX (IB l v (es.drop i))):=by
  intro d
  induction d with
  | zero=>intro i m l hi hm hl hV;obtain⟨m,rfl⟩:=B3 m (by omega);rw[ahh];unfold Zb;rw[AN (by omega),Aj,Gj (by omega)];rfl
  | succ d ih=>
   intro i m l hi hm hl hV;obtain⟨m,rfl⟩:=B3 m (by omega);have hil:i<es.length:=by omega
   obtain⟨a1,a2⟩:=wZ (v:=v) hV (he _ (De (z:=(default:Entry)) hil));rw[ahh,drop hil];rcases stp (fD l) (.refl _) hil (by omega) hV with ⟨e1,e2⟩ | e1
   ·rw[e1,e2];exact ih (i+1) m l (by omega) (by omega) (by omega) hV
   ·rw[e1];exact ih (i+1) m _ (by omega) (by omega) (by omega) a2
 have ayi:∀ d i m,i+d=es.length->d<m -> ∃ r,M7 N m (M6 (.A9 4 []) v es (i:Nat))=some r/\Br r (DX (IB [] v (es.drop i))):=by
  intro d
  induction d with
  | zero=>intro i m hi hm;obtain⟨m,rfl⟩:=B3 m (by omega);rw[ahi];unfold Zb;rw[AN (by omega),Aj,Gj (by omega)];exact⟨_,rfl,aed⟩
  | succ d ih=>
   intro i m hi hm;obtain⟨m,rfl⟩:=B3 m (by omega);have hil:i<es.length:=by omega
   have hV:∀ x ∈ ([]:List Row),AU x.Ag:=λx hx=>(by cases hx)
   obtain⟨a1,a2⟩:=wZ (v:=v) hV (he _ (De (z:=(default:Entry)) hil));rw[ahi,drop hil];rcases stp (a:=.A9 4 []) (l:=[]) rfl aed hil (by simp) hV with ⟨e1,e2⟩ | e1
   ·rw[e1,e2];exact ih (i+1) m (by omega) (by omega)
   ·rw[e1];exact⟨_,run d (i+1) m _ (by omega) (by omega) (by have a3:(M8 v [] (es.getD i default)).length<=0+1:=a1;omega) a2,.refl _⟩
 have hin:=awh N l0 v es;rw[Bn (show(0+l0.length)*56<=140737488355328 by omega),Bn (show 0+l0.length<=140737488355328 by omega),CV,Ae]at hin;by_cases h0:l0.length=0
 ·have IF:=aq.1 h0;rw[AM.beq_true h0,Ae]at hin;obtain⟨r,e1,e2⟩:=ayi es.length 0 N (by omega) (by omega);rw[Hf]at e2;rw[<- IF]at e2;exact(Cx aiG (hin.trans e1)).res e2
 ·rw[AM.beq_false h0,Aj,Bn (Ar _),Bool.or_true,Ae]at hin;have e1:=run es.length 0 N l0 (by omega) (by omega) (by omega) hx;rw[Hf]at e1;exact Cx aiG (hin.trans e1)
def aee:Af:=.spec WO pg pj iU (λp=>DX (IB p.1 p.2.1 p.2.2))
def akL:aee.Ok PG:=Af.BJ atI
end Go.Hd
end
section
open Go Go.AM Go.Md
namespace Go.Hd
open Go.Wk
structure Eh where
 Qc:Int
 floor:Au
 rows:List Row
instance:Inhabited Eh:=⟨⟨0,⟨0,0⟩,[]⟩⟩
def fp(s:Eh):List AV:=[.int .i64 s.Qc,.Al .f64 s.floor.re s.floor.im,DX s.rows]
def KQ(s:Eh):AV:=.tr 3 1 λ_=>fp s
def uT(a:List AV):Eh:=⟨AS a 0,⟨(Ci a 1).1,(Ci a 1).2⟩,Bm PR (a.getD 2 .Ak)⟩
def ajv(s:Eh):uT (fp s)=s:=by unfold uT;have:(fp s).getD 2 .Ak=DX s.rows:=rfl;rw[this,fD];rfl
def ahj(a:AV):Eh:=match a with
 | .tr _ _ f=>uT (f 0)
 | _=>default
def amu(s:Eh):ahj (KQ s)=s:=ajv s
def eDo(l:List Af):Env:=Cw [] [(UC,0),(ai2,0),(dS,0),(WL,0),(lz,0),(WO,0),(Zt,0),(Pt,0)] [] l
def pk:List Af:=[ady,aee,ahf,wY,vO,afv]
def pq(m:Ad)(k:Int):Ad:={m with kind:=k,AQ:=0}
def NU(m:Ad):List AV:=((((Aq m).set 23 .Ak).set 24 .Ak).set 25 .Ak).set 29 .Ak |>.set 30 .Ak
def aiH(s:Eh)(v:Au)(l:List Row):Eh:=⟨s.Qc,v,l⟩
def XW(m:Ad)(c:Int):Ad:={(default:Ad)with kind:=16,src:=m.dst,dst:=m.src,BD:=m.KL,Az:=m.Az,num:=m.num,code:=c}
def ox(m:Ad)(has:Bool)(r:Row):Ad:={(default:Ad)with kind:=18,src:=m.dst,dst:=m.src,BD:=m.KL,Az:=m.Az,num:=m.num,key:=m.key,has:=has,val:=r.val,Ag:=r.Ag}
def stx(s t:Eh):AV:=.tr 3 1 λi=>bif i.beq 0 then fp t else fp s
def kK(s t:Eh)(m:Ad):AV:=.Am [stx s t,.agg (NU m),.bool true]
def kL(v:Au)(K:Option AV):Option AV:=gC MR AU MS [eV v] λ_=>K
def gVs(l:List Entry)(K:Option AV):Option AV:=gC (dL DG) kJ (λl=>[AY l]) [AY l] λ_=>K
def awi(s:Eh)(m:Ad):A6 (eDo pk) 9 UC [KQ s,.agg (Aq (pq m 15))] =
 kL m.floor (kL m.Ag (gVs m.entries (bif decide (m.Az=s.Qc)then gC Dq V2 Dp [eV s.floor,eV m.floor] λy=>gC pg pj iU [DX s.rows,eV (Cf y.1 y.2),AY m.entries] λz=>
  gC pe pf iT [DX (IB z.1 z.2.1 z.2.2),eV (Cf y.1 y.2)] λx=>some (kK s (aiH s (Cf y.1 y.2) (VL x.1 x.2)) (XW m 0))
 else some (kK s s (XW m 6))))):=by kernel_rfl
def awj(s:Eh)(m:Ad):A6 (eDo pk) 9 UC [KQ s,.agg (Aq (pq m 17))] =
 kL m.floor (kL m.Ag (gVs m.entries (gC kI (λp=>p.1.length<=100000) dh [DX s.rows,.str m.key] λy=>bif(ED y.1 y.2).2 then some (kK s s (ox m (!(ED y.1 y.2).1.del) (ED y.1 y.2).1))else some (kK s s (ox m false default))))):=by kernel_rfl
def kM(s:Eh)(m:Ad):Eh:=bif decide (m.Az=s.Qc)then aiH s (Cf s.floor m.floor) (VL (IB s.rows (Cf s.floor m.floor) m.entries) (Cf s.floor m.floor))else s
def rU(s:Eh)(m:Ad):Ad:=bif decide (m.Az=s.Qc)then XW m 0 else XW m 6
def du(s:Eh)(m:Ad):Ad:=bif(ED s.rows m.key).2 then ox m (!(ED s.rows m.key).1.del) (ED s.rows m.key).1 else ox m false default
def Lj(p:Eh × Ad):Eh × Ad:=bif decide (p.2.kind=15)then(kM p.1 p.2,rU p.1 p.2)else(p.1,du p.1 p.2)
structure Si(p:Eh × Ad):Prop where
 kd:p.2.kind=15\/p.2.kind=17
 AQ:p.2.AQ=0
 fl:AU p.2.floor
 Ag:AU p.2.Ag
 es:kJ p.2.entries
 sfl:AU p.1.floor
 len:p.1.rows.length<=10000
 rows:∀ x ∈ p.1.rows,AU x.Ag
abbrev WD:=Eh × Ad
def dv(a:List AV):WD:=(ahj (a.getD 0 .Ak),Dj (Bd a 1))
def SH(p:WD):List AV:=[KQ p.1,.agg (Aq p.2)]
def afw(p:WD):dv (SH p)=p:=Cv (amu p.1) (Ml p.2)
def oSM(p:WD):AV:=.Am [KQ p.1,.agg (Aq p.2),.bool true]
def aq8(s t:Eh):Br (stx s t) (KQ t):=.N2 λi hi=>by
 have:i=0:=by omega
 subst this;exact .refl _
def mP(m:Ad)(h:m.entries=[]/\m.chain=[]/\m.views=[]/\m.image.log=[]/\m.image.seen=[]):CJ (NU m) (Aq m):=by obtain⟨h1,h2,h3,h4,h5⟩:=h;unfold NU Aq;rw[h1,h2,h3,h4,h5];exact Mo (by repeat' (first | exact trivial | exact FA | exact Br.refl _ | refine⟨?_,?_⟩))
def vP{v:Au}:∀ (es:List Entry) (l:List Row),(∀ x ∈ l,AU x.Ag)->(∀ e ∈ es,AU e.Ag)->(IB l v es).length<=l.length+es.length /\ ∀ x ∈ IB l v es,AU x.Ag
 | [],l,h,_=>⟨by simp[IB],h⟩
 | e::es,l,h,he=>by obtain⟨a,b⟩:=wZ (v:=v) h (he e (by simp));obtain⟨c,d⟩:=vP es (M8 v l e) b λx hx=>he x (JC _ hx);refine⟨?_,d⟩;show(IB (M8 v l e) v es).length<=_;simp only[CR];omega
def aq9:∀ k ∈ pk,k.Ok PG:=ak akd (ak akL (ak aoI (ak abU (ak aa3 (ak amt AR)))))
def aef{m:Ad}{k:Int}(h:m.kind=k)(h2:m.AQ=0):pq m k=m:=by subst h;unfold pq;rw[<- h2]
def atJ(p:WD)(h:Si p):At PG UC (SH p) [] (oSM (Lj p)) []:=by
 obtain⟨s,m⟩:=p;obtain⟨hk,MO,h1,h2,h3,h4,h5,h6⟩:=h;dsimp only at hk MO h1 h2 h3 h4 h5 h6;have q1:∀ {v:Au} {K:Option AV},AU v->kL v K=K:=λ{v K} hv=>Bj v rfl hv (.refl _);have q2:∀ {K:Option AV},gVs m.entries K=K:=λ{K}=>Bj m.entries (Of _) h3 (.refl _);have fin:∀ {t:Eh} {x:Ad},x.entries=[]/\x.chain=[]/\x.views=[]/\x.image.log=[]/\x.image.seen=[]->A6 (eDo pk) 9 UC (SH (s,m))=some (kK s t x)->At PG UC (SH (s,m)) [] (oSM (t,x)) []:=by intro t x hx e;refine(Cx aq9 e).res (Br.Am (.cons (aq8 s t) (.cons (.agg (mP x hx)) (.refl _))))
 unfold Lj;rcases hk with hk | hk
 ·have e:=awi s m;rw[aef hk MO,q1 h1,q1 h2,q2]at e;rw[Ax hk,Ae];dsimp only;unfold kM rU;cases hd:decide (m.Az=s.Qc)with
  | false=>rw[hd,Aj]at e;exact fin ⟨rfl,rfl,rfl,rfl,rfl⟩ e
  | true=>rw[hd,Ae]at e;have hm:=AU.max h4 h1;obtain⟨a1,a2⟩:=vP (v:=Cf s.floor m.floor) m.entries s.rows h6 h3.2;have hl:=h3.1;have q3:∀ {K:Au × Au->Option AV},gC Dq V2 Dp [eV s.floor,eV m.floor] K=K (s.floor,m.floor):=λ{K}=>Bj (s.floor,m.floor) rfl ⟨h4,h1⟩ (.refl _);have q4:∀ {K:dt->Option AV},gC pg pj iU [DX s.rows,eV (Cf s.floor m.floor),AY m.entries] K=K (s.rows,Cf s.floor m.floor,m.entries):=λ{K}=>Bj (s.rows,Cf s.floor m.floor,m.entries) (aq7 (s.rows,Cf s.floor m.floor,m.entries)) ⟨by show s.rows.length<=_;omega,by show m.entries.length<=_;omega,hm,h6,h3.2⟩ (.refl _);have q5:∀ {K:dr->Option AV},gC pe pf iT [DX (IB s.rows (Cf s.floor m.floor) m.entries),eV (Cf s.floor m.floor)] K=K (IB s.rows (Cf s.floor m.floor) m.entries,Cf s.floor m.floor):=λ{K}=>Bj (IB s.rows (Cf s.floor m.floor) m.entries,Cf s.floor m.floor) (aq3 (IB s.rows (Cf s.floor m.floor) m.entries,Cf s.floor m.floor)) ⟨by show(IB s.rows (Cf s.floor m.floor) m.entries).length<=_;omega,hm,a2⟩ (.refl _);rw[q3]at e;dsimp only at e;rw[q4]at e;dsimp only at e;rw[q5]at e;exact fin ⟨rfl,rfl,rfl,rfl,rfl⟩ e
 ·have e:=awj s m;have q3:∀ {K:RK->Option AV},gC kI (λp=>p.1.length<=100000) dh [DX s.rows,.str m.key] K=K (s.rows,m.key):=λ{K}=>Bj (s.rows,m.key) (atF (s.rows,m.key)) (by show s.rows.length<=_;omega) (.refl _);rw[aef hk MO,q1 h1,q1 h2,q2,q3]at e;rw[AN (show ¬ m.kind=15 by omega),Aj];dsimp only at e ⊢;unfold du;cases hf:(ED s.rows m.key).2 with
  | true=>rw[hf]at e;exact fin ⟨rfl,rfl,rfl,rfl,rfl⟩ e
  | false=>rw[hf]at e;exact fin ⟨rfl,rfl,rfl,rfl,rfl⟩ e
def aiI:Af:=.spec UC dv Si SH (λp=>oSM (Lj p))
def ara:aiI.Ok PG:=Af.BJ atJ
def ayj(l:List Af):Env:=Cw [] [(dQ,0),(UC,0)] [] l
def awk(s:Eh)(m:Ad):A6 (ayj [aiI]) 9 dQ [KQ s,.agg (Aq m)]=gC dv Si SH [KQ s,.agg (Aq m)] λy=>some (.Am [KQ (Lj y).1,.A9 31 [Aq (Lj y).2]]):=by kernel_rfl
def oRS(p:WD):AV:=.Am [KQ p.1,.A9 31 [Aq p.2]]
def amv(p:WD)(h:Si p):At PG dQ (SH p) [] (oRS (Lj p)) []:=
 Cx (ak ara AR) ((awk p.1 p.2).trans (Bj p (afw p) h (.refl _)))
def aeg:Af:=.spec dQ dv Si SH (λp=>oRS (Lj p))
def akM:aeg.Ok PG:=Af.BJ amv
structure AG where
 d:Md.AL
 st:Eh
 AA:List Ad
 n1:Int
 n2:Int
 n3:Int
 ops:List Ad
 log:List Entry
 busy:List Bool
 said:List Ad
def gg(P:AG)(a b c e f:AV):List AV:=Ct P.d++[KQ P.st,a,.int .i64 0,.int .i64 P.n1,.int .i64 P.n2,.int .i64 P.n3,b,c,e,f]
def I7(k:Nat)(P:AG):List AV:=gg P (.sn 31 k P.AA.length) (.sn 31 (k+1) P.ops.length) (.sn 11 (k+2) P.log.length) (.sn 1 (k+3) P.busy.length) (.sn 31 (k+4) P.said.length)
def JQ(P:AG):Heap:=[Bf 31 Aq default P.AA,Bf 31 Aq default P.ops,Bf 11 Bt default P.log,Bf 1 PB default P.busy,Bf 31 Aq default P.said]
def eNt(l:List Af):Env:=Cw [(Uz,0,[2,3,4,5,8,9,10]),(Uz,2,[2,4,5,8,11])] [(SX,0)] [] l
def zD:List Af:=[Lo]
def zDq:List AV:=[.int .i64 0,.int .i64 0,.int .i64 0,.int .i64 0,.int .i64 0,.int .i64 0,.int .i64 0,.Ak,.int .i64 0,.Al .f64 0 0,.Al .f64 0 0,.Ak,.Ak,.Al .f64 0 0,.Ak,.int .i64 0,.Ak,.Ak,.Ak,.bool false,.Ak,.Ak,.int .i64 0]
def N8:List AV:=zDq++[.Ak,.Ak,.int .i64 0,.int .i64 0,.int .i64 0,.int .i64 0,.Ak,.Ak,.Ak,.Ak]
def kN(P:AG)(nw no nl nb ns:Nat)(w o l b s:BS)(more:Heap):Heap:=.dead :: .dead :: .dead :: .dead :: .dead :: .arr true 33 [gg P (.sn 31 6 nw) (.sn 31 7 no) (.sn 11 8 nl) (.sn 1 9 nb) (.sn 31 10 ns)]::w::o::l::b::s::more
def ES(P:AG)(more:Heap):Heap:=kN P P.AA.length P.ops.length P.log.length P.busy.length P.said.length (Bf 31 Aq default P.AA) (Bf 31 Aq default P.ops) (Bf 11 Bt default P.log) (Bf 1 PB default P.busy) (Bf 31 Aq default P.said) more
def bM(l:List Ad)(ET:Bool)(last:Au)(i:Int):Fr:=[(2,BB l),(3,.bool ET),(4,.ptr 5 0 0),(5,.ptr 11 0 0),(8,.ptr 12 0 0),(9,eV last),(10,.int .i64 i)]
def Qw(d:Md.AL):Heap:=[.arr true 23 [Ct d],.arr true 33 [N8]]
def dw(N m:Nat)(s:St):Option (AV × Heap):=LP (eNt zD) N 5 Uz (Cm 0 5) 0 [] m s
def awl(N:Nat)(P:AG)(d:Md.AL)(l:List Ad)(ET:Bool):oq (eNt zD) N Uz [.agg (I7 0 P),.agg (Ct d),BB l,.bool ET] (JQ P) =
 bif decide ((0:Int)<(P.log.length:Int))then rg (Ao ((P.log.length:Int) - 1)) P.log.length (bif(Ao ((P.log.length:Int) - 1)).toNat.blt P.log.length then
  dw N N {fr:=bM l ET (P.log.getD (Ao ((P.log.length:Int) - 1)).toNat default).Ag 0,hp:=ES P (Qw d)}else none)else dw N N {fr:=bM l ET ⟨0,0⟩ 0,hp:=ES P (Qw d)}:=by kernel_rfl
def Zc{R:Type}(n b:Nat)(K:Option R):Option R:=bif n.ble n then bif((n+1)*b).ble 140737488355328&&(n+1).ble 140737488355328 then K else none else none
def gh{R:Type}{n b:Nat}(h:n<=1000000)(hb:b<=1000){K:Option R}:Zc n b K=K:=by unfold Zc;have h1:(n+1)*b<=1000001*1000:=RG (by omega) hb;rw[Bn (Ar _),Bn (show(n+1)*b<=140737488355328 by omega),Bn (show n+1<=140737488355328 by omega)];rfl
def VN{X:Type}(sz:Nat)(e:X->List AV)(z:X)(l:List X)(x:X):BS:=.seq true sz (l.length+1) (BQ l.length (λi=>e (l.getD i z)) (View.list [e x]))
def fH{X:Type}(sz:Nat)(e:X->List AV)(z:X)(l:List X)(x:X):VN sz e z l x=Bf sz e z (l++[x]):=vy sz e z l x
def zE(P:AG)(e:Entry)(b:Bool)(more:Heap):Heap:=kN P P.AA.length P.ops.length (P.log.length+1) (P.busy.length+1) P.said.length (Bf 31 Aq default P.AA) (Bf 31 Aq default P.ops) (VN 11 Bt default P.log e) (VN 1 PB default P.busy b) (Bf 31 Aq default P.said) more
def ia(P:AG)(e:Entry)(b:Bool):AG:={P with log:=P.log++[e],busy:=P.busy++[b]}
def arb(P:AG)(e:Entry)(b:Bool)(more:Heap):zE P e b more=ES (ia P e b) more:=by unfold zE ES ia;simp only[fH,CB,FD];rfl
def zF(P:AG)(x:Ad)(more:Heap):Heap:=kN P P.AA.length P.ops.length P.log.length P.busy.length (P.said.length+1) (Bf 31 Aq default P.AA) (Bf 31 Aq default P.ops) (Bf 11 Bt default P.log) (Bf 1 PB default P.busy) (VN 31 Aq default P.said x) more
def ib(P:AG)(x:Ad):AG:={P with said:=P.said++[x]}
def arc(P:AG)(x:Ad)(more:Heap):zF P x more=ES (ib P x) more:=by unfold zF ES ib;simp only[fH,CB,FD];rfl
def zG(P:AG)(x:Ad)(more:Heap):Heap:=kN P (P.AA.length+1) P.ops.length P.log.length P.busy.length P.said.length (VN 31 Aq default P.AA x) (Bf 31 Aq default P.ops) (Bf 11 Bt default P.log) (Bf 1 PB default P.busy) (Bf 31 Aq default P.said) more
def R0(P:AG)(x:Ad):AG:={P with AA:=P.AA++[x]}
def ard(P:AG)(x:Ad)(more:Heap):zG P x more=ES (R0 P x) more:=by unfold zG ES R0;simp only[fH,CB,FD];rfl
def iV(l:List Ad)(i:Int):Fr:=[(2,BB l),(4,.ptr 5 0 0),(5,.ptr 11 0 0),(8,.ptr 12 0 0),(11,.int .i64 i)]
def kO(N m:Nat)(s:St):Option (AV × Heap):=LP (eNt zD) N 5 Uz (Cm 0 5) 2 [] m s
def ahk(N m:Nat)(P:AG)(d:Md.AL)(l:List Ad)(ET:Bool)(last:Au)(i:Int):dw N (m+1) {fr:=bM l ET last i,hp:=ES P (Qw d)} =
 bif decide (i<(d.rep.tail.log.length:Int))then rg i d.rep.tail.log.length (fR last (d.rep.tail.log.getD i.toNat default).Ag λy=>bif AP y.1 y.2 then
  rg i d.rep.tail.log.length (Zc P.log.length 112 (Zc P.busy.length 1 (dw N m {fr:=bM l ET last (Ao (i+1)),hp:=zE P (d.rep.tail.log.getD i.toNat default) ET (Qw d)})))
  else dw N m {fr:=bM l ET last (Ao (i+1)),hp:=ES P (Qw d)})
 else kO N N {fr:=iV l 0,hp:=ES P (Qw d)}:=by kernel_rfl
def pr(P:AG):Heap:=.dead :: .dead :: .dead :: .dead :: .dead::JQ P
def bc(P:AG)(d:Md.AL):AG:={P with d:=d}
def ahl(N m:Nat)(P:AG)(d:Md.AL)(l:List Ad)(i:Int):kO N (m+1) {fr:=iV l i,hp:=ES P (Qw d)} =
 bif decide (i<(l.length:Int))then rg i l.length (bif decide ((l.getD i.toNat default).kind=6)then
  rg i l.length (Zc P.said.length 392 (kO N m {fr:=iV l (Ao (i+1)),hp:=zF P (l.getD i.toNat default) (Qw d)}))
  else rg i l.length (Zc P.AA.length 392 (kO N m {fr:=iV l (Ao (i+1)),hp:=zG P (l.getD i.toNat default) (Qw d)})))
 else some (.agg (I7 5 (bc P d)),pr (bc P d)):=by kernel_rfl
def NI(last:Au)(ET:Bool)(P:AG)(e:Entry):AG:=bif AP last e.Ag then ia P e ET else P
def NJ(P:AG)(x:Ad):AG:=bif decide (x.kind=6)then ib P x else R0 P x
def KR(l:List Entry):Au:=if l.length=0 then⟨0,0⟩else(l.getD (l.length - 1) default).Ag
structure Ut where
 P:AG
 d:Md.AL
 l:List Ad
 ET:Bool
def NK(x:Ut):AG:=bc (x.l.foldl NJ (x.d.rep.tail.log.foldl (NI (KR x.P.log) x.ET) x.P)) x.d
def WE(P:AG)(n:Nat):Prop:=P.AA.length<=n/\P.ops.length<=n/\P.log.length<=n/\P.busy.length<=n/\P.said.length<=n
structure bN(x:Ut):Prop where
 sz:WE x.P 600000
 log:x.d.rep.tail.log.length<=1000
 l:x.l.length<=100000
 last:AU (KR x.P.log)
 Ag:∀ e ∈ x.d.rep.tail.log,AU e.Ag
def bO(x:Ut):List AV × Heap:=([.agg (I7 0 x.P),.agg (Ct x.d),BB x.l,.bool x.ET],JQ x.P)
def JZ(P:AG):AV × Heap:=(.agg (I7 5 P),pr P)
def aoL(x:Ut)(h:bN x):At PG Uz (bO x).1 (bO x).2 (JZ (NK x)).1 (JZ (NK x)).2/\(bO x).2.length<=(JZ (NK x)).2.length:=by
 obtain⟨P0,d,l,ET⟩:=x;obtain⟨h1,h2,h3,h4,h5⟩:=h;dsimp only at h1 h2 h3 h4 h5;obtain⟨N,hN⟩:∃ N,N=200000:=⟨_,rfl⟩
 have bw:∀ k i m P,i+k=l.length->k<m->WE P (610000+i)->kO N m {fr:=iV l (i:Nat),hp:=ES P (Qw d)}=some (JZ (bc ((l.drop i).foldl NJ P) d)):=by
  intro k
  induction k with
  | zero=>intro i m P hi hm hP;obtain⟨m,rfl⟩:=B3 m (by omega);rw[ahl,AN (by omega),Aj,Gj (by omega)];rfl
  | succ k ih=>
   intro i m P hi hm hP;obtain⟨m,rfl⟩:=B3 m (by omega);have hil:i<l.length:=by omega
   obtain⟨p1,p2,p3,p4,p5⟩:=hP;have hw:Ao ((i:Int)+1)=((i+1:Nat):Int):=Cs (by omega);rw[ahl,Ax (show((i:Nat):Int)<(l.length:Int) by omega),Ae,B8 hil,B8 hil,B8 hil,BV,hw,gh (by omega) (by omega),gh (by omega) (by omega),drop_cons (z:=(default:Ad)) hil,RF,arc,ard];unfold NJ;cases decide ((l.getD i default).kind=6)with
   | true=>exact ih (i+1) m _ (by omega) (by omega) ⟨by show P.AA.length<=_;omega,by show P.ops.length<=_;omega,by show P.log.length<=_;omega,by show P.busy.length<=_;omega,by show(P.said++[_]).length<=_;rw[CB,FD];omega⟩
   | false=>exact ih (i+1) m _ (by omega) (by omega) ⟨by show(P.AA++[_]).length<=_;rw[CB,FD];omega,by show P.ops.length<=_;omega,by show P.log.length<=_;omega,by show P.busy.length<=_;omega,by show P.said.length<=_;omega⟩
 have zB:∀ k i m P,i+k=d.rep.tail.log.length->k<m->WE P (600000+i)->dw N m {fr:=bM l ET (KR P0.log) (i:Nat),hp:=ES P (Qw d)}=some (JZ (bc (l.foldl NJ ((d.rep.tail.log.drop i).foldl (NI (KR P0.log) ET) P)) d)):=by
  intro k
  induction k with
  | zero=>intro i m P hi hm hP;obtain⟨m,rfl⟩:=B3 m (by omega);rw[ahk,AN (by omega),Aj,Gj (by omega)];obtain⟨p1,p2,p3,p4,p5⟩:=hP;have:=bw l.length 0 N P (by omega) (by omega) ⟨by omega,by omega,by omega,by omega,by omega⟩;rw[Hf]at this;exact this
  | succ k ih=>
   intro i m P hi hm hP;obtain⟨m,rfl⟩:=B3 m (by omega);have hil:i<d.rep.tail.log.length:=by omega
   obtain⟨p1,p2,p3,p4,p5⟩:=hP;have hw:Ao ((i:Int)+1)=((i+1:Nat):Int):=Cs (by omega);have hv:=h5 _ (De (z:=(default:Entry)) hil);rw[ahk,Ax (show((i:Nat):Int)<(d.rep.tail.log.length:Int) by omega),Ae,B8 hil,B8 hil,BV,hw,mi h4 hv,gh (by omega) (by omega),gh (by omega) (by omega),drop_cons (z:=(default:Entry)) hil,RF,arb];unfold NI at ih ⊢;dsimp only;cases AP (KR P0.log) (d.rep.tail.log.getD i default).Ag with
   | true=>exact ih (i+1) m _ (by omega) (by omega) ⟨by show P.AA.length<=_;omega,by show P.ops.length<=_;omega,by show(P.log++[_]).length<=_;rw[CB,FD];omega,by show(P.busy++[_]).length<=_;rw[CB,FD];omega,by show P.said.length<=_;omega⟩
   | false=>exact ih (i+1) m _ (by omega) (by omega) ⟨by omega,by omega,by omega,by omega,by omega⟩
 have r1:=zB d.rep.tail.log.length 0 N P0 (by omega) (by omega) h1;rw[Hf]at r1;refine acW (Gd (ak Np AR)) Gc mixed (n:=N) ((awl N P0 d l ET).trans ?_);by_cases h0:P0.log.length=0
 ·rw[AN (by omega),Aj];have e:KR P0.log=⟨0,0⟩:=Ay h0;rw[e]at r1;rw[show NK ⟨P0,d,l,ET⟩=bc (l.foldl NJ (d.rep.tail.log.foldl (NI ⟨0,0⟩ ET) P0)) d by unfold NK;dsimp only;rw[e]];exact r1
 ·obtain⟨p1,p2,p3,p4,p5⟩:=h1;have hw:Ao ((P0.log.length:Int) - 1)=((P0.log.length - 1:Nat):Int):=by rw[Ru];omega
  have e:KR P0.log=(P0.log.getD (P0.log.length - 1) default).Ag:=AE h0;rw[Ax (by omega),Ae,hw,B8 (by omega),BV,Cd (by omega),Ae,<- e];exact r1
def N9(p:Gt):Ai:=if p.2.2.kind=18 then xW p else EW p
def dx(p:Gt):Prop:=(p.2.2.kind=18->zu p)/\(p.2.2.kind ≠ 18->Oi p)
def are(p:Gt)(h:dx p):At PG Ei (MG p) [] (Pf (N9 p)) []:=by
 unfold N9;by_cases hk:p.2.2.kind=18
 ·rw[Ay hk];exact amk p (h.1 hk)
 ·rw[AE hk];exact abN p (h.2 hk)
def aiJ:Af:=.spec Ei VI dx MG (λp=>Pf (N9 p))
def arf:aiJ.Ok PG:=Af.BJ are
def afx(x:Ut):Af:=.EC Uz (λ_ _=>()) (λ_=>bN x) (λ_=>bO x) (λ_=>JZ (NK x))
def amw(x:Ut):(afx x).Ok PG:=Af.EL λ_ h=>aoL x h
def Uu(P:AG)(m:Ad):Ut:=⟨P,(N9 (P.d,K1,m)).d,(N9 (P.d,K1,m)).out,P.d.busy⟩
def eGv(l:List Af):Env:=Cw [] [(dQ,0),(Zw,0),(Ei,0),(Uz,5)] [] l
def aiK(P:AG)(m:Ad):List Af:=[aeg,aiJ,afx (Uu P m)]
def zH(P:AG)(x:Ad):AV × Heap:=(.agg (gg P (.sn 31 5 (P.AA.length+1)) (.sn 31 6 P.ops.length) (.sn 11 7 P.log.length) (.sn 1 8 P.busy.length) (.sn 31 9 P.said.length)),
 [.dead,.dead,.dead,.dead,.dead,VN 31 Aq default P.AA x,Bf 31 Aq default P.ops,Bf 11 Bt default P.log,Bf 1 PB default P.busy,Bf 31 Aq default P.said])
def arh(P:AG)(x:Ad):zH P x=JZ (R0 P x):=by unfold zH JZ R0 pr JQ I7;simp only[fH,CB,FD];rfl
def xY(P:AG)(s:Eh):AG:={P with st:=s}
def awm(P:AG)(m:Ad):oq (eGv (aiK P m)) 9 lB [.agg (I7 0 P),.agg (Aq m)] (JQ P) =
 bif decide (m.dst=0)then gC dv Si SH [KQ P.st,.agg (Aq m)] λy=>Zc P.AA.length 392 (some (zH (xY P (Lj y).1) (Lj y).2))
 else gC VI dx MG [.agg (Ct P.d),.agg (D4 K1),.agg (Aq m)] λy=>BA (λ_ _=>()) (λ_=>bN (Uu P m)) (λ_=>bO (Uu P m)) [.agg (I7 0 P),.agg (Ct (N9 y).d),BB (N9 y).out,.bool P.d.busy] (JQ P) λ_=>
  some (JZ (NK (Uu P m))):=by kernel_rfl
def Ma(P:AG)(m:Ad):AG:=bif decide (m.dst=0)then R0 (xY P (Lj (P.st,m)).1) (Lj (P.st,m)).2 else NK (Uu P m)
structure VO(P:AG)(m:Ad):Prop where
 sz:P.AA.length<=100000
 st:m.dst=0->Si (P.st,m)
 hd:m.dst ≠ 0->dx (P.d,K1,m)/\bN (Uu P m)
def bP(P:AG)(m:Ad):List AV × Heap:=([.agg (I7 0 P),.agg (Aq m)],JQ P)
def aoM(P:AG)(m:Ad)(h:VO P m):At PG lB (bP P m).1 (bP P m).2 (JZ (Ma P m)).1 (JZ (Ma P m)).2/\(bP P m).2.length<=(JZ (Ma P m)).2.length:=by
 refine acW (Gd (l:=aiK P m) (ak akM (ak arf (ak (amw _) AR)))) Gc mixed (n:=9) ((awm P m).trans ?_);unfold Ma;by_cases hd:m.dst=0
 ·have q:∀ {K:WD->Option (AV × Heap)},gC dv Si SH [KQ P.st,.agg (Aq m)] K=K (P.st,m):=λ{K}=>Bj (P.st,m) (afw (P.st,m)) (h.st hd) (.refl _);rw[Ax hd,Ae,Ae,q,gh (by have:=h.sz;omega) (by omega),arh]
 ·obtain⟨h1,h2⟩:=h.hd hd;have q1:∀ {K:Gt->Option (AV × Heap)},gC VI dx MG [.agg (Ct P.d),.agg (D4 K1),.agg (Aq m)] K=K (P.d,K1,m):=λ{K}=>Bj (P.d,K1,m) (aqP (P.d,K1,m)) h1 (.refl _);have q2:∀ {K:Unit->Option (AV × Heap)},BA (λ_ _=>()) (λ_=>bN (Uu P m)) (λ_=>bO (Uu P m)) [.agg (I7 0 P),.agg (Ct (N9 (P.d,K1,m)).d),BB (N9 (P.d,K1,m)).out,.bool P.d.busy] (JQ P) K=K ():=λ{K}=>Dw () rfl h2 (.refl _) (.refl _);rw[AN hd,Aj,Aj,q1,q2]
def afy(P:AG)(m:Ad):Af:=.EC lB (λ_ _=>()) (λ_=>VO P m) (λ_=>bP P m) (λ_=>JZ (Ma P m))
def amx(P:AG)(m:Ad):(afy P m).Ok PG:=Af.EL λ_ h=>aoM P m h
structure Bl where
 k:Int
 s:Int
 n:Int
 o:Md.Op
instance:Inhabited Bl:=⟨⟨0,0,0,default⟩⟩
def IS(x:Bl):List AV:=[.int .u8 x.k,.int .u8 x.s,.int .u8 x.n,.int .i64 x.o.kind,.str x.o.key,.str x.o.val,.str x.o.Bc,.bool x.o.IU]
def Zd(l:List Af):Env:=Cw [] [(GY,0),(lB,5),(lA,0)] [] l
def Eu(l:List Af)(x:Code)(K:AX->St->Option St)(s:St):Option St:=La (Zd l) (Dl (Zd l) 9) Zx 154 9 5 0 x K s
def QX:Code:=Fi (Zd []) Zx
def cQ0:Code:=sub QX [.L]
def rV:Code:=sub QX [.R,.L]
def kP:Code:=sub QX [.R,.R,.L]
def WG:Code:=sub QX [.R,.R,.R,.L,.L]
def cA:Code:=sub QX [.R,.R,.R,.L,.R,.L]
def cR:Code:=sub QX [.R,.R,.R,.R]
def afz:QX=.seq cQ0 (.seq rV (.seq kP (.seq (.seq WG (.cond (.tmp 20) cA .skip)) cR))):=by kernel_rfl
def dy(s:Bl):Heap:=[.arr true 8 [IS s],.arr true 33 [N8]]
def S0D(P:AG)(s:Bl):St:={fr:=Ej 0 [.agg (I7 5 P),.agg (IS s)],hp:=pr P}
def S1D(P:AG)(s:Bl):St:={fr:=[(2,.ptr 5 0 0),(3,.ptr 11 0 0),(4,.ptr 12 0 0)],hp:=ES P (dy s)}
def kD(s:Bl):Int:=s.k.tmod 9
def S2D(P:AG)(s:Bl):St:={fr:=[(2,.ptr 5 0 0),(3,.ptr 11 0 0),(4,.ptr 12 0 0),(5,.int .u8 (kD s))],hp:=ES P (dy s)}
def J3(P:AG)(s:Bl):St:={fr:=[(2,.ptr 5 0 0),(3,.ptr 11 0 0),(4,.ptr 12 0 0),(5,.int .u8 (kD s)),(6,.int .i64 P.AA.length)],hp:=ES P (dy s)}
def rW(P:AG)(s:Bl)(b:Bool):St:={fr:=[(2,.ptr 5 0 0),(3,.ptr 11 0 0),(4,.ptr 12 0 0),(5,.int .u8 (kD s)),(6,.int .i64 P.AA.length),(20,.bool b)],hp:=ES P (dy s)}
def ayk(P:AG)(s:Bl):Eu [] cQ0 (Ba .normal (norm 5 [2,3,4])) (S0D P s)=some (S1D P s):=by kernel_rfl
def ayl(P:AG)(s:Bl):Eu [] rV (Ba .normal (norm 5 [2,3,4,5])) (S1D P s)=some (S2D P s):=by kernel_rfl
def aym(P:AG)(s:Bl):Eu [] kP (Ba .normal (norm 5 [2,3,4,5,6])) (S2D P s)=some (J3 P s):=by kernel_rfl
def ayn(P:AG)(s:Bl):Eu [] WG (Ba .normal (norm 5 [2,3,4,5,6,20])) (J3 P s)=some (rW P s (decide (kD s<=3))):=by kernel_rfl
def bQ:Code:=sub cR [.L]
def bR:Code:=sub cR [.R,.L]
def dz:Code:=sub cR [.R,.R,.L]
def Ze:Code:=sub cR [.R,.R,.R,.L]
def Sj:Code:=sub cR [.R,.R,.R,.R,.L]
def QY:Code:=sub cR [.R,.R,.R,.R,.R,.L]
def Sk:Code:=sub cR [.R,.R,.R,.R,.R,.R,.L]
def Uv:Code:=sub cR [.R,.R,.R,.R,.R,.R,.R]
def awn:cR=.seq bQ (.seq bR (.seq dz (.seq Ze (.seq Sj (.seq QY (.seq Sk Uv)))))):=by kernel_rfl
def TD(P:AG):St:={fr:=[(4,.ptr 5 0 0)],hp:=ES P []}
def hpV(P:AG)(v:AV)(x:BS)(more:Heap):Heap:=.dead :: .dead :: .dead :: .dead :: .dead :: .arr true 33 [gg P v (.sn 31 7 P.ops.length) (.sn 11 8 P.log.length) (.sn 1 9 P.busy.length) (.sn 31 10 P.said.length)]::x::Bf 31 Aq default P.ops::Bf 11 Bt default P.log::Bf 1 PB default P.busy::Bf 31 Aq default P.said::more
def TV(P:AG)(v:AV)(x:BS):St:={fr:=[(4,.ptr 5 0 0)],hp:=hpV P v x []}
def xZ(l k:List Ad):BS:=.seq true 31 (l.length+k.length) (BQ l.length (λi=>Aq (l.getD i default)) (View.fn k.length λi=>Aq (k.getD i default)))
def atK(P:AG)(s:Bl):Eu [nM] bQ (Ba .ret (norm 5 [4])) (J3 P s)=bif decide (kD s=8)then gC (λa=>S9 (Bd a 0)) X9 (λd=>[.agg (Ct d)]) [.agg (Ct P.d)] λy=>
  bif P.AA.length.ble P.AA.length then bif((P.AA.length+(Hy y).length)*392).ble 140737488355328&&(P.AA.length+(Hy y).length).ble 140737488355328 then some (TV P (.sn 31 6 (P.AA.length+(Hy y).length)) (xZ P.AA (Hy y)))else none else none
 else none:=by kernel_rfl
def gTk(d:Md.AL)(n:Nat):Option St:=gC (λa=>S9 (Bd a 0)) X9 (λd=>[.agg (Ct d)]) [.agg (Ct d)] λy=>bif n.ble n then bif((n+(Hy y).length)*392).ble 140737488355328&&(n+(Hy y).length).ble 140737488355328 then none else none else none
def atL(P:AG)(s:Bl):Eu [nM] bQ (Ba .normal (norm 5 [2,3,4,5,6])) (J3 P s)=bif decide (kD s=8)then gTk P.d P.AA.length else some (J3 P s):=by kernel_rfl
def atM(P:AG)(s:Bl):Eu [] bR (Ba .ret (norm 5 [4])) (J3 P s)=bif decide ((P.AA.length:Int)=0)then some (TD P)else none:=by kernel_rfl
def atN(P:AG)(s:Bl):Eu [] bR (Ba .normal (norm 5 [2,3,4,5,6])) (J3 P s)=bif decide ((P.AA.length:Int)=0)then none else some (J3 P s):=by kernel_rfl
def rX(P:AG)(s:Bl)(j:Int):St:={fr:=[(2,.ptr 5 0 0),(4,.ptr 11 0 0),(5,.int .u8 (kD s)),(11,.int .i64 j)],hp:=ES P [.arr true 33 [N8]]}
def awo(P:AG)(s:Bl):Eu [] dz (Ba .normal (norm 5 [2,4,5,11])) (J3 P s)=bif decide ((P.AA.length:Int)=0)then none else some (rX P s ((Ao s.n).tmod P.AA.length)):=by kernel_rfl
def dA(m:Ad):Heap:=[.arr true 33 [N8],.arr true 31 [Aq m]]
def Pj(P:AG)(s:Bl)(j:Int)(m:Ad):St:={fr:=[(2,.ptr 5 0 0),(4,.ptr 11 0 0),(5,.int .u8 (kD s)),(11,.int .i64 j),(12,.ptr 12 0 0)],hp:=ES P (dA m)}
def awp(P:AG)(s:Bl)(j:Int):Eu [] Ze (Ba .normal (norm 5 [2,4,5,11,12])) (rX P s j)=rg j P.AA.length (bif j.toNat.blt P.AA.length then some (Pj P s j (P.AA.getD j.toNat default))else none):=by kernel_rfl
def aiL(l:List Ad)(m:Ad):BS:=.seq true 31 (l.length+1) λi=>bif i.blt l.length then Aq (l.getD i default)else bif i.blt (l.length+1)then [Aq m].getD (i - l.length) []else Aq (l.getD l.length default)
def gDb(n:Nat)(x y:Option St):Option St:=bif n.ble n then bif((0+n)*392).ble 140737488355328&&(0+n).ble 140737488355328 then bif n.beq 0 then x else bif n.beq 0||n.ble n then bif((n+1)*392).ble 140737488355328&&(n+1).ble 140737488355328 then y else none else none else none else none
def atO(P:AG)(s:Bl)(j:Int)(m:Ad):Eu [] Sj (Ba .ret (norm 5 [4])) (Pj P s j m)=bif decide (kD s=7)then gDb P.AA.length (some (TV P (.sl 31 6 0 1 1) (.arr true 31 [Aq m]))) (some (TV P (.sl 31 6 0 (P.AA.length+1) 0) (aiL P.AA m)))else none:=by kernel_rfl
def atP(P:AG)(s:Bl)(j:Int)(m:Ad):Eu [] Sj (Ba .normal (norm 5 [2,4,5,11,12])) (Pj P s j m)=bif decide (kD s=7)then gDb P.AA.length none none else some (Pj P s j m):=by kernel_rfl
def kQ(P:AG)(v:AV)(x:BS)(s:Bl)(m:Ad):St:={fr:=[(2,.ptr 5 0 0),(4,.ptr 11 0 0),(5,.int .u8 (kD s)),(12,.ptr 12 0 0)],hp:=hpV P v x (dA m)}
def rY(P:AG)(s:Bl)(m:Ad):St:={fr:=[(2,.ptr 5 0 0),(4,.ptr 11 0 0),(5,.int .u8 (kD s)),(12,.ptr 12 0 0)],hp:=ES P (dA m)}
def iW(n:Nat)(K:Option St):Option St:=bif(n*392).ble 140737488355328&&n.ble 140737488355328 then K else none
def rsF(l:List Ad)(K:Nat):Nat->List AV:=λi=>Aq (l.getD (i+K) default)
def aiM(l:List Ad)(j K:Nat):Nat->List AV:=λi=>bif i.blt j then Aq (l.getD i default)else bif i.blt (j+(l.length - K))then Aq (l.getD (i - j+K) default)else Aq (l.getD j default)
def pw(n K:Nat)(k:Int)(X:Option St):Option St:=bif decide (0<=k)&&decide (k<=(n:Int))then bif Nat.blt 0 n then X else none else none
def awq(P:AG)(s:Bl)(j:Int)(m:Ad):Eu [] QY (Ba .normal (norm 5 [2,4,5,12])) (Pj P s j m) =
 bif decide (0<=j)&&decide (j<=(P.AA.length:Int))then bif j.toNat.ble P.AA.length then iW (0+j.toNat) (bif j.toNat.beq 0 then
  pw P.AA.length 0 (Ao (j+1)) (bif(P.AA.length - (Ao (j+1)).toNat).beq 0||(P.AA.length - (Ao (j+1)).toNat+(Ao (j+1)).toNat).ble P.AA.length then iW (0+(P.AA.length - (Ao (j+1)).toNat))
   (bif(P.AA.length - (Ao (j+1)).toNat).beq 0 then some (kQ P (.sl 31 6 0 0 0) (.arr true 31 []) s m)else some (kQ P (.sl 31 6 0 (P.AA.length - (Ao (j+1)).toNat) 0) (.seq true 31 (P.AA.length - (Ao (j+1)).toNat) (rsF P.AA (Ao (j+1)).toNat)) s m))else none)
  else pw P.AA.length 0 (Ao (j+1)) (bif j.toNat.beq 0||j.toNat.ble j.toNat then bif(P.AA.length - (Ao (j+1)).toNat).beq 0||(P.AA.length - (Ao (j+1)).toNat+(Ao (j+1)).toNat).ble P.AA.length then iW (j.toNat+(P.AA.length - (Ao (j+1)).toNat))
   (bif(P.AA.length - (Ao (j+1)).toNat).beq 0 then some (kQ P (.sl 31 6 0 j.toNat 0) (.seq true 31 j.toNat λi=>Aq (P.AA.getD i default)) s m)else some (kQ P (.sl 31 6 0 (j.toNat+(P.AA.length - (Ao (j+1)).toNat)) 0) (.seq true 31 (j.toNat+(P.AA.length - (Ao (j+1)).toNat)) (aiM P.AA j.toNat (Ao (j+1)).toNat)) s m))else none else none))else none else none:=by kernel_rfl
def atQ(P:AG)(s:Bl)(m:Ad):Eu [] Sk (Ba .ret (norm 5 [4])) (rY P s m)=bif decide (kD s=6)then some (TD P)else none:=by kernel_rfl
def atS(P:AG)(s:Bl)(m:Ad):Eu [] Sk (Ba .normal (norm 5 [2,4,12])) (rY P s m)=bif decide (kD s=6)then none else some {fr:=[(2,.ptr 5 0 0),(4,.ptr 11 0 0),(12,.ptr 12 0 0)],hp:=ES P (dA m)}:=by kernel_rfl
def awr(P:AG)(m:Ad):Eu [afy P m] Uv (Ba .ret (norm 5 [4])) {fr:=[(2,.ptr 5 0 0),(4,.ptr 11 0 0),(12,.ptr 12 0 0)],hp:=ES P (dA m)} =
 BA (λ_ _=>()) (λ_=>VO P m) (λ_=>bP P m) [.agg (I7 0 P),.agg (Aq m)] (JQ P) λ_=>some (TD (Ma P m)):=by kernel_rfl
def rZ:Code:=sub cA [.L]
def Zf:Code:=sub cA [.R,.L]
def WH:Code:=sub cA [.R,.R,.L]
def Zg:Code:=sub cA [.R,.R,.R,.L]
def VP:Code:=sub cA [.R,.R,.R,.R,.L]
def Sl:Code:=sub cA [.R,.R,.R,.R,.R,.L,.L]
def M9:Code:=sub cA [.R,.R,.R,.R,.R,.L,.R,.L,.lp 0]
def kT:Code:=sub M9 [.L]
def kU:Code:=sub M9 [.R,.L,.L]
def kV:Code:=sub M9 [.R,.R]
def TZ:Code:=sub cA [.R,.R,.R,.R,.R,.R]
def aws:cA=.seq rZ (.seq Zf (.seq WH (.seq Zg (.seq VP (.seq (.seq Sl (.block 0 (.loop M9))) TZ))))):=by kernel_rfl
def w6:M9=.seq kT (.seq (.block 1 kU) kV):=by kernel_rfl
def OX(P:AG)(w:Nat):Int:=match w with
 | 1=>P.n1
 | 2=>P.n2
 | _=>P.n3
def T1(P:AG)(w:Nat):AG:=match w with
 | 1=>{P with n1:=Ao (P.n1+1)}
 | 2=>{P with n2:=Ao (P.n2+1)}
 | _=>{P with n3:=Ao (P.n3+1)}
def KD(P:AG)(s:Bl)(w:Int):St:={fr:=[(2,.ptr 5 0 0),(3,.ptr 11 0 0),(4,.ptr 12 0 0),(7,.int .i64 w)],hp:=ES P (dy s)}
def Pk(P:AG)(s:Bl)(w num:Int):St:={fr:=[(2,.ptr 5 0 0),(3,.ptr 11 0 0),(4,.ptr 12 0 0),(7,.int .i64 w),(8,.int .i64 num)],hp:=ES P (dy s)}
def ayo(P:AG)(s:Bl)(b:Bool):Eu [] rZ (Ba .normal (norm 5 [2,3,4,7])) (rW P s b)=some (KD P s (Ao (1+Ao (s.s.tmod 3)))):=by kernel_rfl
def awt(P:AG)(s:Bl):Eu [] Zf (Ba .normal (norm 5 [2,3,4,7])) (KD P s 1)=bif decide (s.n=0)then some (KD (T1 P 1) s 1)else some (KD P s 1):=by kernel_rfl
def awu(P:AG)(s:Bl):Eu [] Zf (Ba .normal (norm 5 [2,3,4,7])) (KD P s 2)=bif decide (s.n=0)then some (KD (T1 P 2) s 2)else some (KD P s 2):=by kernel_rfl
def awv(P:AG)(s:Bl):Eu [] Zf (Ba .normal (norm 5 [2,3,4,7])) (KD P s 3)=bif decide (s.n=0)then some (KD (T1 P 3) s 3)else some (KD P s 3):=by kernel_rfl
def aww(P:AG)(s:Bl):Eu [] WH (Ba .normal (norm 5 [2,3,4,7,8])) (KD P s 1)=some (Pk P s 1 P.n1):=by kernel_rfl
def awx(P:AG)(s:Bl):Eu [] WH (Ba .normal (norm 5 [2,3,4,7,8])) (KD P s 2)=some (Pk P s 2 P.n2):=by kernel_rfl
def awy(P:AG)(s:Bl):Eu [] WH (Ba .normal (norm 5 [2,3,4,7,8])) (KD P s 3)=some (Pk P s 3 P.n3):=by kernel_rfl
def ayp(P:AG)(s:Bl)(w num:Int):Eu [] Zg (Ba .normal (norm 5 [2,3,4,7,8])) (Pk P s w num)=bif decide (0<s.n)then bif decide (Ao s.n<num)then some (Pk P s w (Ao s.n))else some (Pk P s w num)else some (Pk P s w num):=by kernel_rfl
def Dk(w num:Int)(o:Md.Op):Ad:={(default:Ad)with kind:=5,src:=Ao (100+w),dst:=2,Ah:=w,num:=num,op:=o}
def dC(P:AG)(w num:Int)(m:List AV):St:={fr:=[(2,.ptr 5 0 0),(4,.ptr 11 0 0),(7,.int .i64 w),(8,.int .i64 num),(9,.ptr 12 0 0)],hp:=ES P [.arr true 33 [N8],.arr true 31 [m]]}
def awz(P:AG)(s:Bl)(w num:Int):Eu [] VP (Ba .normal (norm 5 [2,4,7,8,9])) (Pk P s w num)=some (dC P w num (NU (Dk w num s.o))):=by kernel_rfl
def GW(P:AG)(w num:Int)(m:Ad)(i:Int):St:={fr:=[(2,.ptr 5 0 0),(4,.ptr 11 0 0),(7,.int .i64 w),(8,.int .i64 num),(9,.ptr 12 0 0),(10,.int .i64 i)],hp:=ES P (dA m)}
def awA(P:AG)(w num:Int)(m:Ad):Eu [] Sl (Ba .normal (norm 5 [2,4,7,8,9,10])) (dC P w num (Aq m))=some (GW P w num m 0):=by kernel_rfl
def ayq(P:AG)(w num:Int)(m:Ad)(i:Int):Eu [] kT (Ba .normal (norm 5 [2,4,7,8,9,10])) (GW P w num m i)=bif decide (i<(P.ops.length:Int))then some (GW P w num m i)else none:=by kernel_rfl
def ayr(P:AG)(w num:Int)(m:Ad)(i:Int):Eu [] kT (Ba (.exit 0) (B9 [2,4,7,8,9,10])) (GW P w num m i)=bif decide (i<(P.ops.length:Int))then none else some (GW P w num m i):=by kernel_rfl
def kW(i:Int)(n:Nat)(K:Option St):Option St:=rg i n (bif i.toNat.blt n then K else none)
def ays(P:AG)(w num:Int)(m:Ad)(i:Int):Eu [] kU (Ba .normal (norm 5 [2,4,7,8,9,10])) (GW P w num m i) =
 kW i P.ops.length (bif decide ((P.ops.getD i.toNat default).Ah=w)then kW i P.ops.length (bif decide ((P.ops.getD i.toNat default).num=num)then kW i P.ops.length (some (GW P w num (P.ops.getD i.toNat default) i))else some (GW P w num m i))else some (GW P w num m i)):=by kernel_rfl
def ayt(P:AG)(w num:Int)(m:Ad)(i:Int):Eu [] kV (Ba .normal (norm 5 [2,4,7,8,9,10])) (GW P w num m i)=some (GW P w num m (Ao (i+1))):=by kernel_rfl
def zI(P:AG)(x:Ad):Heap:=kN P (P.AA.length+1) (P.ops.length+1) P.log.length P.busy.length P.said.length (VN 31 Aq default P.AA x) (VN 31 Aq default P.ops x) (Bf 11 Bt default P.log) (Bf 1 PB default P.busy) (Bf 31 Aq default P.said) []
def ic(P:AG)(x:Ad):AG:={P with AA:=P.AA++[x],ops:=P.ops++[x]}
def ari(P:AG)(x:Ad):zI P x=ES (ic P x) []:=by unfold zI ES ic;simp only[fH,CB,FD];rfl
def py(n:Nat)(K:Option St):Option St:=bif n.ble n then bif((n+1)*392).ble 140737488355328&&(n+1).ble 140737488355328 then K else none else none
def awB(P:AG)(w num:Int)(m:Ad)(i:Int):Eu [] TZ (Ba .ret (norm 5 [4])) (GW P w num m i)=py P.ops.length (py P.AA.length (some {fr:=[(4,.ptr 5 0 0)],hp:=zI P m})):=by kernel_rfl
abbrev FN(c:Code)(s:St)(e:AX)(s':St):Prop:=Bg (λQ=>c.wp PG Q) 154 5 s e s'
def iX{l:List Af}(h:∀ k ∈ l,k.Ok PG):DH PG (Zd l):=Gd h
def zJ{l:List Af}(h:∀ k ∈ l,k.Ok PG):EN PG (Dl (R:=St) (Zd l) 9):=Iw (iX h) Gc mixed 9
def IK{l:List Af}(h:∀ k ∈ l,k.Ok PG){c:Code}{L:List Nat}{s s':St}(A8:AD c=true)(e:Eu l c (Ba .normal (norm 5 L)) s=some s'):FN c s .normal s':=J5 (iX h) (zJ h) mixed A8 e
def dD{l:List Af}(h:∀ k ∈ l,k.Ok PG){c:Code}{L:List Nat}{s s':St}(A8:AD c=true)(e:Eu l c (Ba .ret (norm 5 L)) s=some s'):FN c s .ret s':=acV (iX h) (zJ h) mixed A8 e
def ldX{l:List Af}(h:∀ k ∈ l,k.Ok PG){c:Code}{L:List Nat}{s s':St}(A8:AD c=true)(e:Eu l c (Ba (.exit 0) (B9 L)) s=some s'):FN c s (.exit 0) s':=BT (e0:=.exit 0) (iX h) (zJ h) mixed A8 e
def okQ:AD QX=true:=by kernel_rfl
def ub{a b:List AV}(h:Gi a b):∀ l:List AV,Gi (l++a) (l++b)
 | []=>h
 | x::l=>.cons (.refl _) (ub h l)
def setW(P:AG)(l:List Ad):AG:={P with AA:=l}
def vQ{P:AG}{v:AV}{x:BS}{more:Heap}{l:List Ad}(hv:E9 v (.sn 31 6 l.length))(hx:Ib x (Bf 31 Aq default l)):HSub (hpV P v x more) (ES (setW P l) more):=by
 refine .cons (.refl _) (.cons (.refl _) (.cons (.refl _) (.cons (.refl _) (.cons (.refl _) (.cons (.arr _ _ _ _ rfl λi cs A3 e e'=>?_) (.cons hx (.refl _)))))));cases i with
 | zero=>simp only[TF,CU]at e e';subst e e';exact ub (.cons (.refl _) (.cons hv (.refl _))) (Ct P.d)
 | succ i=>simp at e
def nh{n:Nat}{F:Nat->List AV}{l:List Ad}(hn:n=l.length)(h:∀ i,i<n->F i=Aq (l.getD i default)):Ib (.seq true 31 n F) (Bf 31 Aq default l):=by subst hn;exact .seq true 31 _ _ _ _ (Ar _) λi hi=>by rw[h i hi];exact .refl _
def jD(P:AG)(s:Bl):Nat:=s.n.toNat % P.AA.length
def bd(P:AG)(s:Bl):AG:=
 if kD s=8 then setW P (P.AA++Hy P.d)else if P.AA.length=0 then P else if kD s=7 then R0 P (P.AA.getD (jD P s) default)else
 if kD s=6 then setW P (P.AA.eraseIdx (jD P s))else Ma (setW P (P.AA.eraseIdx (jD P s))) (P.AA.getD (jD P s) default)
structure ahm(P:AG)(s:Bl):Prop where
 n:0<=s.n/\s.n<=255
 sz:P.AA.length<=100000
 tick:kD s=8->X9 P.d/\(Hy P.d).length<=100000
 ayu:kD s ≠ 8->kD s ≠ 7->kD s ≠ 6->P.AA.length ≠ 0->VO (setW P (P.AA.eraseIdx (jD P s))) (P.AA.getD (jD P s) default)
def aoN(l k:List Ad):xZ l k=Bf 31 Aq default (l++k):=apV 31 Aq default l k
def sO{l:List Ad}{j i:Nat}:(l.eraseIdx j).getD i default=if i<j then l.getD i default else l.getD (i+1) default:=by simp only[List.getD,List.getElem?_eraseIdx];split <;> rfl
def atT{P:AG}{s:Bl}(h:ahm P s):FN cR (J3 P s) .ret (TD (bd P s)):=by
 have ok:AD cR=true:=by kernel_rfl
 rw[awn]at ok ⊢;obtain⟨k19,ok⟩:=A4 (show(AD bQ&&AD (.seq bR (.seq dz (.seq Ze (.seq Sj (.seq QY (.seq Sk Uv)))))))=true from ok);obtain⟨k22,ok⟩:=A4 (show(AD bR&&AD (.seq dz (.seq Ze (.seq Sj (.seq QY (.seq Sk Uv))))))=true from ok);obtain⟨k24,ok⟩:=A4 (show(AD dz&&AD (.seq Ze (.seq Sj (.seq QY (.seq Sk Uv)))))=true from ok);obtain⟨k25,ok⟩:=A4 (show(AD Ze&&AD (.seq Sj (.seq QY (.seq Sk Uv))))=true from ok);obtain⟨k26,ok⟩:=A4 (show(AD Sj&&AD (.seq QY (.seq Sk Uv)))=true from ok);obtain⟨k29,ok⟩:=A4 (show(AD QY&&AD (.seq Sk Uv))=true from ok);obtain⟨k30,k32⟩:=A4 (show(AD Sk&&AD Uv)=true from ok);have hsz:=h.sz;have kt:∀ k ∈ [nM],k.Ok PG:=ak alQ AR;unfold bd;by_cases h8:kD s=8
 ·obtain⟨t1,t2⟩:=h.tick h8;rw[Ay h8];refine Bg.Nt ?_;have q:∀ {K:Md.AL->Option St},gC (λa=>S9 (Bd a 0)) X9 (λd=>[.agg (Ct d)]) [.agg (Ct P.d)] K=K P.d:=λ{K}=>Bj P.d (eH P.d) t1 (.refl _);have L:FN bQ (J3 P s) .ret (TV P (.sn 31 6 (P.AA.length+(Hy P.d).length)) (xZ P.AA (Hy P.d))):=dD kt k19 ((atK P s).trans (by
   rw[Ax h8,Ae,q,Bn (Ar _),Bn (show(P.AA.length+(Hy P.d).length)*392<=140737488355328 by omega),Bn (show P.AA.length+(Hy P.d).length<=140737488355328 by omega)];rfl))
  exact L.GP (vQ (by rw[CB];exact .refl _) (by rw[aoN];exact .refl _))
 rw[AE h8];have L19:FN bQ (J3 P s) .normal (J3 P s):=IK kt k19 ((atL P s).trans (by rw[AN h8];rfl));refine L19.seq ?_;by_cases h0:P.AA.length=0
 ·rw[Ay h0];exact Bg.Nt (dD AR k22 ((atM P s).trans (by rw[Ax (by omega)];rfl)))
 rw[AE h0];have hn:=h.n;obtain⟨j,hj⟩:∃ j,jD P s=j:=⟨_,rfl⟩
 have hjl:j<P.AA.length:=by rw[<- hj];exact Nat.mod_lt _ (by omega)
 have ko:(Ao s.n).tmod (P.AA.length:Int)=(j:Int):=by
  have e1:Ao s.n=((s.n.toNat:Nat):Int):=by rw[Ru];omega
  rw[e1,<- hj];unfold jD;rfl
 rw[hj];have L22:FN bR (J3 P s) .normal (J3 P s):=IK AR k22 ((atN P s).trans (by rw[AN (by omega)];rfl));have L24:FN dz (J3 P s) .normal (rX P s (j:Int)):=IK AR k24 ((awo P s).trans (by rw[AN (by omega),ko];rfl));obtain⟨m,hm⟩:∃ m,P.AA.getD j default=m:=⟨_,rfl⟩
 have L25:FN Ze (rX P s (j:Int)) .normal (Pj P s (j:Int) m):=IK AR k25 ((awp P s (j:Int)).trans (by rw[B8 hjl,BV,Cd hjl,hm];rfl));refine L22.seq (L24.seq (L25.seq ?_));rw[hm];by_cases h7:kD s=7
 ·rw[Ay h7];refine Bg.Nt ?_;have L:FN Sj (Pj P s (j:Int) m) .ret (TV P (.sl 31 6 0 (P.AA.length+1) 0) (aiL P.AA m)):=dD AR k26 ((atO P s (j:Int) m).trans (by
   unfold gDb;rw[Ax h7,Ae,Bn (Ar _),Bn (show(0+P.AA.length)*392<=140737488355328 by omega),Bn (show 0+P.AA.length<=140737488355328 by omega),AM.beq_false h0,Bn (show(P.AA.length+1)*392<=140737488355328 by omega),Bn (show P.AA.length+1<=140737488355328 by omega)];rfl))
  refine L.GP (vQ (l:=P.AA++[m]) (by rw[CB,FD];exact E9.sn) (nh (by rw[CB,FD]) λi hi=>?_));by_cases h1:i<P.AA.length
  ·rw[Cd h1,Ae];simp only[List.getD];rw[DY h1]
  ·have:i=P.AA.length:=by omega
   subst this;rw[Js (Ar _),Aj,Cd (by omega),Ae,LN];simp[List.getD]
 rw[AE h7];have L26:FN Sj (Pj P s (j:Int) m) .normal (Pj P s (j:Int) m):=IK AR k26 ((atP P s (j:Int) m).trans (by rw[AN h7];rfl));have L29:FN QY (Pj P s (j:Int) m) .normal (rY (setW P (P.AA.eraseIdx j)) s m):=by
  have hw:Ao ((j:Int)+1)=((j+1:Nat):Int):=Cs (by omega);have e:=awq P s (j:Int) m;have hl:(P.AA.eraseIdx j).length=P.AA.length - 1:=by rw[List.length_eraseIdx_of_lt hjl]
  have r2:∀ {n:Nat} {K:Option St},n<=200000->iW n K=K:=λ{n K} hn=>by unfold iW;rw[Bn (show n*392<=140737488355328 by omega),Bn (show n<=140737488355328 by omega)];rfl
  have rc:∀ {K:Option St},pw P.AA.length 0 ((j+1:Nat):Int) K=K:=λ{K}=>by unfold pw;rw[Ax (by omega),Ax (by omega),Cd (by omega)];rfl
  have hor:(Nat.beq (P.AA.length - (j+1)) 0||(P.AA.length - (j+1)+(j+1)).ble P.AA.length)=true:=by rw[Bn (show P.AA.length - (j+1)+(j+1)<=P.AA.length by omega)];simp
  rw[hw,BV,BV,Ax (by omega),Ax (by omega),CV,Ae,Bn (show j<=P.AA.length by omega),Ae,r2 (by omega),rc,rc,hor,Ae,Ae,r2 (by omega),r2 (by omega),Bn (Ar j),Bool.or_true,Ae]at e;have fin:∀ {v:AV} {x:BS},Eu [] QY (Ba .normal (norm 5 [2,4,5,12])) (Pj P s (j:Int) m)=some (kQ P v x s m)->E9 v (.sn 31 6 (P.AA.eraseIdx j).length)->Ib x (Bf 31 Aq default (P.AA.eraseIdx j))->FN QY (Pj P s (j:Int) m) .normal (rY (setW P (P.AA.eraseIdx j)) s m):=λe hv hx=>(IK AR k29 e).GP (vQ hv hx);by_cases hj0:j=0
  ·rw[AM.beq_true hj0,Ae]at e;by_cases hr:P.AA.length - (j+1)=0
   ·rw[AM.beq_true hr,Ae]at e;refine fin e (by rw[hl,show P.AA.length - 1=0 by omega];exact E9.sn) ?_;have:P.AA.eraseIdx j=[]:=List.eq_nil_of_length_eq_zero (by omega);rw[this];exact .zero true 31 _
   ·rw[AM.beq_false hr,Aj]at e;refine fin e (by rw[hl,show P.AA.length - (j+1)=P.AA.length - 1 by omega];exact E9.sn) (nh (by omega) λi hi=>?_);rw[sO,AE (by omega)];unfold rsF;rw[show i+(j+1)=i+1 by omega]
  ·rw[AM.beq_false hj0,Aj]at e;by_cases hr:P.AA.length - (j+1)=0
   ·rw[AM.beq_true hr,Ae]at e;refine fin e (by rw[hl,show j=P.AA.length - 1 by omega];exact E9.sn) (nh (by omega) λi hi=>?_);rw[sO,Ay hi]
   ·rw[AM.beq_false hr,Aj]at e;refine fin e (by rw[hl,show j+(P.AA.length - (j+1))=P.AA.length - 1 by omega];exact E9.sn) (nh (by omega) λi hi=>?_);rw[sO];unfold aiM;by_cases h1:i<j
    ·rw[Cd h1,Ae,Ay h1]
    ·rw[Js (by omega),Aj,Cd hi,Ae,AE h1,show i - j+(j+1)=i+1 by omega]
 refine L26.seq (L29.seq ?_);by_cases h6:kD s=6
 ·rw[Ay h6];exact Bg.Nt (dD AR k30 ((atQ _ s m).trans (by rw[Ax h6];rfl)))
 rw[AE h6];have hg:=h.ayu h8 h7 h6 h0;rw[hj,hm]at hg;have L30:=IK AR k30 ((atS (setW P (P.AA.eraseIdx j)) s m).trans (by rw[AN h6];rfl));have q2:∀ {K:Unit->Option St},BA (λ_ _=>()) (λ_=>VO (setW P (P.AA.eraseIdx j)) m) (λ_=>bP (setW P (P.AA.eraseIdx j)) m) [.agg (I7 0 (setW P (P.AA.eraseIdx j))),.agg (Aq m)] (JQ (setW P (P.AA.eraseIdx j))) K=K ():=λ{K}=>Dw () rfl hg (.refl _) (.refl _);exact L30.seq (dD (ak (amx _ _) AR) k32 ((awr _ m).trans q2))
def zK(w num:Int)(q:Ad):Bool:=decide (q.Ah=w)&&decide (q.num=num)
def GN(w num:Int)(m q:Ad):Ad:=bif zK w num q then q else m
def wS(s:Bl):Nat:=1+s.s.toNat % 3
def En(P:AG)(s:Bl):AG:=bif decide (s.n=0)then T1 P (wS s)else P
def Mb(P:AG)(s:Bl):Int:=bif decide (0<s.n)then bif decide (s.n<OX P (wS s))then s.n else OX P (wS s)else OX P (wS s)
def T2(P:AG)(s:Bl):Ad:=P.ops.foldl (GN (wS s) (Mb P s)) (Dk (wS s) (Mb P s) s.o)
def ie(P:AG)(s:Bl):AG:=ic (En P s) (T2 (En P s) s)
structure ahn(P:AG)(s:Bl):Prop where
 n:0<=s.n/\s.n<=255
 s:0<=s.s/\s.s<=255
 AA:P.AA.length<=100000
 ops:P.ops.length<=600000
def aoO(P:AG)(w:Nat):(T1 P w).ops=P.ops/\(T1 P w).AA=P.AA:=by unfold T1;split <;> exact⟨rfl,rfl⟩
def arj(P:AG)(w num:Int)(o:Md.Op):HSub (dC P w num (NU (Dk w num o))).hp (dC P w num (Aq (Dk w num o))).hp:=by
 have key:∀ (a:List AV) (b:BS) (l:Heap),Ib (.arr true 31 [NU (Dk w num o)]) b->HSub (l++[.arr true 31 [NU (Dk w num o)]]) (l++[b]):=λ_ b l hb=>by
  induction l with
  | nil=>exact .cons hb .nil
  | cons x l ih=>exact .cons (.refl _) ih
 have hb:Ib (.arr true 31 [NU (Dk w num o)]) (.arr true 31 [Aq (Dk w num o)]):=by
  refine .arr _ _ _ _ rfl λi cs A3 e e'=>?_;cases i with
  | zero=>
   simp only[TF,CU]at e e';subst e e';have hs:=mP (Dk w num o) ⟨rfl,rfl,rfl,rfl,rfl⟩;have hf:(NU (Dk w num o)).all Ed=true:=by rfl
   exact⟨hs.1,λk c c' e e'=>E9.of (hs.2 k c c' e e') (HA.1 hf c (Dy e))⟩
  | succ i=>simp at e
 exact key [] _ ((ES P [.arr true 33 [N8]])) hb
def atU{P:AG}{s:Bl}(h:ahn P s)(b:Bool):FN cA (rW P s b) .ret (TD (ie P s)):=by
 have ok:AD cA=true:=by kernel_rfl
 rw[aws]at ok ⊢;obtain⟨k4,ok⟩:=A4 (show(AD rZ&&AD (.seq Zf (.seq WH (.seq Zg (.seq VP (.seq (.seq Sl (.block 0 (.loop M9))) TZ))))))=true from ok);obtain⟨k5,ok⟩:=A4 (show(AD Zf&&AD (.seq WH (.seq Zg (.seq VP (.seq (.seq Sl (.block 0 (.loop M9))) TZ)))))=true from ok);obtain⟨k7,ok⟩:=A4 (show(AD WH&&AD (.seq Zg (.seq VP (.seq (.seq Sl (.block 0 (.loop M9))) TZ))))=true from ok);obtain⟨k8,ok⟩:=A4 (show(AD Zg&&AD (.seq VP (.seq (.seq Sl (.block 0 (.loop M9))) TZ)))=true from ok);obtain⟨k10,ok⟩:=A4 (show(AD VP&&AD (.seq (.seq Sl (.block 0 (.loop M9))) TZ))=true from ok);obtain⟨ok,k16⟩:=A4 (show(AD (.seq Sl (.block 0 (.loop M9)))&&AD TZ)=true from ok);obtain⟨k11,ok⟩:=A4 (show(AD Sl&&AD M9)=true from ok);rw[w6]at ok;obtain⟨kp,ok⟩:=A4 (show(AD kT&&AD (.seq (.block 1 kU) kV))=true from ok);obtain⟨kb,ki⟩:=A4 (show(AD kU&&AD kV)=true from ok);obtain⟨hn,hs,hw1,ho1⟩:=h;have hwi:Ao (1+Ao (s.s.tmod 3))=((wS s:Nat):Int):=by
  have e1:s.s=((s.s.toNat:Nat):Int):=by omega
  have e2:s.s.tmod 3=((s.s.toNat % 3:Nat):Int):=by
   conv=>lhs;rw[e1]
   rfl
  rw[e2];unfold wS;rw[Ru,Ru];omega
 have L4:FN rZ (rW P s b) .normal (KD P s (wS s:Nat)):=IK AR k4 ((ayo P s b).trans (by rw[hwi]));have hw3:wS s=1\/wS s=2\/wS s=3:=by unfold wS;omega
 have L5:FN Zf (KD P s (wS s:Nat)) .normal (KD (En P s) s (wS s:Nat)):=by
  refine IK (L:=[2,3,4,7]) AR k5 ?_;unfold En;rcases hw3 with e | e | e
  ·rw[e];refine(awt P s).trans ?_;cases decide (s.n=0) <;> rfl
  ·rw[e];refine(awu P s).trans ?_;cases decide (s.n=0) <;> rfl
  ·rw[e];refine(awv P s).trans ?_;cases decide (s.n=0) <;> rfl
 obtain⟨P1,hP1⟩:∃ P1,En P s=P1:=⟨_,rfl⟩
 have hsz:P1.ops.length<=600000/\P1.AA.length<=100000:=by
  rw[<- hP1];unfold En;cases decide (s.n=0)with
  | true=>obtain⟨e1,e2⟩:=aoO P (wS s);exact⟨by rw[Ae,e1];exact ho1,by rw[Ae,e2];exact hw1⟩
  | false=>exact⟨ho1,hw1⟩
 obtain⟨so,sw⟩:=hsz;rw[hP1]at L5;have L7:FN WH (KD P1 s (wS s:Nat)) .normal (Pk P1 s (wS s:Nat) (OX P1 (wS s))):=by
  refine IK (L:=[2,3,4,7,8]) AR k7 ?_;rcases hw3 with e | e | e
  ·rw[e];exact aww P1 s
  ·rw[e];exact awx P1 s
  ·rw[e];exact awy P1 s
 have L8:FN Zg (Pk P1 s (wS s:Nat) (OX P1 (wS s))) .normal (Pk P1 s (wS s:Nat) (Mb P1 s)):=by
  refine IK AR k8 ((ayp P1 s _ _).trans ?_);have e1:Ao s.n=s.n:=by rw[Ru];omega
  rw[e1];unfold Mb;cases decide (0<s.n)with
  | false=>rfl
  | true=>cases decide (s.n<OX P1 (wS s)) <;> rfl
 obtain⟨w,hw⟩:∃ w:Int,((wS s:Nat):Int)=w:=⟨_,rfl⟩
 obtain⟨num,iS⟩:∃ num,Mb P1 s=num:=⟨_,rfl⟩
 have hms:T2 P1 s=P1.ops.foldl (GN w num) (Dk w num s.o):=by unfold T2;rw[hw,iS]
 unfold ie;rw[hP1,hms];rw[hw]at L4 L5 L7 L8;rw[iS]at L8;have L10:FN VP (Pk P1 s w num) .normal (dC P1 w num (Aq (Dk w num s.o))):=(IK AR k10 (awz P1 s w num)).GP (arj P1 w num s.o);have L11:FN Sl (dC P1 w num (Aq (Dk w num s.o))) .normal (GW P1 w num (Dk w num s.o) ((0:Nat):Int)):=IK AR k11 (awA P1 w num _);have LL:FN (.loop M9) (GW P1 w num (Dk w num s.o) ((0:Nat):Int)) (.exit 0) (GW P1 w num (P1.ops.foldl (GN w num) (Dk w num s.o)) (P1.ops.length:Nat)):=by
  have:=Bg.loop (P:=PG) (nt:=154) (base:=5) (x:=M9) (e0:=.exit 0) (by simp) (n:=P1.ops.length) (λi=>GW P1 w num ((P1.ops.take i).foldl (GN w num) (Dk w num s.o)) (i:Nat)) (T:=GW P1 w num (P1.ops.foldl (GN w num) (Dk w num s.o)) (P1.ops.length:Nat)) (λi hi=>?_) ?_
  ·rw[List.take_zero]at this;exact this
  ·obtain⟨m,hm⟩:∃ m,(P1.ops.take i).foldl (GN w num) (Dk w num s.o)=m:=⟨_,rfl⟩
   have Dc:Ao ((i:Int)+1)=((i+1:Nat):Int):=Cs (by omega);have et:P1.ops.take (i+1)=P1.ops.take i++[P1.ops.getD i default]:=by rw[Qh];simp[List.getD,hi]
   rw[hm,et,List.foldl_append,hm];have gx:∀ {K:Option St},kW (i:Int) P1.ops.length K=K:=λ{K}=>by unfold kW;rw[B8 hi,BV,Cd hi];rfl
   have Lp:FN kT (GW P1 w num m (i:Nat)) .normal (GW P1 w num m (i:Nat)):=IK AR kp ((ayq P1 w num m _).trans (by rw[Ax (by omega)];rfl));have Lb:FN kU (GW P1 w num m (i:Nat)) .normal (GW P1 w num (GN w num m (P1.ops.getD i default)) (i:Nat)):=IK AR kb ((ays P1 w num m _).trans (by
    rw[gx,gx,gx,BV];unfold GN zK;cases decide ((P1.ops.getD i default).Ah=w)with
    | false=>rfl
    | true=>cases decide ((P1.ops.getD i default).num=num) <;> rfl))
   have Li:FN kV (GW P1 w num (GN w num m (P1.ops.getD i default)) (i:Nat)) .normal (GW P1 w num (GN w num m (P1.ops.getD i default)) ((i+1:Nat):Int)):=IK AR ki ((ayt P1 w num _ _).trans (by rw[Dc]));rw[w6];exact Lp.seq ((Bg.U2 Lb).seq Li)
  ·rw[TG (Ar _),w6];exact Bg.mO (ldX AR kp ((ayr P1 w num _ _).trans (by rw[AN (by omega)];rfl)))
 have L16:FN TZ (GW P1 w num (P1.ops.foldl (GN w num) (Dk w num s.o)) (P1.ops.length:Nat)) .ret (TD (ic P1 (P1.ops.foldl (GN w num) (Dk w num s.o)))):=dD AR k16 ((awB P1 w num _ _).trans (by
  have g:∀ {n:Nat} {K:Option St},n<=700000->py n K=K:=λ{n K} hn=>by unfold py;rw[Bn (Ar _),Bn (show(n+1)*392<=140737488355328 by omega),Bn (show n+1<=140737488355328 by omega)];rfl
  rw[g (by omega),g (by omega),ari];rfl))
 exact L4.seq (L5.seq (L7.seq (L8.seq (L10.seq ((L11.seq LL.block).seq L16)))))
def Jz(P:AG)(s:Bl):AG:=if kD s<=3 then ie P s else bd P s
structure bf(P:AG)(s:Bl):Prop where
 a:kD s<=3->ahn P s
 r:¬ kD s<=3->ahm P s
def VQ(P:AG)(s:Bl):List AV × Heap:=([.agg (I7 0 P),.agg (IS s)],JQ P)
def atV(P:AG):Ip (Zd []).tt (TD P) [.cell 4 49] (λvs=>Cm 0 5 (Ge vs) (TD P).hp)=some (JZ P):=by kernel_rfl
def ark(P:AG)(s:Bl)(h:bf P s):At PG Zx (VQ P s).1 (VQ P s).2 (JZ (Jz P s)).1 (JZ (Jz P s)).2/\(VQ P s).2.length<=(JZ (Jz P s)).2.length:=by
 have ok:=okQ;rw[afz]at ok;obtain⟨k0,ok⟩:=A4 (show(AD cQ0&&AD (.seq rV (.seq kP (.seq (.seq WG (.cond (.tmp 20) cA .skip)) cR))))=true from ok);obtain⟨k1,ok⟩:=A4 (show(AD rV&&AD (.seq kP (.seq (.seq WG (.cond (.tmp 20) cA .skip)) cR)))=true from ok);obtain⟨k2,ok⟩:=A4 (show(AD kP&&AD (.seq (.seq WG (.cond (.tmp 20) cA .skip)) cR))=true from ok);obtain⟨ok,_⟩:=A4 (show(AD (.seq WG (.cond (.tmp 20) cA .skip))&&AD cR)=true from ok);obtain⟨k3,_⟩:=A4 (show(AD WG&&AD (.cond (.tmp 20) cA .skip))=true from ok);have L0:=IK AR k0 (ayk P s);have L1:=IK AR k1 (ayl P s);have L2:=IK AR k2 (aym P s);have L3:=IK AR k3 (ayn P s);have main:FN QX (S0D P s) .ret (TD (Jz P s)):=by
  rw[afz];refine L0.seq (L1.seq (L2.seq ?_));unfold Jz;by_cases hk:kD s<=3
  ·rw[Ay hk];rw[Ax hk]at L3;exact Bg.Nt (L3.seq (Bg.cond (b:=true) rfl (atU (h.a hk) true)))
  ·rw[AE hk];rw[AN hk]at L3;have L:FN (.seq WG (.cond (.tmp 20) cA .skip)) (J3 P s) .normal (J3 P s):=Bg.j8 (P:=PG) (L3.seq (Bg.cond (b:=false) rfl (Bg.skip _))) [2,3,4,5,6];exact L.seq (atT (h.r hk))
 obtain⟨fn,hf,hb,GI,Ew⟩:∃ fn,(Zd []).code Zx=some fn/\fn.body=some QX/\fn.ntmps=154/\fn.results.toList=[.cell 4 49]:=⟨_,rfl,by kernel_rfl,by kernel_rfl,by kernel_rfl⟩
 have mv:FN QX {fr:=Ej 0 (VQ P s).1,hp:=JQ P} .ret (TD (Jz P s)):=Bg.agU (s:={fr:=Ej 0 (VQ P s).1,hp:=JQ P}) (λt=>aaV (VQ P s).1 0 t) main;exact WZ (iX AR) Gc hf hb (.inr rfl) (by rw[GI];exact mv) (c0:=0) (Bu _) (by rw[Ew];exact atV _)
def aiN(P:AG)(s:Bl):Af:=.EC Zx (λ_ _=>()) (λ_=>bf P s) (λ_=>VQ P s) (λ_=>JZ (Jz P s))
def arl(P:AG)(s:Bl):(aiN P s).Ok PG:=Af.EL λ_ h=>ark P s h
def ud:∀ a:An,strLt a a=false
 | []=>rfl
 | x::l=>by simp only[strLt,ud l,Js (Ar x.toNat),Bool.and_false,Bool.or_false]
def mQ:∀ {a b c:An},strLt a b=true->strLt b c=true->strLt a c=true
 | _,[],_,h,_=>by cases ‹An› <;> simp[strLt]at h
 | _,_::_,[],_,h=>by simp[strLt]at h
 | [],_::_,_::_,_,_=>rfl
 | x::a,y::b,z::c,h,h'=>by
  simp only[strLt,Bool.or_eq_true,My,CW,Nat.beq_eq]at h h' ⊢;rcases h with h | ⟨h1,h2⟩
  ·rcases h' with h' | ⟨FG,E0⟩
   ·left;omega
   ·left;omega
  ·rcases h' with h' | ⟨FG,E0⟩
   ·left;omega
   ·right;exact⟨by omega,mQ h2 E0⟩
def ue:∀ a b:An,strLt a b=true\/a=b\/strLt b a=true
 | [],[]=>.inr (.inl rfl)
 | [],_::_=>.inl rfl
 | _::_,[]=>.inr (.inr rfl)
 | x::a,y::b=>by
  simp only[strLt,Bool.or_eq_true,My,CW,Nat.beq_eq];rcases Qg x.toNat y.toNat with h | h | h
  ·exact .inl (.inl h)
  ·rcases ue a b with k | k | k
   ·exact .inl (.inr ⟨h,k⟩)
   ·have:x=y:=UInt8.toNat_inj.1 h;exact .inr (.inl (by rw[this,k]))
   ·exact .inr (.inr (.inr ⟨h.symm,k⟩))
  ·exact .inr (.inr (.inl h))
def Xe{a b:An}:A5 a b=true ↔ a=b:=by rw[DV];simp
def uU{a b:An}(h:strLt a b=true):a ≠ b:=λe=>by rw[e,ud]at h;cases h
def kX(l:List Row):Prop:=l.Pairwise λa b=>strLt a.key b.key=true
def ni{r x:Row}:Ph r x=true ↔ strLt r.key x.key=true:=by
 unfold Ph;constructor
 ·intro h;have h:(strLt x.key r.key||A5 x.key r.key)=false:=by simpa using h
  rw[Mw]at h;rcases ue x.key r.key with k | k | k
  ·rw[h.1]at k;cases k
  ·rw[Xe.2 k]at h;exact absurd h.2 (by simp)
  ·exact k
 ·intro h;have h1:strLt x.key r.key=false:=by
   cases hc:strLt x.key r.key with
   | false=>rfl
   | true=>have:=mQ h hc;rw[ud]at this;cases this
  have h2:A5 x.key r.key=false:=by
   cases hc:A5 x.key r.key with
   | false=>rfl
   | true=>exact absurd (Xe.1 hc).symm (uU h)
  rw[h1,h2];rfl
def ya{l:List Row}{k:An}{x:Row}(h:x ∈ l.takeWhile λx=>strLt x.key k):strLt x.key k=true:=by have:=List.all_takeWhile (p:=λx:Row=>strLt x.key k) (l:=l);exact HA.1 this x h
def aoP{l:List Row}(h:kX l)(r:Row):kX (K6 l r):=by
 unfold K6 kX;refine R1.2 ⟨h.sublist (List.takeWhile_sublist _),R4.2 ⟨λx hx=>ni.1 (Gz.1 hx).2,h.sublist aA⟩,λx hx y hy=>?_⟩;rcases Dz.1 hy with rfl | hy
 ·exact ya hx
 ·exact mQ (ya hx) (ni.1 (Gz.1 hy).2)
def ac3{l:List Row}{k:An}:(ED l k).2=false ↔ ∀ x ∈ l,x.key ≠ k:=by
 unfold ED;cases hf:l.find? (λr=>A5 r.key k)with
 | some y=>
  constructor
  ·intro h;cases h
  ·intro h;have h1:=List.find?_some hf;exact absurd (Xe.1 (by simpa using h1)) (h y (XY hf))
 | none=>
  constructor
  ·intro _ x hx hk;have:=List.find?_eq_none.1 hf x hx;exact this (Xe.2 hk)
  ·intro _;rfl
def uV{l:List Row}(h:kX l){r x:Row}:x ∈ K6 l r ↔ x=r\/(x ∈ l/\x.key ≠ r.key):=by
 unfold K6;rw[Cp,Dz,Gz];constructor
 ·rintro(hx | rfl | ⟨hx,ha⟩)
  ·exact .inr ⟨(List.takeWhile_sublist _).subset hx,uU (ya hx)⟩
  ·exact .inl rfl
  ·exact .inr ⟨hx,λe=>uU (ni.1 ha) e.symm⟩
 ·rintro(rfl | ⟨hx,hk⟩)
  ·exact .inr (.inl rfl)
  ·rcases ue x.key r.key with k | k | k
   ·left;clear hk
    induction l with
    | nil=>cases hx
    | cons y l ih=>
     obtain⟨h1,h2⟩:=R4.1 h;rcases Dz.1 hx with rfl | hx
     ·rw[List.takeWhile_cons_of_pos (by simpa using k)];exact R3
     ·rw[List.takeWhile_cons_of_pos (by simpa using mQ (h1 x hx) k)];exact JC _ (ih h2 hx)
   ·exact absurd k hk
   ·exact .inr (.inr ⟨hx,ni.2 k⟩)
def Jq(A:An->Option Entry)(e:Entry):An->Option Entry:=λk=>if e.key=k then(match A k with
 | some y=>if AP y.Ag e.Ag=true then some e else some y
 | none=>some e)else A k
structure Pn(A:An->Option Entry)(v:Au)(l:List Row):Prop where
 dE:kX l
 row:∀ x ∈ l,∃ y,A x.key=some y/\x=VM y
 no:∀ k y,A k=some y->(∀ x ∈ l,x.key ≠ k)->y.del=true/\E1 y.Ag v
def Na(A A':An->Option Entry):Prop:=∀ k y,A k=some y -> ∃ z,A' k=some z/\E1 y.Ag z.Ag
def Na.refl(A:An->Option Entry):Na A A:=λ_ y h=>⟨y,h,E1.refl _⟩
def Na.trans{A B D:An->Option Entry}(h:Na A B)(h':Na B D):Na A D:=λk y hy=>by obtain⟨z,z1,z2⟩:=h k y hy;obtain⟨u,u1,u2⟩:=h' k z z1;exact⟨u,u1,z2.trans u2⟩
def afA(A:An->Option Entry)(e:Entry):Na A (Jq A e):=λk y hy=>by
 unfold Jq;by_cases hk:e.key=k
 ·rw[Ay hk,hy];dsimp only;by_cases hv:AP y.Ag e.Ag=true
  ·rw[Ay hv];exact⟨e,rfl,abn hv⟩
  ·rw[AE hv];exact⟨y,rfl,E1.refl _⟩
 ·rw[AE hk];exact⟨y,hy,E1.refl _⟩
def arn(A:An->Option Entry)(e:Entry):∃ z,Jq A e e.key=some z/\E1 e.Ag z.Ag:=by
 unfold Jq;rw[Ay rfl];cases hA:A e.key with
 | none=>exact⟨e,rfl,E1.refl _⟩
 | some y=>
  dsimp only;by_cases hv:AP y.Ag e.Ag=true
  ·rw[Ay hv];exact⟨e,rfl,E1.refl _⟩
  ·rw[AE hv];exact⟨y,rfl,by simpa [E1] using hv⟩
def ac4{A:An->Option Entry}{e y:Entry}(hA:A e.key=some y)(hv:E1 e.Ag y.Ag):Jq A e=A:=by
 funext k;unfold Jq;by_cases hk:e.key=k
 ·subst hk;rw[Ay rfl,hA];dsimp only;rw[AE (by rw[show AP y.Ag e.Ag=false from hv];simp)]
 ·rw[AE hk]
def Uw(H:List Entry)(A:An->Option Entry):Prop:=∀ k y,A k=some y->y ∈ H/\y.write=true/\y.key=k
def Uw.up{H:List Entry}{A:An->Option Entry}(h:Uw H A){e:Entry}(he:e ∈ H)(hw:e.write=true):Uw H (Jq A e):=λk y hy=>by
 unfold Jq at hy;by_cases hk:e.key=k
 ·rw[Ay hk]at hy;cases hA:A k with
  | none=>rw[hA]at hy;cases hy;exact⟨he,hw,hk⟩
  | some z=>
   rw[hA]at hy;dsimp only at hy;by_cases hv:AP z.Ag e.Ag=true
   ·rw[Ay hv]at hy;cases hy;exact⟨he,hw,hk⟩
   ·rw[AE hv]at hy;cases hy;exact h k _ hA
 ·rw[AE hk]at hy;exact h k y hy
def atW{A:An->Option Entry}{v:Au}{l:List Row}(h:Pn A v l){e:Entry}(hw:e.write=true)
  (hold:AP v e.Ag=false -> ∃ y,A e.key=some y/\E1 e.Ag y.Ag):Pn (Jq A e) v (M8 v l e):=by
 unfold M8;rw[hw];cases hv:AP v e.Ag with
 | false=>obtain⟨y,y1,y2⟩:=hold hv;rw[ac4 y1 y2];exact h
 | true=>
  show Pn (Jq A e) v (bif(ED l e.key).2 && !AP (ED l e.key).1.Ag e.Ag then l else K6 l (VM e));cases hc:(ED l e.key).2 && !AP (ED l e.key).1.Ag e.Ag with
  | true=>
   obtain⟨c1,c2⟩:=A4 hc;obtain⟨m1,m2⟩:=mq c1;obtain⟨y,y1,y2⟩:=h.row _ m1;rw[m2]at y1;have hle:E1 e.Ag y.Ag:=by
    have:AP (ED l e.key).1.Ag e.Ag=false:=by simpa using c2
    rw[y2]at this;exact this
   rw[ac4 y1 hle];exact h
  | false=>
   have rN:Jq A e e.key=some e:=by
    unfold Jq;rw[Ay rfl];cases hA1:A e.key with
    | none=>rfl
    | some y=>
     dsimp only;refine Ay ?_;cases hf:(ED l e.key).2 with
     | true=>
      rw[hf,Tj]at hc;obtain⟨m1,m2⟩:=mq hf;obtain⟨z,z1,z2⟩:=h.row _ m1;rw[m2,hA1]at z1;cases z1;have:AP (ED l e.key).1.Ag e.Ag=true:=by simpa using hc
      rw[z2]at this;exact this
     | false=>have:=(h.no e.key y hA1 (ac3.1 hf)).2;rw[Z8]at hv ⊢;rw[m5]at this;omega
   refine⟨aoP h.dE _,λx hx=>?_,λk y hy CZ=>?_⟩
   ·rcases(uV h.dE).1 hx with rfl | ⟨hx,hk⟩
    ·exact⟨e,rN,rfl⟩
    ·obtain⟨y,y1,y2⟩:=h.row x hx;refine⟨y,?_,y2⟩;unfold Jq;rw[AE (λe'=>hk e'.symm)];exact y1
   ·by_cases hk:e.key=k
    ·exact absurd hk (CZ (VM e) ((uV h.dE).2 (.inl rfl)))
    ·unfold Jq at hy;rw[AE hk]at hy;exact h.no k y hy λx hx hxk=>CZ x ((uV h.dE).2 (.inr ⟨hx,λh'=>hk (h'.symm.trans hxk)⟩)) hxk
def atX{A:An->Option Entry}{v:Au}{l:List Row}(h:Pn A v l):Pn A v (VL l v):=by
 unfold VL;refine⟨h.dE.sublist aA,λx hx=>h.row x (Gz.1 hx).1,λk y hy CZ=>?_⟩;by_cases hex:∃ x ∈ l,x.key=k
 ·obtain⟨x,hx,rfl⟩:=hex;have hst:stays v x=false:=by
   cases hs:stays v x with
   | false=>rfl
   | true=>exact absurd rfl (CZ x (Gz.2 ⟨hx,hs⟩))
  unfold stays at hst;rw[Mw]at hst;obtain⟨z,z1,z2⟩:=h.row x hx;rw[hy]at z1;cases z1;rw[z2]at hst;exact⟨by simpa [VM] using hst.1,hst.2⟩
 ·exact h.no k y hy λx hx hk=>hex ⟨x,hx,hk⟩
def Pn.mono{A:An->Option Entry}{v w:Au}{l:List Row}(h:Pn A v l)(hv:E1 v w):Pn A w l:=⟨h.dE,h.row,λk y hy CZ=>⟨(h.no k y hy CZ).1,(h.no k y hy CZ).2.trans hv⟩⟩
def bS(A:An->Option Entry)(es:List Entry):An->Option Entry:=es.foldl Jq A
def vR:∀ (es:List Entry) (A:An->Option Entry),Na A (bS A es)
 | [],A=>.refl A
 | e::es,A=>(afA A e).trans (vR es (Jq A e))
def ac5:∀ (es:List Entry) (A:An->Option Entry),∀ e ∈ es,∃ z,bS A es e.key=some z/\E1 e.Ag z.Ag
 | [],_,e,he=>by cases he
 | x::es,A,e,he=>by
  rcases Dz.1 he with rfl | he
  ·obtain⟨y,y1,y2⟩:=arn A e;obtain⟨z,z1,z2⟩:=vR es (Jq A e) _ _ y1;exact⟨z,z1,y2.trans z2⟩
  ·exact ac5 es (Jq A x) e he
def ac6{H:List Entry}{v:Au}:∀ (es:List Entry) (A:An->Option Entry) (l:List Row),Uw H A->Pn A v l->(∀ e ∈ es,e ∈ H/\e.write=true)->(∀ e ∈ es,AP v e.Ag=false -> ∃ y,A e.key=some y/\E1 e.Ag y.Ag) ->
  Pn (bS A es) v (IB l v es)/\Uw H (bS A es)
 | [],_,_,hA,h,_,_=>⟨h,hA⟩
 | e::es,A,l,hA,h,V8,hold=>by obtain⟨e1,e2⟩:=V8 e (by simp);refine ac6 es (Jq A e) (M8 v l e) (hA.up e1 e2) (atW h e2 (hold e (by simp))) (λx hx=>V8 x (JC _ hx)) λx hx hv=>?_;obtain⟨y,y1,y2⟩:=hold x (JC _ hx) hv;obtain⟨z,z1,z2⟩:=afA A e _ _ y1;exact⟨z,z1,y2.trans z2⟩
section
variable {C:Ctx} {A:An->Option Entry} {B:Nat} {H:List Entry} {f:Nat}
def cx(A:An->Option Entry)(ops:List Ad)(d:Md.AL):Ctx:=⟨ops,A,d.next,λn k=>∃ a ∈ d.asks,a.num=n/\a.key=k,d.AB⟩
def ac7{k:An}{e:Entry}:∀ {H:List Entry},LW H k=some e -> ∃ a b,H=a++e::b/\M5 b k
 | [],h=>by cases h
 | x::r,h=>by
  unfold LW Em at h;cases hr:Em r k with
  | some y=>rw[hr]at h;dsimp only at h;cases h;obtain⟨a,b,e1,e2⟩:=ac7 (H:=r) hr;exact⟨x::a,b,by rw[e1];rfl,e2⟩
  | none=>
   rw[hr]at h;dsimp only at h;cases hc:x.write&&A5 x.key k with
   | true=>rw[hc,Ae]at h;cases h;exact⟨[],r,rfl,hr⟩
   | false=>rw[hc,Aj]at h;cases h
def Fg.lt{a b:List Entry}{e y:Entry}(h:Fg C (a++e::b))(hy:y ∈ a):AP y.Ag e.Ag=true:=by obtain⟨i,hi,rfl⟩:=R2 hy;have Ur:=h.len;rw[CB,CR]at Ur;have h1:=h.Ag i (by rw[CB];omega);have h2:=h.Ag a.length (by rw[CB,CR];omega);rw[List.getElem_append_left hi]at h1;rw[List.getElem_append_right (Ar _)]at h2;simp only[LN,List.getElem_cons_zero]at h2;rw[h1,h2,Ty (by omega) (by omega)];exact Ax (by omega)
def zL{k:An}(hh:Fg C H)(hA:Uw H C.A)(hap:∀ e ∈ H.take f,e.write=true->Ap C e)(hn:M5 (H.drop f) k):C.A k=LW H k:=by
 cases hl:LW H k with
 | none=>
  cases hk:C.A k with
  | none=>rfl
  | some y=>obtain⟨y1,y2,y3⟩:=hA k y hk;have hl:M5 H k:=hl;exact absurd y3 (Xp.1 hl y y1 y2)
 | some e=>
  obtain⟨e1,e2,e3⟩:=ad7 hl;obtain⟨a,b,hs,hb⟩:=ac7 hl;have ht:e ∈ H.take f:=by
   rw[<- Xz f H]at e1;rcases Cp.1 e1 with h | h
   ·exact h
   ·exact absurd e3 (Xp.1 hn e h e2)
  obtain⟨y,y1,y2⟩:=hap e ht e2;rw[e3]at y1;obtain⟨z1,z2,z3⟩:=hA k y y1;rw[y1];rw[hs]at z1 hh;rcases Cp.1 z1 with h | h
  ·have:=hh.lt h;rw[show AP y.Ag e.Ag=false from y2]at this;cases this
  ·rcases Dz.1 h with rfl | h
   ·rfl
   ·exact absurd z3 (Xp.1 hb y h z2)
def Ap.mono{C D:Ctx}{e:Entry}(h:Ap C e)(hA:Na C.A D.A):Ap D e:=by obtain⟨y,y1,y2⟩:=h;obtain⟨z,z1,z2⟩:=hA _ _ y1;exact⟨z,z1,y2.trans z2⟩
def DS.re{d:Md.AL}(h:DS C X0 B H f d){A':An->Option Entry}{ops':List Ad}(hA:Na C.A A')(ho:Tz (cx A' ops' d))(GP:∀ q ∈ C.ops,q ∈ ops'):DS (cx A' ops' d) X0 B H f d:=
 {ops:=ho
  h:=⟨h.h.len,h.h.Ag,h.h.Ho,h.h.VH,λe he=>by obtain⟨q,q1,q2⟩:=h.h.call e he;exact⟨q,GP q q1,q2⟩⟩
  rep:=h.rep,fl:=h.fl,log:=h.log
  ap:=λe he hw=>(h.ap e he hw).mono (D:=cx A' ops' d) hA
  Kw:=h.Kw,Gm:=h.Gm
  FB:=⟨h.FB.1,λx hx=>by obtain⟨e,e1,e2,e3,e4⟩:=h.FB.2 x hx;exact⟨e,e1,e2,e3,e4.mono (D:=cx A' ops' d) hA⟩⟩
  clean:=h.clean,waits:=h.waits,asks:=h.asks,keys:=h.keys
  ask:=λa ha=>by have h0:=h.ask a ha;exact⟨h0.num,h0.key,h0.len,λq hq=>⟨GP q (h0.calls q hq).1,(h0.calls q hq).2⟩,h0.now,.inr ⟨a,ha,rfl,rfl⟩⟩
  next:=h.next,n0:=JG _,pu:=SG.refl _}
structure Nb(A:An->Option Entry)(B:Nat)(H:List Entry)(f:Nat)(s:Eh):Prop where
 Qc:s.Qc=1
 fl:s.floor=⟨0,0⟩ \/ ∃ g,g<=f/\s.floor=v1 g
 rw:Pn A s.floor s.rows
 a:Uw H A
 len:s.rows.length<=B
def QZ(A:An->Option Entry)(H:List Entry)(f:Nat)(ops:List Ad)(d:Md.AL)(x:Ad):Prop:=x ∈ ops\/Us H f d.AB x\/XV d.next x\/FdI (cx A ops d) d x\/VaI H d x
structure IL(A:An->Option Entry)(B S:Nat)(H:List Entry)(f:Nat)(P:AG):Prop where
 ds:DS (cx A P.ops P.d) X0 B H f P.d
 st:Nb A B H f P.st
 AA:∀ x ∈ P.AA,QZ A H f P.ops P.d x
 said:∀ x ∈ P.said,OU (cx A P.ops P.d) H x
 log:∀ e ∈ P.log,e ∈ H
 VR:∀ e ∈ H,e.write=true->e ∈ P.log
 n1:FJ P.n1
 n2:FJ P.n2
 n3:FJ P.n3
 sz:WE P S
def WE.mono{P:AG}{n m:Nat}(h:WE P n)(hm:n<=m):WE P m:=by obtain⟨a,b,c,d,e⟩:=h;exact⟨by omega,by omega,by omega,by omega,by omega⟩
def Nb.mono{s:Eh}{D:Nat}(h:Nb A B H f s)(hB:B<=D):Nb A D H f s:={h with len:=CI h.len hB}
def Nb.grow{s:Eh}{H':List Entry}{f':Nat}(h:Nb A B H f s)(hg:Gr H H')(hf:f<=f'):Nb A B H' f' s:=by obtain⟨K,rfl⟩:=hg;exact {h with fl:=h.fl.imp id λ⟨g,g1,g2⟩=>⟨g,by omega,g2⟩,a:=λk y hy=>⟨JD _ (h.a k y hy).1,(h.a k y hy).2⟩}
def OU.ops{D:Ctx}{x:Ad}(h:OU C H x)(hs:∀ q ∈ C.ops,q ∈ D.ops):OU D H x:=⟨h.kd,h.dst,h.Je,by obtain⟨q,q1,q2⟩:=h.of;exact⟨q,hs q q1,q2⟩⟩
def Us.next{p q:C3}{x:Ad}{H':List Entry}{f':Nat}(h:Us H f p x)(hp:SG p q)(hg:Gr H H')(hf:f<=f'):Us H' f' q x:=by
 obtain⟨K,rfl⟩:=hg;obtain⟨g,g1,g2⟩:=h.floor;have hn:=h.num;refine {h with num:=?_,now:=λhe=>?_,Je:=⟨h.Je.1,λe he=>⟨JD _ (h.Je.2 e he).1,(h.Je.2 e he).2⟩⟩,floor:=⟨g,by omega,g2⟩}
 ·rcases hp with h1 | ⟨h1,_⟩ <;> omega
 ·rcases hp with h1 | ⟨h1,h2 | h2⟩
  ·omega
  ·exact .inl h2
  ·rcases h.now (he.trans h1)with h3 | h3
   ·exact .inl (h2.trans h3)
   ·exact .inr (h3.trans h2.symm)
def aro{ops:List Ad}{d d':Md.AL}{D:Nat}{H':List Entry}{f':Nat}{x:Ad}(hd:DS (cx A ops d) X0 B H f d)(hA:Uw H A)(h:QZ A H f ops d x)(hg:Gr H H')(hf:f<=f')(kY:DS (cx A ops d) X0 D H' f' d'):QZ A H' f' ops d' x:=by
 have hn:d.next<=d'.next:=kY.n0;have hp:SG d.AB d'.AB:=kY.pu;rcases h with h | h | h | h | h
 ·exact .inl h
 ·exact .inr (.inl (h.next hp hg hf))
 ·exact .inr (.inr (.inl (h.mono hn)))
 ·refine .inr (.inr (.inr (.inl ⟨h.kd,h.dst,h.code,?_,λhe e hm=>?_⟩)))
  ·have:=h.num;rcases hp with h1 | ⟨h1,_⟩ <;> omega
  ·have:=h.num;rcases hp with h1 | ⟨h1,h2 | h2⟩
   ·omega
   ·rw[h2]at hm;cases hm
   ·rw[h2]at hm;exact h.now (he.trans h1) e hm
 ·refine .inr (.inr (.inr (.inr ⟨h.kd,h.dst,Int.le_trans h.num hn,h.itm,λa ha h1 h2=>?_⟩)));have j7:=kY.ask a ha;rcases j7.Bc with ho | ⟨b,hb,b1,b2⟩
  ·have:=h.num;have ho:d.next<a.num:=ho;omega
  ·have Ey:=h.now b hb (b1.trans h1) (b2.trans h2);have hb0:=hd.ask b hb;have e1:=zL (C:=cx A ops d) hd.h hA hd.ap (hb0.now (λh=>h));have hA':Uw H' A:=by
    obtain⟨K,rfl⟩:=hg;exact λk y hy=>⟨JD _ (hA k y hy).1,(hA k y hy).2⟩
   have e2:=zL (C:=cx A ops d) kY.h hA' kY.ap (j7.now (λh=>h));have e3:LW H' x.key=LW H x.key:=by have k1:b.key=x.key:=b2.trans h2;rw[k1]at e1;rw[h2]at e2;exact e2.symm.trans e1
   unfold Cl at Ey ⊢;refine⟨Ey.1,?_⟩;show match LW H' x.key with | none=>_ | some e=>_
   rw[e3];exact Ey.2
def abV(last:Au)(ET:Bool):∀ (l:List Entry) (P:AG),∃ k b,k ⊆ l/\k.length<=l.length/\b.length<=l.length/\(∀ e ∈ l,AP last e.Ag=true->e ∈ k)/\l.foldl (NI last ET) P={P with log:=P.log++k,busy:=P.busy++b}
 | [],P=>⟨[],[],by simp,by simp,by simp,by simp,by simp⟩
 | e::l,P=>by
  rw[RF];obtain⟨k,b,h1,h2,h3,h4,h5⟩:=abV last ET l (NI last ET P e);cases hv:AP last e.Ag with
  | false=>
   have en:NI last ET P e=P:=by unfold NI;rw[hv];rfl
   rw[en]at h5 ⊢;refine⟨k,b,λx hx=>JC _ (h1 hx),by rw[CR];omega,by rw[CR];omega,λx hx QV=>?_,h5⟩;rcases Dz.1 hx with rfl | hx
   ·rw[hv]at QV;cases QV
   ·exact h4 x hx QV
  | true=>
   have en:NI last ET P e=ia P e ET:=by unfold NI;rw[hv];rfl
   rw[en]at h5 ⊢;refine⟨e::k,ET::b,λx hx=>?_,by rw[CR,CR];omega,by rw[CR,CR];omega,λx hx QV=>?_,h5.trans ?_⟩
   ·rcases Dz.1 hx with rfl | hx
    ·simp
    ·exact JC _ (h1 hx)
   ·rcases Dz.1 hx with rfl | hx
    ·simp
    ·exact JC _ (h4 x hx QV)
   ·unfold ia;simp
def abW:∀ (l:List Ad) (P:AG),∃ w s,w.length<=l.length/\s.length<=l.length/\(∀ x ∈ w,x ∈ l/\x.kind ≠ 6)/\(∀ x ∈ s,x ∈ l/\x.kind=6)/\l.foldl NJ P={P with AA:=P.AA++w,said:=P.said++s}
 | [],P=>⟨[],[],by simp,by simp,by simp,by simp,by simp⟩
 | x::l,P=>by
  rw[RF];obtain⟨w,s,h1,h2,h3,h4,h5⟩:=abW l (NJ P x);by_cases hk:x.kind=6
  ·have en:NJ P x=ib P x:=by unfold NJ;rw[Ax hk];rfl
   rw[en]at h5 ⊢;refine⟨w,x::s,by rw[CR];omega,by rw[CR,CR];omega,λy hy=>⟨JC _ (h3 y hy).1,(h3 y hy).2⟩,λy hy=>?_,h5.trans (by unfold ib;simp)⟩;rcases Dz.1 hy with rfl | hy
   ·exact⟨by simp,hk⟩
   ·exact⟨JC _ (h4 y hy).1,(h4 y hy).2⟩
  ·have en:NJ P x=R0 P x:=by unfold NJ;rw[AN hk];rfl
   rw[en]at h5 ⊢;refine⟨x::w,s,by rw[CR,CR];omega,by rw[CR];omega,λy hy=>?_,λy hy=>⟨JC _ (h4 y hy).1,(h4 y hy).2⟩,h5.trans (by unfold R0;simp)⟩;rcases Dz.1 hy with rfl | hy
   ·exact⟨by simp,hk⟩
   ·exact⟨JC _ (h3 y hy).1,(h3 y hy).2⟩
def aoQ(x:Ut):∃ k b w s,k ⊆ x.d.rep.tail.log/\k.length<=x.d.rep.tail.log.length/\b.length<=x.d.rep.tail.log.length/\(∀ e ∈ x.d.rep.tail.log,AP (KR x.P.log) e.Ag=true->e ∈ k)/\w.length<=x.l.length/\s.length<=x.l.length/\(∀ y ∈ w,y ∈ x.l/\y.kind ≠ 6)/\(∀ y ∈ s,y ∈ x.l/\y.kind=6) /\
  NK x={x.P with d:=x.d,log:=x.P.log++k,busy:=x.P.busy++b,AA:=x.P.AA++w,said:=x.P.said++s}:=by
 obtain⟨k,b,h1,h2,h3,h4,h5⟩:=abV (KR x.P.log) x.ET x.d.rep.tail.log x.P;obtain⟨w,s,g1,g2,g3,g4,g5⟩:=abW x.l (x.d.rep.tail.log.foldl (NI (KR x.P.log) x.ET) x.P);refine⟨k,b,w,s,h1,h2,h3,h4,g1,g2,g3,g4,?_⟩;unfold NK;rw[g5,h5];rfl
def aoR{l:List Entry}(hh:Fg C H)(hl:∀ e ∈ l,e ∈ H):KR l=⟨0,0⟩ \/ ∃ n,n<=H.length/\KR l=v1 n:=by
 unfold KR;by_cases h0:l.length=0
 ·rw[Ay h0];exact .inl rfl
 ·rw[AE h0];obtain⟨n,n1,n2,n3,_⟩:=hh.vi (hl _ (De (z:=(default:Entry)) (show l.length - 1<l.length by omega)));exact .inr ⟨n,n2,n3⟩
def aho{n:Nat}(h:n<=1000):AP ⟨0,0⟩ (v1 n)=true:=by rw[yJ];unfold v1;rw[wm (by omega) (by omega) (by omega) (by omega),AN (by omega)];rfl
def arp{P:AG}{S:Nat}(h:IL A B S H f P)(hS:S+7000<=600000)(hB:B+30<=3000){w:Ai}(hL:Pg (cx A P.ops P.d) (B+30) H f w) :
  bN ⟨P,w.d,w.out,P.d.busy⟩ /\ ∃ H' f',IL A (B+30) (S+7000) H' f' (NK ⟨P,w.d,w.out,P.d.busy⟩):=by
 obtain⟨H',f',hg,hf,hl⟩:=hL;have hd:=hl.d;have Ur:=hd.h.len;have Qq:w.d.rep.tail.log=H'.drop f':=by rw[hd.rep];rfl
 have YR:=hd.Ti.2;have RM:=aoR h.ds.h h.log;have hH:=h.ds.h.len;have oD:=hl.out;refine⟨⟨h.sz.mono (by omega),by show w.d.rep.tail.log.length<=1000;omega,by show w.out.length<=100000;omega,?_,λe he=>hd.h.num (hd.OV e he)⟩,H',f',?_⟩
 ·show AU (KR P.log);rcases RM with e | ⟨n,n1,e⟩
  ·rw[e,yJ];exact⟨0,0,by omega,by omega,rfl⟩
  ·rw[e];exact Ox (by omega)
 obtain⟨k,b,ws,ss,k1,k2,k3,k4,w1,w2,w3,w4,he⟩:=aoQ ⟨P,w.d,w.out,P.d.busy⟩;dsimp only at k1 k2 k3 k4 w1 w2 w3 w4 he;rw[he];have GP:∀ q ∈ (cx A P.ops P.d).ops,q ∈ P.ops:=λq hq=>hq;obtain⟨s1,s2,s3,s4,s5⟩:=h.sz;obtain⟨K,hK⟩:=hg;refine⟨?_,(h.st.mono (by omega)).grow ⟨K,hK⟩ hf,λx hx=>?_,λx hx=>?_,λe he=>?_,λe he hw=>?_,h.n1,h.n2,h.n3,?_⟩
 ·exact hd.re (Na.refl _) ⟨hd.ops.op,hd.ops.fn⟩ GP
 ·rcases Cp.1 (show x ∈ P.AA++ws from hx)with hx | hx
  ·exact aro h.ds h.st.a (h.AA x hx) ⟨K,hK⟩ hf hd
  ·obtain⟨x1,x2⟩:=w3 x hx;rcases hl.said x x1 with (h1 | h1) | h1
   ·exact absurd h1.kd x2
   ·exact .inr (.inr (.inl h1))
   ·exact .inr (.inl h1)
 ·rcases Cp.1 (show x ∈ P.said++ss from hx)with hx | hx
  ·exact((h.said x hx).grow ⟨K,hK⟩ Ur).ops (D:=cx A P.ops w.d) GP
  ·obtain⟨x1,x2⟩:=w4 x hx;rcases hl.said x x1 with (h1 | h1) | h1
   ·exact h1.ops (D:=cx A P.ops w.d) GP
   ·exact absurd (h1.kd.symm.trans x2) (by decide)
   ·exact absurd (h1.kd.symm.trans x2) (by decide)
 ·rcases Cp.1 (show e ∈ P.log++k from he)with he | he
  ·rw[hK];exact JD _ (h.log e he)
  ·exact hd.OV e (k1 he)
 ·show e ∈ P.log++k;rw[hK]at he;rcases Cp.1 he with he | he
  ·exact JD _ (h.VR e he hw)
  ·refine Vo _ (k4 e ?_ ?_)
   ·rw[Qq];have hm:e ∈ H':=by rw[hK];exact Vo _ he
    rw[<- Xz f' H']at hm;rcases Cp.1 hm with hm | hm
    ·exfalso;obtain⟨y,y1,y2⟩:=hd.ap e hm hw;obtain⟨z1,_,_⟩:=h.st.a _ _ y1;obtain⟨a,b',e1⟩:=List.append_of_mem he;have hh:=hd.h;rw[hK,e1,<- JE]at hh;have:=hh.lt (JD a z1);rw[show AP y.Ag e.Ag=false from y2]at this;cases this
    ·exact hm
   ·obtain⟨n,n1,n2,n3,n4⟩:=hd.h.vi (show e ∈ H' by rw[hK];exact Vo _ he);rw[n3];rcases RM with e1 | ⟨j,j1,e1⟩
    ·rw[e1];exact aho (by omega)
    ·rw[e1,Ty (by omega) (by omega)];refine Ax ?_;obtain⟨a,b',e2⟩:=List.append_of_mem he;have hh:=hd.h;have h2:=hh.Ag (H.length+a.length) (by rw[hK,e2];simp);have h3:H'[H.length+a.length]'(by rw[hK,e2];simp)=e:=by simp[hK,e2]
     rw[h3,n3]at h2;have h4:H.length+a.length+1<=30:=by have:=hh.len;rw[hK,e2]at this;simp at this;omega
     have:=atx (by omega) (by omega) h2;omega
 ·exact⟨by show(P.AA++ws).length<=_;rw[CB];omega,by show P.ops.length<=_;omega,by show(P.log++k).length<=_;rw[CB];omega,by show(P.busy++b).length<=_;rw[CB];omega,by show(P.said++ss).length<=_;rw[CB];omega⟩
end
section
variable {C:Ctx} {A:An->Option Entry} {B S:Nat} {H:List Entry} {f:Nat}
def aoS{P:AG}(h:IL A B S H f P)(hB:B<=3000):X9 P.d/\(Hy P.d).length<=7000 /\ ∀ x ∈ Hy P.d,QZ A H f P.ops P.d x:=by
 have ha:BL P.d.rep=[]:=by rw[h.ds.rep];exact ma _ _
 have Wc:=h.ds.asks;have Yl:(C7 (P.d.AB,P.d.rep)).length<=1:=by unfold C7;cases P.d.AB.out.isEmpty <;> simp
 refine⟨⟨h.ds.ag,by have:=h.ds.Gm.1;omega,by omega,by rw[ha];exact Bu _⟩,?_,λx hx=>?_⟩
 ·unfold Hy;rw[ha,NO,CB,OK];omega
 ·unfold Hy at hx;rw[ha,NO]at hx;rcases Cp.1 hx with hx | hx
  ·exact .inr (.inl (afu h.ds h.ds.Gm x hx))
  ·obtain⟨a,ha,rfl⟩:=Mz.1 hx;have h0:=h.ds.ask a ha;refine .inr (.inr (.inl ?_));rw[h.ds.rep];exact⟨rfl,rfl,rfl,rfl,rfl,rfl,rfl,rfl,rfl,h0.num,h0.key⟩
def QZ.leA{A':An->Option Entry}{ops:List Ad}{d:Md.AL}{x:Ad}(h:QZ A H f ops d x)(hA:Na A A'):QZ A' H f ops d x:=by
 rcases h with h | h | h | h | h
 ·exact .inl h
 ·exact .inr (.inl h)
 ·exact .inr (.inr (.inl h))
 ·exact .inr (.inr (.inr (.inl ⟨h.kd,h.dst,h.code,h.num,λhe e hm=>(h.now he e hm).mono (C:=cx A ops d) (D:=cx A' ops d) hA⟩)))
 ·exact .inr (.inr (.inr (.inr h)))
def QZ.ops'{ops ops':List Ad}{d:Md.AL}{x:Ad}(h:QZ A H f ops d x)(hs:∀ q ∈ ops,q ∈ ops'):QZ A H f ops' d x:=by
 rcases h with h | h | h | h | h
 ·exact .inl (hs x h)
 ·exact .inr (.inl h)
 ·exact .inr (.inr (.inl h))
 ·exact .inr (.inr (.inr (.inl ⟨h.kd,h.dst,h.code,h.num,h.now⟩)))
 ·exact .inr (.inr (.inr (.inr h)))
def vS{s:Eh}(h:Nb A B H f s)(hh:Fg C H):∀ x ∈ s.rows,AU x.Ag:=λx hx=>by obtain⟨y,y1,rfl⟩:=h.rw.row x hx;exact hh.num (h.a _ _ y1).1
def r8:AU ⟨0,0⟩:=by rw[yJ];exact⟨0,0,by omega,by omega,rfl⟩
def ac8{s:Eh}(h:Nb A B H f s)(hh:Fg C H)(hf:f<=H.length):AU s.floor:=by
 have:=hh.len;rcases h.fl with e | ⟨g,g1,g2⟩
 ·rw[e];exact r8
 ·rw[g2];exact Ox (by omega)
def awC{s:Eh}{p:C3}{m:Ad}(h:Nb A B H f s)(hh:Fg C H)(hf:f<=H.length)(hm:Us H f p m)(hB:B<=3000):Si (s,m):=by
 obtain⟨g,g1,g2⟩:=hm.floor;have:=hh.len;refine⟨.inl hm.kd,hm.AQ,?_,?_,⟨by have:=hm.Je.1;show m.entries.length<=60;omega,λe he=>hh.num (hm.Je.2 e he).1⟩,ac8 h hh hf,by have:=h.len;show s.rows.length<=10000;omega,vS h hh⟩
 ·show AU m.floor;rw[g2];exact Ox (by omega)
 ·show AU m.Ag;rw[hm.Ag];exact r8
def awD{s:Eh}{nx:Int}{m:Ad}(h:Nb A B H f s)(hh:Fg C H)(hf:f<=H.length)(hm:XV nx m)(hB:B<=3000):Si (s,m):=by
 refine⟨.inr hm.kd,hm.AQ,?_,?_,?_,ac8 h hh hf,by have:=h.len;show s.rows.length<=10000;omega,vS h hh⟩
 ·show AU m.floor;rw[hm.floor];exact r8
 ·show AU m.Ag;rw[hm.Ag];exact r8
 ·show kJ m.entries;rw[hm.Je];exact⟨by simp,λe he=>by cases he⟩
def arq{s:Eh}{p:C3}{m:Ad}(h:Nb A B H f s)(hh:Fg C H)(hf:f<=H.length)(hap:∀ e ∈ H.take f,e.write=true->Ap C e)(hC:C.A=A)(hm:Us H f p m) :
  Nb (bS A m.entries) (B+30) H f (kM s m)/\rU s m=XW m 0:=by
 obtain⟨g,g1,g2⟩:=hm.floor;have Ur:=hh.len;have he:decide (m.Az=s.Qc)=true:=Ax (by rw[hm.Az,h.Qc]);unfold kM rU;rw[he,Ae,Ae];refine⟨?_,rfl⟩;obtain⟨j,j1,hv⟩:∃ j,j<=f/\Cf s.floor m.floor=v1 (max j g):=by
  rcases h.fl with e | ⟨j,j1,j2⟩
  ·refine⟨0,by omega,?_⟩;rw[g2,e];unfold Cf;rw[aho (by omega),Ae,Nat.zero_max]
  ·exact⟨j,j1,by rw[g2,j2,vJ (by omega) (by omega)]⟩
 have QD:max j g<=f:=by omega
 have hr0:Pn A (Cf s.floor m.floor) s.rows:=h.rw.mono (arX _ _);obtain⟨r1,r2⟩:=ac6 (v:=Cf s.floor m.floor) m.entries A s.rows h.a hr0 hm.Je.2 λe he hvl=>by
  obtain⟨n,n1,n2,n3,n4⟩:=hh.vi (hm.Je.2 e he).1;rw[hv,n3,Ty (by omega) (by omega)]at hvl;have hvl:=Gk hvl;have ht:e ∈ H.take f:=by refine Dy (i:=n - 1) ?_;rw[KV,Ay (by omega)];exact n4
  obtain⟨y,y1,y2⟩:=hap e ht (hm.Je.2 e he).2;rw[hC]at y1;exact⟨y,y1,y2⟩
 refine⟨h.Qc,.inr ⟨max j g,QD,hv⟩,atX r1,r2,?_⟩;show(VL (IB s.rows (Cf s.floor m.floor) m.entries) (Cf s.floor m.floor)).length<=B+30;have e1:=KS (stays (Cf s.floor m.floor)) (IB s.rows (Cf s.floor m.floor) m.entries);have e2:=(vP (v:=Cf s.floor m.floor) m.entries s.rows (vS h hh) λe he=>hh.num (hm.Je.2 e he).1).1;have e3:=hm.Je.1;have e4:=h.len;unfold VL;omega
def ars{s:Eh}{d:Md.AL}{m:Ad}(h:Nb A B H f s)(hd:DS C X0 B H f d)(hC:C.A=A)(hm:XV d.next m):VaI H d (du s m):=by
 have aiO:∀ a ∈ d.asks,a.num=m.num->a.key=m.key->A m.key=LW H m.key:=λa ha _ hk=>by have:=zL (C:=C) hd.h (by rw[hC];exact h.a) hd.ap ((hd.ask a ha).now (λh=>h));rw[hk,hC]at this;exact this
 unfold du;cases hf:(ED s.rows m.key).2 with
 | true=>
  rw[Ae];obtain⟨m1,m2⟩:=mq hf;obtain⟨y,y1,y2⟩:=h.rw.row _ m1;rw[m2]at y1;have hE:=hd.h.Ho y (h.a _ _ y1).1;rw[y2];refine⟨rfl,hm.src,hm.num.2,⟨hm.key,?_⟩,λa ha h1 h2=>?_⟩
  ·show(bif !y.del then y.val else []).length<=2000;cases y.del with
   | true=>exact Bu _
   | false=>exact hE.val
  ·have hA:=aiO a ha h1 h2;rw[y1]at hA;unfold Cl;refine⟨hd.h.num (h.a _ _ y1).1,?_⟩;show match LW H m.key with | none=>_ | some e=>_
   rw[<- hA];show(!y.del)=!y.del/\(y.del=false->(bif !y.del then y.val else [])=y.val)
   exact⟨rfl,λhd=>by rw[hd];rfl⟩
 | false=>
  rw[Aj];refine⟨rfl,hm.src,hm.num.2,⟨hm.key,Bu _⟩,λa ha h1 h2=>?_⟩;have hA:=aiO a ha h1 h2;unfold Cl;refine⟨⟨0,0,by decide,by decide,rfl⟩,?_⟩;show match LW H m.key with | none=>_ | some e=>_
  rw[<- hA];cases hy:A m.key with
  | none=>rfl
  | some y=>
   have hdel:=(h.rw.no m.key y hy (ac3.1 hf)).1;show false=!y.del/\(y.del=false->_)
   rw[hdel];exact⟨rfl,λh=>by cases h⟩
def IL.aiP{P:AG}(h:IL A B S H f P){l:List Ad}(hl:∀ x ∈ l,x ∈ P.AA)(hn:l.length<=P.AA.length):IL A B S H f (setW P l):=by obtain⟨a,b,c,d,e⟩:=h.sz;exact⟨h.ds,h.st,λx hx=>h.AA x (hl x hx),h.said,h.log,h.VR,h.n1,h.n2,h.n3,⟨by show l.length<=S;omega,b,c,d,e⟩⟩
def IL.mono{P:AG}{D T:Nat}(h:IL A B S H f P)(hB:B<=D)(hS:S<=T):IL A D T H f P:=⟨h.ds.mono hB,h.st.mono hB,h.AA,h.said,h.log,h.VR,h.n1,h.n2,h.n3,h.sz.mono hS⟩
def art{P:AG}(h:IL A B S H f P)(hw:P.AA.length<=100000){m:Ad}(hm:QZ A H f P.ops P.d m)(hB:B+30<=3000)(hS:S+7000<=600000):VO P m /\ ∃ A' H' f',IL A' (B+30) (S+7000) H' f' (Ma P m):=by
 have hh:=h.ds.h;have hf:=h.ds.fl;have hon:∀ x:Eh × Ad,R0 (xY P x.1) x.2={P with st:=x.1,AA:=P.AA++[x.2]}:=λx=>rfl;have JS:(P.AA++[(Lj (P.st,m)).2]).length=P.AA.length+1:=by simp
 obtain⟨s1,s2,s3,s4,s5⟩:=h.sz;have zM:m.dst=2->dx (P.d,K1,m)->Pg (cx A P.ops P.d) (B+30) H f (N9 (P.d,K1,m))->VO P m /\ ∃ A' H' f',IL A' (B+30) (S+7000) H' f' (Ma P m):=by intro h2 g1 g2;obtain⟨n1,H',f',n2⟩:=arp h hS hB g2;refine⟨⟨hw,λh0=>absurd (h2.symm.trans h0) (by decide),λ_=>⟨g1,n1⟩⟩,A,H',f',?_⟩;unfold Ma;rw[AN (show ¬ m.dst=0 by omega),Aj];exact n2
 rcases hm with hm | hm | hm | hm | hm
 ·have ho:=h.ds.ops.op m hm;obtain⟨a1,a2⟩:=Xd (m:=m) h.ds (.inl hm) (by omega);have hk:m.kind ≠ 18:=by rw[ho.kd];decide
  refine zM ho.dst ⟨λh=>absurd h hk,λ_=>a1⟩ ?_;unfold N9;rw[AE hk];exact a2
 ·refine⟨⟨hw,λ_=>awC h.st hh hf hm (by omega),λhne=>absurd hm.dst hne⟩,bS A m.entries,H,f,?_⟩;obtain⟨d1,d2⟩:=arq h.st hh hf h.ds.ap rfl hm;have hdo:Lj (P.st,m)=(kM P.st m,XW m 0):=by unfold Lj;rw[Ax hm.kd,Ae,d2]
  unfold Ma;rw[Ax hm.dst,Ae,hdo,hon];have hle:=vR m.entries A;refine⟨((h.ds.mono (show B<=B+30 by omega)).re (ops':=P.ops) hle ⟨h.ds.ops.op,h.ds.ops.fn⟩ λq hq=>hq),d1,λx hx=>?_,λx hx=>(h.said x hx).ops λq hq=>hq,h.log,h.VR,h.n1,h.n2,h.n3,⟨by show(P.AA++[_]).length<=_;rw[CB,FD];omega,by show P.ops.length<=_;omega,by show P.log.length<=_;omega,by show P.busy.length<=_;omega,by show P.said.length<=_;omega⟩⟩;rcases Cp.1 (show x ∈ P.AA++[XW m 0] from hx)with hx | hx
  ·exact(h.AA x hx).leA hle
  ·rw[DO.1 hx];refine .inr (.inr (.inr (.inl ⟨rfl,hm.src,rfl,hm.num,λhe e BW=>?_⟩)));rcases hm.now he with h3 | h3
   ·rw[h3]at BW;cases BW
   ·rw[<- h3]at BW;exact ac5 m.entries A e BW
 ·refine⟨⟨hw,λ_=>awD h.st hh hf hm (by omega),λhne=>absurd hm.dst hne⟩,A,H,f,?_⟩;have hdo:Lj (P.st,m)=(P.st,du P.st m):=by unfold Lj;rw[AN (show ¬ m.kind=15 by rw[hm.kd];decide),Aj]
  unfold Ma;rw[Ax hm.dst,Ae,hdo,hon];refine⟨h.ds.mono (by omega),h.st.mono (by omega),λx hx=>?_,h.said,h.log,h.VR,h.n1,h.n2,h.n3,⟨by show(P.AA++[_]).length<=_;rw[CB,FD];omega,by show P.ops.length<=_;omega,by show P.log.length<=_;omega,by show P.busy.length<=_;omega,by show P.said.length<=_;omega⟩⟩;rcases Cp.1 (show x ∈ P.AA++[du P.st m] from hx)with hx | hx
  ·exact h.AA x hx
  ·rw[DO.1 hx];exact .inr (.inr (.inr (.inr (ars h.st h.ds rfl hm))))
 ·obtain⟨a1,a2⟩:=Xd (m:=m) h.ds (.inr ⟨hm.kd,hm.dst,hm.code,hm.num,hm.now⟩) (by omega);have hk:m.kind ≠ 18:=by rw[hm.kd];decide
  refine zM hm.dst ⟨λh=>absurd h hk,λ_=>a1⟩ ?_;unfold N9;rw[AE hk];exact a2
 ·obtain⟨a1,a2⟩:=aoF (m:=m) h.ds hm (by omega);refine zM hm.dst ⟨λ_=>a1,λh=>absurd hm.kd h⟩ ?_;unfold N9;rw[Ay hm.kd];exact a2
structure zN(x:Bl):Prop where
 k:0<=x.k/\x.k<=255
 s:0<=x.s/\x.s<=255
 n:0<=x.n/\x.n<=255
 kind:FJ x.o.kind
 key:x.o.key.length<=50
 val:x.o.val.length<=50
 Bc:x.o.Bc.length<=50
def ac9(w num:Int)(m:Ad):∀ l:List Ad,(l.foldl (GN w num) m ∈ l/\(l.foldl (GN w num) m).Ah=w/\(l.foldl (GN w num) m).num=num)\/(l.foldl (GN w num) m=m /\ ∀ q ∈ l,¬ (q.Ah=w/\q.num=num)):=by
 intro l
 induction l using fk with
 | h0=>exact .inr ⟨rfl,λq hq=>by cases hq⟩
 | h1 l x ih=>
  rw[List.foldl_append];show((GN w num (l.foldl (GN w num) m) x ∈ l++[x])/\_)\/_;have e:([x].foldl (GN w num) (l.foldl (GN w num) m))=GN w num (l.foldl (GN w num) m) x:=rfl;rw[e];unfold GN zK at *;by_cases hx:x.Ah=w/\x.num=num
  ·rw[Ax hx.1,Ax hx.2];exact .inl ⟨by simp,hx.1,hx.2⟩
  ·have hc:(decide (x.Ah=w)&&decide (x.num=num))=false:=by
    cases hd:decide (x.Ah=w)&&decide (x.num=num)with
    | false=>rfl
    | true=>obtain⟨a,b⟩:=A4 hd;exact absurd ⟨El a,El b⟩ hx
   rw[hc,Aj];rcases ih with ⟨i1,i2,i3⟩ | ⟨i1,i2⟩
   ·exact .inl ⟨JD _ i1,i2,i3⟩
   ·refine .inr ⟨i1,λq hq=>?_⟩;rcases Cp.1 hq with hq | hq
    ·exact i2 q hq
    ·rw[DO.1 hq];exact hx
def uW{w:Int}{num:Int}{s:Bl}(h:zN s)(hw:1<=w/\w<=3)(hn:FJ num):Y0 (Dk w num s.o):=by
 refine⟨rfl,?_,rfl,rfl,rfl,hw,hn,⟨Bu _,Bu _,⟨Bu _,λv hv=>by cases hv⟩,Bu _,Bu _⟩,h.kind,?_,?_⟩
 ·show Ao (100+w)=100+w;rw[Ru];omega
 ·have:=h.key;show s.o.key.length<=2000;omega
 ·have:=h.val;show s.o.val.length<=2000;omega
def aoT{P:AG}{s:Bl}(h:IL A B S H f P)(hs:zN s):∃ A' H' f',IL A' (B+30) (S+7000) H' f' (ie P s):=by
 have hb:∃ a b c,En P s={P with n1:=a,n2:=b,n3:=c}/\FJ a/\FJ b/\FJ c:=by
  unfold En T1;cases decide (s.n=0)with
  | false=>exact⟨P.n1,P.n2,P.n3,rfl,h.n1,h.n2,h.n3⟩
  | true=>
   rw[Ae];split
   ·exact⟨_,P.n2,P.n3,rfl,uR _,h.n2,h.n3⟩
   ·exact⟨P.n1,_,P.n3,rfl,h.n1,uR _,h.n3⟩
   ·exact⟨P.n1,P.n2,_,rfl,h.n1,h.n2,uR _⟩
 obtain⟨a,b,c,ct,ha,Di,hc⟩:=hb;unfold ie;have iS:FJ (Mb (En P s) s):=by
  have hW:FJ (OX (En P s) (wS s)):=by
   rw[ct];unfold OX;split
   ·exact ha
   ·exact Di
   ·exact hc
  unfold Mb;have:=hs.n;cases decide (0<s.n)with
  | false=>exact hW
  | true=>
   cases decide (s.n<OX (En P s) (wS s))with
   | true=>show FJ s.n;exact NT (by omega) (by omega)
   | false=>exact hW
 have hw:1<=((wS s:Nat):Int)/\((wS s:Nat):Int)<=3:=by unfold wS;omega
 have ayv:(En P s).ops=P.ops:=by rw[ct]
 obtain⟨m,hm⟩:∃ m,T2 (En P s) s=m:=⟨_,rfl⟩
 have hpk:=ac9 (wS s:Nat) (Mb (En P s) s) (Dk (wS s:Nat) (Mb (En P s) s) s.o) P.ops;have hme:m=P.ops.foldl (GN (wS s:Nat) (Mb (En P s) s)) (Dk (wS s:Nat) (Mb (En P s) s) s.o):=by rw[<- hm];unfold T2;rw[ayv]
 rw[<- hme]at hpk;have hop:Y0 m /\ ∀ q ∈ P.ops,q.Ah=m.Ah->q.num=m.num->q.op=m.op:=by
  rcases hpk with ⟨p1,p2,p3⟩ | ⟨p1,p2⟩
  ·exact⟨h.ds.ops.op m p1,λq hq h1 h2=>h.ds.ops.fn q hq m p1 h1 h2⟩
  ·rw[p1];exact⟨uW hs hw iS,λq hq h1 h2=>absurd ⟨h1,h2⟩ (p2 q hq)⟩
 rw[hm];obtain⟨o1,o2⟩:=hop;have GP:∀ q ∈ P.ops,q ∈ P.ops++[m]:=λq hq=>JD _ hq;have pH:ic (En P s) m={P with n1:=a,n2:=b,n3:=c,AA:=P.AA++[m],ops:=P.ops++[m]}:=by rw[ct];rfl
 rw[pH];obtain⟨s1,s2,s3,s4,s5⟩:=h.sz;have hO:Tz (cx A (P.ops++[m]) P.d):=by
  refine⟨λq hq=>?_,λq hq p hp h1 h2=>?_⟩
  ·rcases Cp.1 (show q ∈ P.ops++[m] from hq)with hq | hq
   ·exact h.ds.ops.op q hq
   ·rw[DO.1 hq];exact o1
  ·rcases Cp.1 (show q ∈ P.ops++[m] from hq)with hq | hq
   ·rcases Cp.1 (show p ∈ P.ops++[m] from hp)with hp | hp
    ·exact h.ds.ops.fn q hq p hp h1 h2
    ·rw[DO.1 hp]at h1 h2 ⊢;exact o2 q hq h1 h2
   ·rw[DO.1 hq]at h1 h2 ⊢;rcases Cp.1 (show p ∈ P.ops++[m] from hp)with hp | hp
    ·exact(o2 p hp h1.symm h2.symm).symm
    ·rw[DO.1 hp]
 refine⟨A,H,f,(h.ds.mono (show B<=B+30 by omega)).re (Na.refl _) hO GP,h.st.mono (by omega),λx hx=>?_,λx hx=>(h.said x hx).ops GP,h.log,h.VR,ha,Di,hc,⟨by show(P.AA++[m]).length<=_;rw[CB,FD];omega,by show(P.ops++[m]).length<=_;rw[CB,FD];omega,by show P.log.length<=_;omega,by show P.busy.length<=_;omega,by show P.said.length<=_;omega⟩⟩;rcases Cp.1 (show x ∈ P.AA++[m] from hx)with hx | hx
 ·exact(h.AA x hx).ops' GP
 ·rw[DO.1 hx];exact .inl (by simp)
def aru{P:AG}{s:Bl}(h:IL A B S H f P)(hs:zN s)(hw:P.AA.length<=120)(hB:B+30<=3000)(hS:S+7000<=600000):bf P s /\ ∃ A' H' f',IL A' (B+30) (S+7000) H' f' (Jz P s):=by
 unfold Jz;by_cases hk:kD s<=3
 ·rw[Ay hk];exact⟨⟨λ_=>⟨hs.n,hs.s,by omega,by have:=h.sz.2.1;omega⟩,λh=>absurd hk h⟩,aoT h hs⟩
 rw[AE hk];have hsz:WE P S:=h.sz;have ahp:P.AA.length ≠ 0->VO (setW P (P.AA.eraseIdx (jD P s))) (P.AA.getD (jD P s) default) /\ ∃ A' H' f',IL A' (B+30) (S+7000) H' f' (Ma (setW P (P.AA.eraseIdx (jD P s))) (P.AA.getD (jD P s) default)):=λh0=>by have hj:jD P s<P.AA.length:=Nat.mod_lt _ (by omega);have h1:IL A B S H f (setW P (P.AA.eraseIdx (jD P s))):=h.aiP (λx hx=>List.mem_of_mem_eraseIdx hx) (List.length_eraseIdx_le _ _);exact art h1 (by have:=List.length_eraseIdx_le P.AA (jD P s);show(P.AA.eraseIdx (jD P s)).length<=_;omega) (m:=P.AA.getD (jD P s) default) (h.AA _ (De hj)) hB hS
 obtain⟨t1,t2,t3⟩:=aoS h (by omega);refine⟨⟨λh=>absurd h hk,λ_=>⟨hs.n,by omega,λ_=>⟨t1,by omega⟩,λ_ _ _ h0=>(ahp h0).1⟩⟩,?_⟩;unfold bd;obtain⟨s1,s2,s3,s4,s5⟩:=h.sz;by_cases h8:kD s=8
 ·rw[Ay h8];refine⟨A,H,f,h.ds.mono (by omega),h.st.mono (by omega),λx hx=>?_,h.said,h.log,h.VR,h.n1,h.n2,h.n3,⟨by show(P.AA++Hy P.d).length<=_;rw[CB];omega,by show P.ops.length<=_;omega,by show P.log.length<=_;omega,by show P.busy.length<=_;omega,by show P.said.length<=_;omega⟩⟩;rcases Cp.1 (show x ∈ P.AA++Hy P.d from hx)with hx | hx
  ·exact h.AA x hx
  ·exact t3 x hx
 rw[AE h8];by_cases h0:P.AA.length=0
 ·rw[Ay h0];exact⟨A,H,f,h.mono (by omega) (by omega)⟩
 rw[AE h0];have hj:jD P s<P.AA.length:=Nat.mod_lt _ (by omega);by_cases h7:kD s=7
 ·rw[Ay h7];refine⟨A,H,f,h.ds.mono (by omega),h.st.mono (by omega),λx hx=>?_,h.said,h.log,h.VR,h.n1,h.n2,h.n3,⟨by show(P.AA++[_]).length<=_;rw[CB,FD];omega,by show P.ops.length<=_;omega,by show P.log.length<=_;omega,by show P.busy.length<=_;omega,by show P.said.length<=_;omega⟩⟩;rcases Cp.1 (show x ∈ P.AA++[P.AA.getD (jD P s) default] from hx)with hx | hx
  ·exact h.AA x hx
  ·rw[DO.1 hx];exact h.AA _ (De hj)
 rw[AE h7];by_cases h6:kD s=6
 ·rw[Ay h6];exact⟨A,H,f,(h.aiP (λx hx=>List.mem_of_mem_eraseIdx hx) (List.length_eraseIdx_le _ _)).mono (by omega) (by omega)⟩
 ·rw[AE h6];exact(ahp h0).2
end
section
variable {C:Ctx} {H:List Entry}
structure TB(x:Bl):Prop where
 k:0<=x.k/\x.k<=255
 s:0<=x.s/\x.s<=255
 n:0<=x.n/\x.n<=255
 kind:FJ x.o.kind
def Inv(i:Nat)(P:AG):Prop:=∃ A H f,IL A (500+30*i) (1000+7000*i) H f P
def ada{i:Nat}{P:AG}{s:Bl}(h:Inv i P)(hi:i<80)(hs:TB s)(hc:¬ (50<s.o.key.length\/50<s.o.val.length\/50<s.o.Bc.length\/120<P.AA.length)):bf P s/\Inv (i+1) (Jz P s):=by obtain⟨A,H,f,h⟩:=h;obtain⟨a,A',H',f',b⟩:=aru (s:=s) h ⟨hs.k,hs.s,hs.n,hs.kind,by omega,by omega,by omega⟩ (by omega) (by omega) (by omega);exact⟨a,A',H',f',b.mono (by omega) (by omega)⟩
end
def eBg(l:List Af):Env:=Cw [] [(Zv,0),(ai3,0),(eK,0),(Zw,0),(Ei,0),(lA,0),(Zu,0),(eM,0)] [] l
def ayw:List Af:=[agI,tg]
def me:Be:=⟨2,1⟩
def IC:Ad:={(default:Ad)with kind:=10,dst:=2,BD:=1,Az:=1,fresh:=true,chain:=[me]}
def ahq(K:Int × Be->Option AV):Option AV:=gC (λa=>(AS a 0,G0 (Bd a 1))) (λ_=>True) eNw [.int .i64 0,.agg (DM me)] K
def zO:List AV:=(NU IC).set 24 (.A9 2 [DM me])
def awE:A6 (eBg ayw) 9 Zv []=ahq λy=>gC VI Oi MG [.agg (Ct (iH y)),.agg (D4 K1),.agg zO] λp=>some (.agg (Ct (EW p).d)):=by kernel_rfl
def dB:Md.AL:=iH (0,me)
def aeh(d:Md.AL)(k:EE):¬ Ny (d,k,IC):=λh=>absurd (show(10:Int)=5 from h.kd) (by decide)
def wB:Ai:=Hz E3 (Bq dB K1) IC
def atY:wB.d.rep=DJ [] 0:=by kernel_rfl
def ayx:wB.c=K1:=by kernel_rfl
def afB:wB.out=[]:=by kernel_rfl
def vT:wB.d.asks=[]:=by kernel_rfl
def aoU:wB.d.waits=[]:=by kernel_rfl
def aoV:wB.d.clean=[]:=by kernel_rfl
def vU:wB.d.AB.num=0/\wB.d.AB.out=[]/\wB.d.AB.done=[]:=⟨by kernel_rfl,by kernel_rfl,by kernel_rfl⟩
def aei:wB.d.next=0:=by kernel_rfl
def aej:wB.DI.key=[]/\wB.DI.val=[]:=⟨by kernel_rfl,by kernel_rfl⟩
def awF{C:Ctx}(ho:Tz C)(hn:C.n0<=0)(hp:C.p0=wB.d.AB):WS C X0 0 [] 0 wB where
 c:=ayx
 out:=by rw[afB];exact Ar _
 said:=λx hx=>by rw[afB]at hx;cases hx
 DI:=by rw[aej.1,aej.2];exact⟨Bu _,Bu _⟩
 d:={
  ops:=ho
  h:=Fg.nil C
  rep:=atY
  fl:=Ar _
  log:=Bu _
  ap:=λe he=>by cases he
  Kw:=by rw[vU.1];exact⟨JG _,JG _⟩
  Gm:=by rw[vU.2.1];exact⟨Bu _,λe he=>by cases he⟩
  FB:=by rw[vU.2.2];exact⟨Bu _,λe he=>by cases he⟩
  clean:=by rw[aoV];exact⟨Bu _,λe he=>by cases he⟩
  waits:=by rw[aoU];exact⟨Bu _,λe he=>by cases he⟩
  asks:=by rw[vT];exact Bu _
  keys:=by rw[vT];exact .nil
  ask:=λa ha=>by rw[vT]at ha;cases ha
  next:=by rw[aei];exact⟨JG _,JG _⟩
  n0:=by rw[aei];exact hn
  pu:=by rw[hp];exact SG.refl _}
def D0:Md.AL:=(OH E3 (dB,K1,IC)).d
def yb{C:Ctx}(ho:Tz C)(hn:C.n0<=0)(hp:C.p0=wB.d.AB):HH wB IC/\DS C X0 8 [] 0 D0:=by
 have hw:=awF ho hn hp;obtain⟨a,f',b,c⟩:=abT IC hw (by omega);have hf:f'=0:=by have h:=c.d.fl;exact Nat.le_zero.1 h
 subst hf;refine⟨a,?_⟩;have e:D0=(HR wB IC).d:=by show(IA wB IC).d=_;unfold IA;rw[hw.d.head,Ae]
 rw[e];exact c.d
def arv:NR dB.rep IC=DJ [] 0:=by kernel_rfl
def arw:(KM dB.rep IC).2=[]:=by kernel_rfl
def awG:K3 dB:=⟨⟨Bu _,Bu _,Bu _,Bu _⟩,Bu _,Bu _,Bu _,Bu _,Bu _,λa ha=>by cases ha⟩
def atZ:bH (Bq dB K1) IC:=by
 refine⟨⟨⟨Bu _,Bu _,Bu _,Bu _⟩,.inr ⟨rfl,by decide,by decide,me,rfl,λ_=>?_⟩⟩,Bu _,?_⟩
 ·show Kj (NR dB.rep IC);rw[arv];exact vK (Fg.nil (⟨[],λ_=>none,0,λ_ _=>False,wB.d.AB⟩:Ctx)) 0
 ·show(KM dB.rep IC).2.length<=100000;rw[arw];exact Bu _
def aoW:Oi (dB,K1,IC):=by
 have h1:ga E3 (Bq dB K1) IC:=⟨.inr (.inr (.inl rfl)),λh=>absurd (show(10:Int)=5 from h) (by decide),λh=>absurd (show(10:Int)=16 from h) (by decide),λ_=>atZ⟩
 refine⟨λh=>absurd h (aeh dB K1),λ_=>⟨awG,h1,λ_=>?_⟩⟩;exact(yb (C:=⟨[],λ_=>none,0,λ_ _=>False,wB.d.AB⟩) ⟨λq hq=>(by cases hq),λq hq=>(by cases hq)⟩ (JG _) rfl).1
def aoX:CJ zO (Aq IC):=by
 refine Mo ?_
 repeat' (first | exact trivial | exact FA | exact Br.PJ (e:=DM) [me] rfl | exact Br.refl _ | refine⟨?_,?_⟩)
def amy:At PG Zv [] [] (.agg (Ct D0)) []:=by
 have q1:∀ {K:Int × Be->Option AV},ahq K=K (0,me):=λ{K}=>Bj ((0,me):Int × Be) rfl trivial (.refl _);have q2:∀ {K:Gt->Option AV},gC VI Oi MG [.agg (Ct (iH (0,me))),.agg (D4 K1),.agg zO] K=K (dB,K1,IC):=λ{K}=>Bj (dB,K1,IC) (by kernel_rfl) aoW (.cons (.refl _) (.cons (.refl _) (.cons (.agg aoX) .nil)));have e:=awE;rw[q1,q2]at e;have hh:EW (dB,K1,IC)=OH E3 (dB,K1,IC):=by unfold EW;rw[AE (aeh dB K1)]
 rw[hh]at e;exact Cx (ak anX (ak aag AR)) e
def yc(d:Md.AL):Af:=.one Zv [] (.agg (Ct d))
def adb:(yc D0).Ok PG:=Af.Xs amy
def P0:AG:=⟨D0,⟨1,⟨0,0⟩,[]⟩,[],0,0,0,[],[],[],[]⟩
def aiQ:Inv 0 P0:=by
 have hz:Tz (⟨[],λ_=>none,0,λ_ _=>False,wB.d.AB⟩:Ctx):=⟨λq hq=>(by cases hq),λq hq=>(by cases hq)⟩
 have h:=((yb hz (JG _) rfl).2.mono (show 8<=500+30*0 by omega)).re (A':=λ_=>none) (ops':=[]) (λk y hy=>by cases hy) ⟨λq hq=>(by cases hq),λq hq=>(by cases hq)⟩ (λq hq=>hq);exact⟨λ_=>none,[],0,h,⟨rfl,.inl rfl,⟨.nil,λx hx=>(by cases hx),λk y hy=>(by cases hy)⟩,λk y hy=>(by cases hy),Bu _⟩,λx hx=>(by cases hx),λx hx=>(by cases hx),λx hx=>(by cases hx),λx hx=>(by cases hx),NT (by decide) (by decide),NT (by decide) (by decide),NT (by decide) (by decide),⟨Bu _,Bu _,Bu _,Bu _,Bu _⟩⟩
def Zh(l:List Af):Env:=Cw [] [(Zv,0),(ai4,5),(Zx,5)] [(WQ,2,[31001024,31001029,11001030,1001031,31001032])] l
def K7(l:List Af)(x:Code)(K:AX->St->Option St)(s:St):Option St:=La (Zh l) (Dl (Zh l) 9) WQ 65 9 0 0 x K s
def Q0:Code:=Fi (Zh []) WQ
def cL0:Code:=sub Q0 [.L]
def kZ:Code:=sub Q0 [.R,.L]
def dF:Code:=sub Q0 [.R,.R,.L]
def SJ:Code:=sub Q0 [.R,.R,.R,.L]
def Ux:Code:=sub Q0 [.R,.R,.R,.R,.L,.L]
def IM:Code:=sub Q0 [.R,.R,.R,.R,.L,.R,.L,.lp 0]
def VS:Code:=sub Q0 [.R,.R,.R,.R,.R]
def bT:Code:=sub IM [.L]
def bU:Code:=sub IM [.R,.L,.L,.L]
def pz:Code:=sub IM [.R,.L,.L,.R]
def pA:Code:=sub IM [.R,.R]
def nX:Q0=.seq cL0 (.seq kZ (.seq dF (.seq SJ (.seq (.seq Ux (.block 0 (.loop IM))) VS)))):=by kernel_rfl
def w7:IM=.seq bT (.seq (.block 1 (.seq bU pz)) pA):=by kernel_rfl
def JA(l:List Bl):AV:=DQ 8 IS default l
def zSt:List AV:=[.int .i64 0,.Al .f64 0 0,.Ak]
def K8:List AV:=[.int .i64 1,.Al .f64 0 0,.Ak]
def SL0(l:List Bl):St:={fr:=[(0,JA l),(2,.ptr 0 0 0)],hp:=[.arr true 33 [N8]]}
def bPl(d:Md.AL)(a:AV):List AV:=Ct d++[a,.Ak,.int .i64 0,.int .i64 0,.int .i64 0,.int .i64 0,.Ak,.Ak,.Ak,.Ak]
def VU(d:Md.AL)(a:AV)(k:Nat):List AV:=Ct d++[a,.sn 31 k 0,.int .i64 0,.int .i64 0,.int .i64 0,.int .i64 0,.sn 31 (k+1) 0,.sn 11 (k+2) 0,.sn 1 (k+3) 0,.sn 31 (k+4) 0]
def r9(d:Md.AL)(l:List Bl):St:={fr:=[(0,JA l),(2,.ptr 0 0 0),(4,.ptr 1 0 0)],hp:=[.arr true 33 [N8],.arr true 33 [bPl d (.sl 3 2 0 1 1)],.arr true 3 [zSt]]}
def bV:Heap:=[.seq true 31 0 λ_=>[],.seq true 31 0 λ_=>[],.seq true 11 0 λ_=>[],.seq true 1 0 λ_=>[],.seq true 31 0 λ_=>[]]
def SL2(d:Md.AL)(l:List Bl):St:={fr:=[(0,JA l),(2,.ptr 0 0 0),(4,.ptr 1 0 0)],hp:=.arr true 33 [N8] :: .arr true 33 [VU d (.sl 3 2 0 1 1) 3] :: .arr true 3 [K8]::bV}
def dG(d:Md.AL)(l:List Bl):St:={fr:=[(0,JA l),(2,.ptr 0 0 0),(4,.ptr 1 0 0)],hp:=.arr true 33 [N8] :: .arr true 33 [VU d (.A9 3 [K8]) 3] :: .arr false 3 [K8]::bV}
def sd(d:Md.AL)(l:List Bl):St:={fr:=[(0,JA l),(2,.ptr 0 0 0),(4,.ptr 1 0 0)],hp:=.arr true 33 [N8] :: .arr true 33 [VU d (.A9 3 [K8]) 2]::bV}
def TL4(d:Md.AL)(b:Bool):St:={fr:=[(2,.ptr 0 0 0),(3,.bool b)],hp:=.arr true 33 [VU d (.A9 3 [K8]) 1]::bV}
def SL5(d:Md.AL)(l:List Bl):St:={fr:=[(0,JA l),(2,.ptr 0 0 0),(4,.ptr 1 0 0),(5,.int .i64 0)],hp:=.arr true 33 [N8] :: .arr true 33 [VU d (.A9 3 [K8]) 2]::bV}
def ayy(l:List Bl):K7 [] cL0 (Ba .normal (norm 0 [0,2])) {fr:=Ej 0 [JA l],hp:=[]}=some (SL0 l):=by kernel_rfl
def ayz(d:Md.AL)(l:List Bl):K7 [yc d] kZ (Ba .normal (norm 0 [0,2,4])) (SL0 l)=gC (λ_=>()) (λ_=>True) (λ_=>[]) [] λ_=>some (r9 d l):=by kernel_rfl
def ayA(d:Md.AL)(l:List Bl):K7 [] dF (Ba .normal (norm 0 [0,2,4])) (r9 d l)=some (SL2 d l):=by kernel_rfl
def ayB(d:Md.AL)(l:List Bl):K7 [] SJ (Ba .normal (norm 0 [0,2,4])) (dG d l)=bif decide (80<(l.length:Int))then none else some (sd d l):=by kernel_rfl
def awH(d:Md.AL)(l:List Bl):K7 [] SJ (Ba .ret (norm 0 [2,3])) (dG d l)=bif decide (80<(l.length:Int))then some (TL4 d false)else none:=by kernel_rfl
def ayC(d:Md.AL)(l:List Bl):K7 [] Ux (Ba .normal (norm 0 [0,2,4,5])) (sd d l)=some (SL5 d l):=by kernel_rfl
def D9(P:AG)(l:List Bl)(i:Int):St:={fr:=[(0,JA l),(2,.ptr 0 0 0),(4,.ptr 1 0 0),(5,.int .i64 i)],hp:=.arr true 33 [N8] :: .arr true 33 [I7 2 P]::JQ P}
def TA(P:AG)(b:Bool):St:={fr:=[(2,.ptr 0 0 0),(3,.bool b)],hp:=.arr true 33 [I7 1 P]::JQ P}
def aiR(P:AG)(l:List Bl)(i:Int):K7 [] bT (Ba .normal (norm 0 [0,2,4,5])) (D9 P l i)=bif decide (i<(l.length:Int))then some (D9 P l i)else none:=by kernel_rfl
def ayD(P:AG)(l:List Bl)(i:Int):K7 [] bT (Ba (.exit 0) (B9 [0,2,4,5])) (D9 P l i)=bif decide (i<(l.length:Int))then none else some (D9 P l i):=by kernel_rfl
def dH(P:AG)(l:List Bl)(i:Int)(X Y:Option St):Option St:=
 rg i l.length (bif decide (50<((l.getD i.toNat default).o.key.length:Int))then X else rg i l.length (bif decide (50<((l.getD i.toNat default).o.val.length:Int))then X else rg i l.length (bif decide (50<((l.getD i.toNat default).o.Bc.length:Int))then X else bif decide (120<(P.AA.length:Int))then X else Y)))
def ayE(P:AG)(l:List Bl)(i:Int):K7 [] bU (Ba .normal (norm 0 [0,2,4,5])) (D9 P l i)=dH P l i none (some (D9 P l i)):=by kernel_rfl
def awI(P:AG)(l:List Bl)(i:Int):K7 [] bU (Ba .ret (norm 0 [2,3])) (D9 P l i)=dH P l i (some (TA P false)) none:=by kernel_rfl
def aiS(P:AG)(s:Bl)(K:Option St):Option St:=BA (λ_ _=>()) (λ_=>bf P s) (λ_=>VQ P s) [.agg (I7 0 P),.agg (IS s)] (JQ P) λ_=>K
def ayF(P:AG)(s:Bl)(l:List Bl)(i:Int):K7 [aiN P (l.getD i.toNat default)] pz (Ba .normal (norm 0 [0,2,4,5])) (D9 P l i)=rg i l.length (aiS P (l.getD i.toNat default) (some (D9 (Jz P (l.getD i.toNat default)) l i))):=by kernel_rfl
def ayG(P:AG)(l:List Bl)(i:Int):K7 [] pA (Ba .normal (norm 0 [0,2,4,5])) (D9 P l i)=some (D9 P l (Ao (i+1))):=by kernel_rfl
def awJ(P:AG)(l:List Bl)(i:Int):K7 [] VS (Ba .ret (norm 0 [2,3])) (D9 P l i)=some (TA P true):=by kernel_rfl
def afC(P:AG):List AV:=gg P (BB P.AA) (BB P.ops) (AY P.log) (DQ 1 PB default P.busy) (BB P.said)
def zP(P:AG)(b:Bool):AV:=.Am [.agg (afC P),.bool b]
def yd(P:AG)(b:Bool):AV × Heap:=(.Am [.agg (I7 0 P),.bool b],JQ P)
def at0(P:AG)(b:Bool):Ip (Zh []).tt (TA P b) [.cell 2 49,.tmp 3] (λvs=>Cm 0 0 (Ge vs) (TA P b).hp)=some (yd P b):=by kernel_rfl
def ahr(P:AG)(v:AV):Option AV:=bif(P.AA.length.ble P.AA.length&&(P.ops.length.ble P.ops.length&&(P.log.length.ble P.log.length&&(P.busy.length.ble P.busy.length&&(P.said.length.ble P.said.length&&true)))))&&true then some v else none
def awK(P:AG)(b:Bool):By (yd P b).1 (yd P b).2=ahr P (zP P b):=by kernel_rfl
abbrev Hj(c:Code)(s:St)(e:AX)(s':St):Prop:=Bg (λQ=>c.wp PG Q) 65 0 s e s'
def ig{l:List Af}(h:∀ k ∈ l,k.Ok PG):DH PG (Zh l):=Gd h
def ye{l:List Af}(h:∀ k ∈ l,k.Ok PG):EN PG (Dl (R:=St) (Zh l) 9):=Iw (ig h) Gc mixed 9
def SK{l:List Af}(h:∀ k ∈ l,k.Ok PG){c:Code}{L:List Nat}{s s':St}(A8:AD c=true)(e:K7 l c (Ba .normal (norm 0 L)) s=some s'):Hj c s .normal s':=J5 (ig h) (ye h) mixed A8 e
def laR{l:List Af}(h:∀ k ∈ l,k.Ok PG){c:Code}{L:List Nat}{s s':St}(A8:AD c=true)(e:K7 l c (Ba .ret (norm 0 L)) s=some s'):Hj c s .ret s':=acV (ig h) (ye h) mixed A8 e
def laX{l:List Af}(h:∀ k ∈ l,k.Ok PG){c:Code}{L:List Nat}{s s':St}(A8:AD c=true)(e:K7 l c (Ba (.exit 0) (B9 L)) s=some s'):Hj c s (.exit 0) s':=BT (e0:=.exit 0) (ig h) (ye h) mixed A8 e
def okL:AD Q0=true:=by kernel_rfl
def F6(l:List Bl):Nat->AG
 | 0=>P0
 | i+1=>Jz (F6 l i) (l.getD i default)
def Yf(P:AG)(s:Bl):Prop:=50<s.o.key.length\/50<s.o.val.length\/50<s.o.Bc.length\/120<P.AA.length
def abX(p:Nat->Prop):∀ n:Nat,∃ j,j<=n/\(∀ i,i<j -> ¬ p i)/\(j=n\/p j)
 | 0=>⟨0,Ar _,λi hi=>absurd hi (C5 i),.inl rfl⟩
 | n+1=>by
  obtain⟨j,j1,j2,j3⟩:=abX p n;by_cases hp:p j
  ·exact⟨j,by omega,j2,.inr hp⟩
  ·rcases j3 with rfl | j3
   ·exact⟨j+1,by omega,λi hi=>by
     rcases Nat.lt_succ_iff_lt_or_eq.1 hi with h | rfl
     ·exact j2 i h
     ·exact hp,.inl rfl⟩
   ·exact absurd j3 hp
def at2{P:AG}{l:List Bl}{i:Nat}(hi:i<l.length)(h:¬ Yf P (l.getD i default))(X Y:Option St):dH P l (i:Int) X Y=Y:=by unfold dH;unfold Yf at h;rw[B8 hi,B8 hi,B8 hi,BV,AN (by omega),AN (by omega),AN (by omega),AN (by omega)];rfl
def arx{P:AG}{l:List Bl}{i:Nat}(hi:i<l.length)(h:Yf P (l.getD i default))(X Y:Option St):dH P l (i:Int) X Y=X:=by
 unfold dH;unfold Yf at h;rw[B8 hi,B8 hi,B8 hi,BV];by_cases h1:50<(l.getD i default).o.key.length
 ·rw[Ax (by omega)];rfl
 rw[AN (by omega),Aj];by_cases h2:50<(l.getD i default).o.val.length
 ·rw[Ax (by omega)];rfl
 rw[AN (by omega),Aj];by_cases h3:50<(l.getD i default).o.Bc.length
 ·rw[Ax (by omega)];rfl
 rw[AN (by omega),Aj,Ax (by omega)];rfl
def okW:AD bT=true/\AD bU=true/\AD pz=true/\AD pA=true:=⟨by kernel_rfl,by kernel_rfl,by kernel_rfl,by kernel_rfl⟩
def aoY{P:AG}{l:List Bl}{i:Nat}(hi:i<l.length)(hl:l.length<=80)(hb:¬ Yf P (l.getD i default))(hd:bf P (l.getD i default)):Hj IM (D9 P l (i:Nat)) .normal (D9 (Jz P (l.getD i default)) l ((i+1:Nat):Int)):=by obtain⟨kp,kc,kd,ki⟩:=okW;have hw:Ao ((i:Int)+1)=((i+1:Nat):Int):=Cs (by omega);have Lp:Hj bT (D9 P l (i:Nat)) .normal (D9 P l (i:Nat)):=SK AR kp ((aiR P l _).trans (by rw[Ax (by omega)];rfl));have Lc:Hj bU (D9 P l (i:Nat)) .normal (D9 P l (i:Nat)):=SK AR kc ((ayE P l _).trans (at2 hi hb _ _));have q:∀ {K:Option St},aiS P (l.getD i default) K=K:=λ{K}=>Dw () rfl hd (.refl _) (.refl _);have Ld:Hj pz (D9 P l (i:Nat)) .normal (D9 (Jz P (l.getD i default)) l (i:Nat)):=SK (ak (arl _ _) AR) kd (by have e:=ayF P default l (i:Nat);rw[BV,B8 hi,q]at e;exact e);have Li:Hj pA (D9 (Jz P (l.getD i default)) l (i:Nat)) .normal (D9 (Jz P (l.getD i default)) l ((i+1:Nat):Int)):=SK AR ki ((ayG _ l _).trans (by rw[hw]));rw[w7];exact Lp.seq ((Bg.U2 (Lc.seq Ld)).seq Li)
def at3:Br (.A9 3 [K8]) (KQ ⟨1,⟨0,0⟩,[]⟩):=by
 have h1:Br (.A9 3 [K8]) (DQ 3 id K8 [K8]):=Br.PJ (e:=id) [K8] (by simp);have h2:Br (DQ 3 id K8 [K8]) (KQ ⟨1,⟨0,0⟩,[]⟩):=Br.N2 λi hi=>by
  have hi:i<1:=hi;have:i=0:=by omega
  subst this;exact Mo ⟨.refl _,.refl _,FA,trivial⟩
 exact λw I u h=>h2 w I u (h1 w I u h)
def ary(k:Nat):Gi (VU D0 (.A9 3 [K8]) k) (I7 k P0):=ub (.cons (E9.of at3 rfl) (.refl _)) (Ct D0)
def ade:HSub bV (JQ P0):=by have z:∀ {n:Nat} {F:Nat->List AV},Ib (.seq true n 0 λ_=>[]) (.seq true n 0 F):=λ{n F}=>.seq true n 0 0 _ _ (Ar _) λi hi=>absurd hi (C5 i);exact .cons z (.cons z (.cons z (.cons z (.cons z .nil))))
def adf(k:Nat):Ib (.arr true 33 [VU D0 (.A9 3 [K8]) k]) (.arr true 33 [I7 k P0]):=.arr _ _ _ _ rfl λi cs A3 e e'=>by
 cases i with
 | zero=>simp only[TF,CU]at e e';subst e e';exact ary k
 | succ i=>simp at e
def amz(l:List Bl)(hl:∀ s ∈ l,TB s):∃ P b j,j<=80/\(Inv j P/\P=F6 l j)/\Hj Q0 {fr:=Ej 0 [JA l],hp:=[]} .ret (TA P b):=by
 have ok:=okL;rw[nX]at ok;obtain⟨k0,ok⟩:=A4 (show(AD cL0&&AD (.seq kZ (.seq dF (.seq SJ (.seq (.seq Ux (.block 0 (.loop IM))) VS)))))=true from ok);obtain⟨k1,ok⟩:=A4 (show(AD kZ&&AD (.seq dF (.seq SJ (.seq (.seq Ux (.block 0 (.loop IM))) VS))))=true from ok);obtain⟨k2,ok⟩:=A4 (show(AD dF&&AD (.seq SJ (.seq (.seq Ux (.block 0 (.loop IM))) VS)))=true from ok);obtain⟨k3,ok⟩:=A4 (show(AD SJ&&AD (.seq (.seq Ux (.block 0 (.loop IM))) VS))=true from ok);obtain⟨ok,k11⟩:=A4 (show(AD (.seq Ux (.block 0 (.loop IM)))&&AD VS)=true from ok);obtain⟨k5,kw⟩:=A4 (show(AD Ux&&AD IM)=true from ok);have L0:=SK AR k0 (ayy l);have L1:Hj kZ (SL0 l) .normal (r9 D0 l):=SK (ak adb AR) k1 ((ayz D0 l).trans (Bj () rfl trivial (.refl _)));have L2:=SK AR k2 (ayA D0 l);have L2':Hj dF (r9 D0 l) .normal (dG D0 l):=Bg.axY L2 (b:=1) (j:=23) (sz:=33) (cs:=VU D0 (.sl 3 2 0 1 1) 3) (m:=true) (c:=.sl 3 2 0 1 1) (v:=.A9 3 [K8]) (l:=[2]) rfl rfl rfl rfl;by_cases h80:80<l.length
 ·have L3:Hj SJ (dG D0 l) .ret (TL4 D0 false):=laR AR k3 ((awH D0 l).trans (by rw[Ax (by omega)];rfl));have L3':Hj SJ (dG D0 l) .ret (TA P0 false):=L3.GP (.cons (adf 1) ade);refine⟨P0,false,0,by omega,⟨aiQ,rfl⟩,?_⟩;rw[nX];exact L0.seq (L1.seq (L2'.seq (Bg.Nt L3')))
 ·have L3:Hj SJ (dG D0 l) .normal (sd D0 l):=SK AR k3 ((ayB D0 l).trans (by rw[AN (by omega)];rfl));have L5:Hj Ux (sd D0 l) .normal (D9 P0 l ((0:Nat):Int)):=(SK AR k5 (ayC D0 l)).GP (.cons (.refl _) (.cons (adf 2) ade));obtain⟨j,j1,j2,j3⟩:=abX (λi=>Yf (F6 l i) (l.getD i default)) l.length;have hinv:∀ i,i<=j->Inv i (F6 l i):=by
   intro i
   induction i with
   | zero=>exact λ_=>aiQ
   | succ i ih=>exact λhi=>(ada (ih (by omega)) (by omega) (hl _ (De (by omega))) (j2 i (by omega))).2
  have hst:∀ i,i<j->Hj IM (D9 (F6 l i) l (i:Nat)) .normal (D9 (F6 l (i+1)) l ((i+1:Nat):Int)):=λi hi=>
   aoY (by omega) (by omega) (j2 i hi) (ada (hinv i (by omega)) (by omega) (hl _ (De (by omega))) (j2 i hi)).1
  obtain⟨kp,kc,kd,ki⟩:=okW;by_cases hj:j=l.length
  ·refine⟨F6 l j,true,j,by omega,⟨hinv j (Ar _),rfl⟩,?_⟩;have Lx:Hj IM (D9 (F6 l j) l (j:Nat)) (.exit 0) (D9 (F6 l j) l (j:Nat)):=by
    rw[w7];exact Bg.mO (laX AR kp ((ayD _ l _).trans (by rw[AN (by omega)];rfl)))
   have LL:Hj (.loop IM) (D9 (F6 l 0) l ((0:Nat):Int)) (.exit 0) (D9 (F6 l j) l (j:Nat)):=
    Bg.loop (P:=PG) (nt:=65) (base:=0) (x:=IM) (e0:=.exit 0) (by simp) (n:=j) (λi=>D9 (F6 l i) l (i:Nat)) hst Lx
   have L11:Hj VS (D9 (F6 l j) l (j:Nat)) .ret (TA (F6 l j) true):=laR AR k11 (awJ _ l _);rw[nX];exact L0.seq (L1.seq (L2'.seq (L3.seq ((L5.seq LL.block).seq L11))))
  ·have hb:Yf (F6 l j) (l.getD j default):=j3.resolve_left hj;have hjl:j<l.length:=by omega
   refine⟨F6 l j,false,j,by omega,⟨hinv j (Ar _),rfl⟩,?_⟩;have Lp:Hj bT (D9 (F6 l j) l (j:Nat)) .normal (D9 (F6 l j) l (j:Nat)):=SK AR kp ((aiR _ l _).trans (by rw[Ax (by omega)];rfl));have Lc:Hj bU (D9 (F6 l j) l (j:Nat)) .ret (TA (F6 l j) false):=laR AR kc ((awI _ l _).trans (arx hjl hb _ _));have Lx:Hj IM (D9 (F6 l j) l (j:Nat)) .ret (TA (F6 l j) false):=by rw[w7];exact Lp.seq (Bg.Nt (Bg.tV (Bg.Nt Lc)))
   have LL:Hj (.loop IM) (D9 (F6 l 0) l ((0:Nat):Int)) .ret (TA (F6 l j) false):=
    Bg.loop (P:=PG) (nt:=65) (base:=0) (x:=IM) (e0:=.ret) (by simp) (n:=j) (λi=>D9 (F6 l i) l (i:Nat)) hst Lx
   rw[nX];exact L0.seq (L1.seq (L2'.seq (L3.seq (Bg.Nt (L5.seq (Bg.tV LL))))))
def aoZ(l:List Bl)(hl:∀ s ∈ l,TB s):∃ P b j,j<=80/\(Inv j P/\P=F6 l j)/\At PG WQ [JA l] [] (zP P b) []:=by
 obtain⟨P,b,j,h1,h2,h3⟩:=amz l hl;refine⟨P,b,j,h1,h2,?_⟩;obtain⟨fn,hf,hb,GI,Ew⟩:∃ fn,(Zh []).code WQ=some fn/\fn.body=some Q0/\fn.ntmps=65/\fn.results.toList=[.cell 2 49,.tmp 3]:=⟨_,rfl,by kernel_rfl,by kernel_rfl,by kernel_rfl⟩
 have c:=(WZ (args:=[JA l]) (hp:=[]) (ig AR) Gc hf hb (.inr rfl) (by rw[GI];exact h3) (c0:=0) (Bu _) (by rw[Ew];exact at0 P b)).1;refine c.mZ ((awK P b).trans ?_);unfold ahr;simp only[Bn (Ar _),CV,Ae]
def eFn(l:List Af):Env:=Cw [(aab,0,[1,2,3,6,8])] [(aab,0),(ai1,0)] [] l
def eAk(l:List Af):Env:=Cw [] [(Zu,0),(Zv,0),(Ei,0),(Zw,0),(lA,0),(eM,0)] [] l
def ayH(d:Md.AL):List Af:=[yc d,tg,xz]
def SL:Ad:=Dk 1 1 ⟨2,[97],[120],[],false⟩
def SM:Ad:=Dk 2 1 ⟨1,[97],[],[],false⟩
def WI:Ad:={(default:Ad)with kind:=16,dst:=2,BD:=1,Az:=1,num:=1}
def Zi(a b:Au):Bool:=Db .f64 a.re b.re&&Db .f64 a.im b.im
def Q9:Option AV:=some (.bool false)
def gH(d:Md.AL)(m:Ad)(K:Gt->Option AV):Option AV:=gC VI Oi MG [.agg (Ct d),.agg (D4 K1),.agg (NU m)] K
def ak1(l:List Ad)(K:Option AV):Option AV:=
 bif !decide ((l.length:Int)=2)then Q9 else rg 0 l.length (bif !decide ((l.getD 0 default).kind=6)then Q9 else rg 0 l.length (bif !decide ((l.getD 0 default).code=0)then Q9 else
 rg 1 l.length (bif !decide ((l.getD 1 default).kind=15)then Q9 else rg 1 l.length (bif !decide (((l.getD 1 default).entries.length:Int)=1)then Q9 else K))))
def gMk(K:Nat × Nat->Option AV):Option AV:=gC pX pY pZ [.int .i64 1,.int .i64 2] K
def ak3(m:List Ad)(d:Md.AL)(n:List Ad):Option AV:=
 bif decide ((m.length:Int)=0)then bif decide ((d.clean.length:Int)=1)then bif decide ((d.rep.tail.log.length:Int)=0)then bif decide ((n.length:Int)=1)then
  rg 0 n.length (bif A5 (n.getD 0 default).val [120]then rg 0 n.length (bif(n.getD 0 default).has then rg 0 n.length (gMk λp=>some (.bool (Zi (n.getD 0 default).Ag (vr p.1 p.2))))else Q9)else Q9)else Q9 else Q9 else Q9 else Q9
def awL(d:Md.AL):A6 (eAk (ayH d)) 9 Zu []=gC (λ_=>()) (λ_=>True) (λ_=>[]) [] λ_=>gH d SL λp1=>ak1 (EW p1).out (gH (EW p1).d WI λp2=>gH (EW p2).d SM λp3=>ak3 (EW p2).out (EW p2).d (EW p3).out):=by kernel_rfl
def adg{v:Au}(h:AU v):Zi v v=true:=by obtain⟨e,n,he,hn,rfl⟩:=h;show(Db .f64 (Fl.fl e) (Fl.fl e)&&Db .f64 (Fl.fl n) (Fl.fl n))=true;rw[fN (by omega) (by omega),fN (by omega) (by omega)];simp
def SN:Ai:=OH E3 (D0,K1,SL)
def Ra:Ai:=OH E3 (SN.d,K1,WI)
def Zj:Ai:=OH E3 (Ra.d,K1,SM)
def arz:D0.asks=[]:=by kernel_rfl
def at4:SN.d.AB.num=1:=by kernel_rfl
def arA:Ra.d.asks=[]:=by kernel_rfl
def at5(K:Option AV):ak1 SN.out K=K:=by kernel_rfl
def qMk{K:Nat × Nat->Option AV}:gMk K=K (1,2):=Bj ((1,2):Nat × Nat) rfl trivial (.refl _)
def arB:ak3 Ra.out Ra.d Zj.out=gMk λp=>some (.bool (Zi (Zj.out.getD 0 default).Ag (vr p.1 p.2))):=by kernel_rfl
def arC:Zi (Zj.out.getD 0 default).Ag (vr 1 2)=true:=by kernel_rfl
def at6:ak3 Ra.out Ra.d Zj.out=some (.bool true):=by rw[arB,qMk];show some (AV.bool (Zi (Zj.out.getD 0 default).Ag (vr 1 2)))=_;rw[arC]
def aek{d:Md.AL}(h:d.asks=[])(m:Ad):¬ Ny (d,K1,m):=λt=>by
 have:=t.ix;have e:(d,K1,m).1.asks.length=0:=by show d.asks.length=0;rw[h];rfl
 omega
def yE:Entry:={(default:Entry)with Ag:=v1 1000}
def Zk:Ctx:=⟨[SL,SM],λ_=>some yE,0,λ_ _=>False,wB.d.AB⟩
def at7:Tz Zk:=by
 have o1:Y0 SL:=uW (s:=⟨0,1,0,⟨2,[97],[120],[],false⟩⟩) ⟨by decide,by decide,by decide,NT (by decide) (by decide),by decide,by decide,by decide⟩ (by decide) (NT (by decide) (by decide));have o2:Y0 SM:=uW (s:=⟨0,1,0,⟨1,[97],[],[],false⟩⟩) ⟨by decide,by decide,by decide,NT (by decide) (by decide),by decide,by decide,by decide⟩ (by decide) (NT (by decide) (by decide));have mem:∀ q ∈ Zk.ops,q=SL\/q=SM:=λq hq=>by simpa [Zk] using hq
 refine⟨λq hq=>?_,λq hq p hp h1 _=>?_⟩
 ·rcases mem q hq with rfl | rfl
  ·exact o1
  ·exact o2
 ·rcases mem q hq with rfl | rfl <;> rcases mem p hp with rfl | rfl
  ·rfl
  ·exact absurd h1 (by decide)
  ·exact absurd h1 (by decide)
  ·rfl
def awM:Oi (D0,K1,SL)/\Oi (SN.d,K1,WI)/\Oi (Ra.d,K1,SM)/\EW (D0,K1,SL)=SN/\EW (SN.d,K1,WI)=Ra/\EW (Ra.d,K1,SM)=Zj:=by
 have n1:=aek arz SL;have n2:¬ Ny (SN.d,K1,WI):=λh=>absurd (show(16:Int)=5 from h.kd) (by decide);have n3:=aek arA SM;have f1:EW (D0,K1,SL)=SN:=by unfold EW;rw[AE n1];rfl
 have f2:EW (SN.d,K1,WI)=Ra:=by unfold EW;rw[AE n2];rfl
 have f3:EW (Ra.d,K1,SM)=Zj:=by unfold EW;rw[AE n3];rfl
 have d0:=(yb (C:=Zk) at7 (JG _) rfl).2;obtain⟨a1,H1,g1,_,_,L1⟩:=Xd (m:=SL) d0 (.inl (by simp[Zk])) (by omega);rw[f1]at L1;have hm:FdI Zk SN.d WI:=⟨rfl,rfl,rfl,by rw[at4];decide,λ_ e he=>by obtain⟨n,k1,k2,k3,_⟩:=L1.d.h.vi (L1.d.Gm.2 e he).1;have:=L1.d.h.len;refine⟨yE,rfl,?_⟩;show AP (v1 1000) e.Ag=false;rw[k3,Ty (by omega) (by omega)];exact AN (by omega)⟩
 obtain⟨a2,H2,g2,_,_,L2⟩:=Xd (m:=WI) L1.d (.inr hm) (by omega);rw[f2]at L2;obtain⟨a3,_⟩:=Xd (m:=SM) L2.d (.inl (by simp[Zk])) (by omega);exact⟨a1,a2,a3,f1,f2,f3⟩
def ao0:At PG Zu [] [] (.bool true) []:=by obtain⟨a1,a2,a3,f1,f2,f3⟩:=awM;have q0:∀ {K:Unit->Option AV},gC (λ_=>()) (λ_=>True) (λ_=>[]) [] K=K ():=λ{K}=>Bj () rfl trivial (.refl _);have q:∀ {d:Md.AL} {m:Ad} {K:Gt->Option AV},Oi (d,K1,m)->(m.entries=[]/\m.chain=[]/\m.views=[]/\m.image.log=[]/\m.image.seen=[])->Dj (NU m)=m->gH d m K=K (d,K1,m):=λ{d m K} h hn hd=>Bj (d,K1,m) (Cv (eH d) (Cv (aaF K1) hd)) h (.cons (.refl _) (.cons (.refl _) (.cons (.agg (mP m hn)) .nil)));have e:=awL D0;rw[q0,q a1 ⟨rfl,rfl,rfl,rfl,rfl⟩ (by kernel_rfl),f1,at5,q a2 ⟨rfl,rfl,rfl,rfl,rfl⟩ (by kernel_rfl),f2,q a3 ⟨rfl,rfl,rfl,rfl,rfl⟩ (by kernel_rfl),f3,at6]at e;exact Cx (ak adb (ak aag (ak acp AR))) e
def awN:A6 (eFn []) 9 Zw []=some (.agg (D4 K1)):=by kernel_rfl
def yf:Af:=.one Zw [] (.agg (D4 K1))
def ao1:yf.Ok PG:=Af.Xs (Cx AR awN)
def ahs:Af:=.one Zu [] (.bool true)
def aht(l:List Bl)(P:AG)(b:Bool):Af:=.one WQ [JA l] (zP P b)
def Zl(l:List Af):Env:=Cw [] [(Zr,0),(Zu,0),(WQ,0),(Zw,0),(lA,0),(Ei,5)] [] l
def bdK:Code:=Fi (Zl []) Zr
def kc(p:List PE):Code:=sub bdK p
def kR(n:Nat)(p:List PE):List PE:=List.replicate n .R++p
def kq(n:Nat):Code:=kc (kR n [.L])
def kA(n:Nat):Code:=kc (kR n [.L,.L])
def kB(n:Nat):Code:=kc (kR n [.L,.R,.L,.L])
def at8:bdK=.seq (kq 0) (.seq (kq 1) (.seq (kq 2) (.seq (kq 3) (.seq (kq 4) (.seq (kq 5) (.seq (kq 6) (.seq (kq 7) (.seq (.seq (kA 8) (.block 0 (.loop (kB 8)))) (.seq (.seq (kA 9) (.block 2 (.loop (kB 9)))) (.seq (.seq (kA 10) (.block 4 (.loop (kB 10)))) (.seq (.seq (kA 11) (.block 6 (.loop (kB 11))))
 (.seq (kq 12) (.seq (.seq (kA 13) (.block 10 (.loop (kB 13)))) (.seq (.seq (kA 14) (.block 12 (.loop (kB 14)))) (.seq (.seq (kA 15) (.block 14 (.loop (kB 15)))) (kc (kR 16 []))))))))))))))))):=by kernel_rfl
def DK(l:List Af)(b:Nat)(c:Code)(K:AX->St->Option St)(s:St):Option St:=La (Zl l) (Dl (Zl l) 5) Zr 215 5 b 0 c K s
section
variable (l:List Bl) (s:Bl) (P:AG)
def sf:St:={fr:=[(0,JA l),(3,.ptr 0 0 0)],hp:=[.arr true 8 [IS s]]}
def Zm:BS:=.arr true 33 [afC P]
def sg(b:Bool):St:={fr:=[(3,.ptr 0 0 0),(5,.ptr 1 0 0),(6,.bool b)],hp:=[.arr true 8 [IS s],Zm P]}
def KS4:St:={fr:=[(3,.ptr 0 0 0),(5,.ptr 1 0 0)],hp:=[.arr true 8 [IS s],Zm P]}
def KT:St:={fr:=[(4,.bool true)],hp:=[.arr true 8 [IS s],Zm P]}
def j_0:DK [] 0 (kq 0) (Ba .normal (B9 [0,3])) {fr:=Ej 0 [JA l,.agg (IS s)],hp:=[]}=some (sf l s):=by kernel_rfl
def j_1:DK [ahs] 0 (kq 1) (Ba .normal (B9 [0,3])) (sf l s)=gC Mg Mh (λ_=>[]) [] λ_=>some (sf l s):=by kernel_rfl
def j_2(b:Bool):DK [aht l P b] 0 (kq 2) (Ba .normal (B9 [3,5,6])) (sf l s)=gC Mg Mh (λ_=>[JA l]) [JA l] λ_=>some (sg s P b):=by kernel_rfl
def ayI:DK [] 0 (kq 3) (Ba .ret (B9 [4])) (sg s P false)=some (KT s P):=by kernel_rfl
def bW(s:Bl)(x y:Option St):Option St:=bif decide (50<(s.o.key.length:Int))then x else bif decide (50<(s.o.val.length:Int))then x else bif decide (50<(s.o.Bc.length:Int))then x else y
def ayJ:DK [] 0 (kq 3) (Ba .ret (B9 [4])) (sg s P true)=bW s (some (KT s P)) none:=by kernel_rfl
def ayK:DK [] 0 (kq 3) (Ba .normal (B9 [3,5])) (sg s P true)=bW s none (some (KS4 s P)):=by kernel_rfl
abbrev Lk:Nat:=P.d.rep.tail.log.length
abbrev Gb:Nat:=P.d.waits.length
abbrev GJ:Nat:=P.d.clean.length
def KS5:St:={fr:=[(3,.ptr 0 0 0),(5,.ptr 1 0 0),(7,.int .i64 (Lk P))],hp:=[.arr true 8 [IS s],Zm P]}
def j_4:DK [] 0 (kq 4) (Ba .normal (B9 [3,5,7])) (KS4 s P)=some (KS5 s P):=by kernel_rfl
def dI(n b:Nat)(x y:Option St):Option St:=bif((0+n)*b).ble 140737488355328&&(0+n).ble 140737488355328 then bif n.beq 0 then x else y else none
def Zn(l:List AH):Nat->List AV:=λi=>AK (l.getD i default)
def Zo(v:AV)(x:BS):St:={fr:=[(3,.ptr 0 0 0),(5,.ptr 1 0 0),(7,.int .i64 (Lk P)),(8,v)],hp:=[.arr true 8 [IS s],Zm P,x]}
def j_5:DK [] 0 (kq 5) (Ba .normal (norm 0 [3,5,7,8])) (KS5 s P)=dI (Gb P) 40 (some (Zo s P (.sl 4 2 0 0 0) (.arr true 4 []))) (some (Zo s P (.sl 4 2 0 (Gb P) 0) (.seq true 4 (Gb P) (CM P.d.waits)))):=by kernel_rfl
def Zp(v:AV)(x:BS):St:={fr:=[(3,.ptr 0 0 0),(5,.ptr 1 0 0),(7,.int .i64 (Lk P)),(8,.sn 4 2 (Gb P)),(9,v)],hp:=[.arr true 8 [IS s],Zm P,.seq true 4 (Gb P) (CM P.d.waits),x]}
def j_6:DK [] 0 (kq 6) (Ba .normal (norm 0 [3,5,7,8,9])) (Zo s P (.sn 4 2 (Gb P)) (.seq true 4 (Gb P) (CM P.d.waits)))=dI (GJ P) 56 (some (Zp s P (.sl 4 3 0 0 0) (.arr true 4 []))) (some (Zp s P (.sl 4 3 0 (GJ P) 0) (.seq true 4 (GJ P) (Zn P.d.clean)))):=by kernel_rfl
variable (m:Nat) (W:Ai)
def pD1(d:Md.AL):List AV:=[.int .i64 d.rep.AQ,.int .i64 d.rep.self.node,.int .i64 d.rep.self.BD,.int .i64 d.rep.view.AQ,.int .i64 d.rep.view.Az,.int .i64 d.rep.view.gen,.int .i64 d.rep.view.phase,.mk 0 m (CD d.rep.view.chain),.int .i64 d.rep.frozen,.Al .f64 d.rep.tail.floor.re d.rep.tail.floor.im,.Al .f64 d.rep.tail.last.re d.rep.tail.last.im,.mk 1 m (AY d.rep.tail.log),.mk 0 m (B7 d.rep.seen),.Al .f64 d.rep.B5.re d.rep.B5.im,.mk 0 m (E6 d.rep.synced),
 .int .i64 d.AB.num,.mk 0 m (AY d.AB.out),.mk 0 m (Bi d.AB.done),.mk 1 m (Bi d.clean),.bool d.busy,.mk 1 m (HQ d.waits),.mk 0 m (E7 d.asks),.int .i64 d.next]
def sh:BS:=.arr true 33 [pD1 m P.d++Bp 10]
abbrev k6:Heap:=[.seq true 4 (Gb P) (CM P.d.waits),.seq true 4 (GJ P) (Zn P.d.clean)]
def k9(z:Fr):Fr:=[(5,.ptr 1 0 0),(7,.int .i64 (Lk P)),(8,.sn 4 2 (Gb P)),(9,.sn 4 3 (GJ P))]++z
def si:St:={fr:=(3,.ptr 0 0 0)::k9 P [],hp:=[.arr true 8 [IS s],sh P m]++k6 P}
def dJ:St:={fr:=k9 P [(10,.ptr 7 0 0),(11,.sn 31 6 W.out.length)],hp:=[.arr true 8 [IS s],sh P m]++(k6 P++[.seq true 4 W.d.waits.length (CM W.d.waits),.dead,.seq true 31 W.out.length λi=>dg m (W.out.getD i default),
 .arr true 23 [Bp 11++(.mk 2 m (AY W.d.rep.tail.log)::(Bp 6++(.mk 2 m (Bi W.d.clean)::(Bp 1++(.sn 4 4 W.d.waits.length::Bp 2)))))]])}
def aiT(d:Md.AL)(q:Ad):Af:=.Ly Ei Mg Mh (λ_=>[.agg (Jd m d),.agg (D4 K1),.agg (Aq q)]) (λ_=>(pd m W,kG m W))
def j_7(q:Ad):DK [yf,aiT m W P.d q] 0 (kq 7) (Ba .normal (B9 [5,7,8,9,10,11])) (si s P m)=gC Mg Mh (λ_=>[]) [] λ_=>gC Mg Mh (λ_=>[.agg (Jd m P.d),.agg (D4 K1),.agg (Aq q)]) [.agg (pD1 m P.d),.agg (D4 K1),.agg (NU (Dk 1 99 s.o))] λ_=>some (dJ s P m W):=by kernel_rfl
end
end Go.Hd
end
section
namespace Go.AM
section
variable {P:Program} {M nt:Nat} {ι κ ν:Type}
def Mk(M:Nat)(A:ι->Df)(C:κ->Df)(X:(Exit->Act->World->Prop)->Act->World->Prop)(nt:Nat)(S:ι->St)(e:AX)(T:κ->St):Prop:=
 ∀ x w I φ a,BC w I φ (S x) a->A x w I φ (S x)->nt<=a.tmps.size -> ∀ Q,(∀ y a' w' φ' I',nt<=a'.tmps.size->a'.defers=a.defers->BC w' I' φ' (T y) a'->C y w' I' φ' (T y)->Ext (λB=>M<=B) w w'->Q e.x a' w')->X Q a w
def Mk.loop{A:ι->Df}{C:κ->Df}{x:Code}{e0:AX}(he:e0 ≠ .normal){n:Nat}(S:Nat->ι->St){T:κ->St}(Kf:∀ j,j<n->Mk M A A (λQ=>x.wp P Q) nt (S j) .normal (S (j+1)))(ON:Mk M A C (λQ=>x.wp P Q) nt (S n) e0 T) :
  Mk M A C (λQ=>(Code.loop x).wp P Q) nt (S 0) e0 T:=by
 have key:∀ k j,j+k=n->Mk M A C (Ud P x) nt (S j) e0 T:=by
  intro k
  induction k with
  | zero=>
   intro j hj;have:j=n:=by omega
   subst this;intro z w I φ a hs hA ha Q hQ;refine ZY (ON z w I φ a hs hA ha _ λy a' w' φ' I' c1 c2 c3 c4 c5=>?_);cases e0 with
   | normal=>exact absurd rfl he
   | exit id=>exact hQ y a' w' φ' I' c1 c2 c3 c4 c5
   | goto l=>exact hQ y a' w' φ' I' c1 c2 c3 c4 c5
   | ret=>exact hQ y a' w' φ' I' c1 c2 c3 c4 c5
  | succ k ih=>intro j hj z w I φ a hs hA ha Q hQ;refine ZY (Kf j (by omega) z w I φ a hs hA ha _ λy a1 w1 Dd I1 c1 c2 c3 c4 c5=>ih (j+1) (by omega) y w1 I1 Dd a1 c3 c4 c1 Q λy2 a2 w2 BO I2 d1 d2 d3 d4 d5=>?_);exact hQ y2 a2 w2 BO I2 d1 (d2.trans c2) d3 d4 (c5.trans d5 λB hB=>.inl hB)
 intro z w I φ a hs hA ha Q hQ;exact mA (key n 0 (by omega) z w I φ a hs hA ha Q hQ)
def Mk.of{A:ι->Df}{C:ι->Df}{X:(Exit->Act->World->Prop)->Act->World->Prop}{S T:ι->St}{e:AX}(h:∀ x,LG M (A x) (C x) X nt (S x) e (T x)):Mk M A C X nt S e T:=
 λx w I φ a hs hA ha Q hQ=>h x w I φ a hs hA ha Q λa' w' φ' I' c1 c2 c3 c4 c5=>hQ x a' w' φ' I' c1 c2 c3 c4 c5
end
structure SO where
 a:Option Addr
 n:Nat
 c:Nat
 sz:Nat
def PX(k m M:Nat)(I0:Nat->Prop)(hs:SO->Prop):Df:=λw I φ S=>Pm M I0 w I φ S /\ ∀ h,hs h->0<h.n -> ∃ B q,h.a=some ⟨B,q,none⟩/\h.n<=h.c/\m<=B/\M<=B/\B<w.heap.size/\F7 w B/\q+h.c*h.sz<=Bv w B /\
 ∀ b,b ≠ k->AZ (Ab S.hp b)=true -> ∀ o s,φ b ≠ some (B,o,s)
section
variable {P:Program} {M m nt k base:Nat} {I0:Nat->Prop} {hs:SO->Prop}
def Step.px{w w':World}{I I':Nat->Prop}{φ φ':Ac}{S T:St}(st:Step base (Ab S.hp) φ I w (Ab T.hp) φ' I' w')(hh:RH w' I' φ' (Ab T.hp))(hm:∀ b,AZ (Ab T.hp b)=AZ (Ab S.hp b))(hb:∀ b,AZ (Ab S.hp b)=true->b<base)
  (h:PX k m M I0 hs w I φ S):PX k m M I0 hs w' I' φ' T/\Ext (λB=>M<=B) w w':=by
 have st0:Step 0 (Ab S.hp) φ I w (Ab T.hp) φ' I' w':=⟨λb p hb=>absurd hb (C5 b),st.F8,st.F3,st.mt,st.ext,st.ok⟩
 obtain⟨g1,g2⟩:=Step.pm st0 hh h.1;refine⟨⟨g1,λx hx hn=>?_⟩,g2⟩;obtain⟨B,q,e1,e2,e3,e4,e5,e6,e7,e8⟩:=h.2 x hx hn;refine⟨B,q,e1,e2,e3,e4,He e5 st.ext.size,?_,CI e7 (st.ext.Bv B),λb hne Ua o s eb=>?_⟩
 ·by_cases hM:Ca φ (Ab S.hp) B
  ·obtain⟨b,o,s,m1,m2⟩:=hM;exact st.ok B (.inr ⟨b,o,s,(hm b).trans m1,st.le b _ (hb b m1) m2⟩) λ_=>e6
  ·intro c e fz hc;exact e6 c e fz ((st.ext.keep B e5 hM).symm.trans hc)
 ·have hms:AZ (Ab S.hp b)=true:=(hm b).symm.trans Ua;have hM:Ca φ (Ab S.hp) B:=(st.mt B ⟨b,o,s,Ua,eb⟩).resolve_right (by omega);obtain⟨b2,o2,s2,m1,m2⟩:=hM;by_cases hk:b2=k
  ·have:=hh.inj b b2 B o s o2 s2 Ua ((hm b2).trans m1) eb (st.le b2 _ (hb b2 m1) m2);exact hne (this.trans hk)
  ·exact e8 b2 hk m1 o2 s2 m2
def Bg.px{X:(Exit->Act->World->Prop)->Act->World->Prop}{S T:St}{e:AX}(h:Bg X nt base S e T)(hl:base<=S.hp.length)(hm:∀ b,AZ (Ab T.hp b)=AZ (Ab S.hp b))(hb:∀ b,AZ (Ab S.hp b)=true->b<base):LG M (PX k m M I0 hs) (PX k m M I0 hs) X nt S e T:=
 λw I φ a hs hA ha Q hQ=>(h hl).2 w I φ a hs ha Q λa' w' φ' I' c1 c2 c3 c4=>hQ a' w' φ' I' c1 c2 c3 (c4.px c3.hh hm hb hA).1 (c4.px c3.hh hm hb hA).2
end
section
variable {w:World} {I J:Nat->Prop} {φ:Ac}
def Sm(n:Nat):List AV:=List.replicate n .undef
def RB.Bp{B q sz n c:Nat}(A8:F7 w B)(hc:n<=c)(hz:q+c*sz<=Bv w B)(hp:0<Bv w B)(h1:sz ≠ 1):RB w J φ B q sz (.seq true sz n λ_=>Sm sz):=by
 obtain⟨cc,e,fz,hw⟩:∃ c e fz,w.heap[B]? = some (.cells c e fz):=by
  unfold Bv at hp;split at hp
  ·rename_i c e fz h;exact⟨c,e,fz,h⟩
  ·exact absurd hp (DP 0)
 obtain⟨k1,k2,k3⟩:=A8 cc e fz hw;have hsz:Bv w B=cc.size:=by unfold Bv;rw[hw]
 refine⟨rfl,⟨cc,e,fz,hw,λ_=>⟨k1,?_⟩⟩,λi hi=>aw ..,λi k x hi e=>?_⟩
 ·rcases k2 with x | x
  ·cases x
  ·exact .inr x
 ·have hk:k<sz:=by
   have:=(GO.1 e).1;simpa [Sm] using this
  have hlt:q+i*sz+k<cc.size:=by
   rw[<- hsz];have:i*sz+sz<=c*sz:=by have:=KU sz (show i+1<=c by omega);rw[F0,Nat.one_mul]at this;exact this
   omega
  refine⟨cc[q+i*sz+k],by rw[cell_of hw];exact Cy hlt,k3 _ _ (Cy hlt),?_⟩;have:x=.undef:=by have:=Dy e;exact(List.mem_replicate.1 this).2
  rw[this];exact .undef _
def RH.bind{hp:Heap}{x:BS}{B q sz:Nat}(h:RH w I φ (Ab hp))(hm:AZ x=true)(hb:∀ φ',Ac.le φ φ'->RB w I φ' B q sz x)(hI:¬ I B)(hne:∀ b,AZ (Ab hp b)=true -> ∀ o s,φ b ≠ some (B,o,s)) :
  RH w I (φ.set hp.length (B,q,sz)) (Ab (hp++[x])):=by
 have hn:φ hp.length=Option.none:=h.none _ (Gw (Ar _));have le:=Ac.PH hn (B,q,sz);have hlt:∀ b,b<hp.length->Ab (hp++[x]) b=Ab hp b:=λb hb=>by simp[Ab,List.getD,DY hb]
 have Ep:∀ b,hp.length<b->Ab (hp++[x]) b=.none:=λb hb=>Gw (by simp;omega);have Ex:Ab (hp++[x]) hp.length=x:=by simp[Ab,List.getD]
 have hold:∀ b,b ≠ hp.length->φ.set hp.length (B,q,sz) b=φ b:=λb hb=>Ac.Rv _ _ hb;have cs:∀ b,b<hp.length\/b=hp.length\/hp.length<b:=λb=>by omega
 refine⟨λb e=>?_,λb e=>?_,λb b' B' o s o' s' h1 h2 e1 e2=>?_,λb B' o s h1 e1 hB=>?_,λb B' o s h1 h2 e1=>?_,h.lt⟩
 ·rcases cs b with c | c | c
  ·rw[hold b (by omega)];rw[hlt b c]at e;exact h.none b e
  ·subst c;rw[Ex]at e;rw[e]at hm;cases hm
  ·rw[hold b (by omega)];exact h.none b (Gw (by omega))
 ·rcases cs b with c | c | c
  ·rw[hlt b c]at e ⊢;rw[hold b (by omega)];rcases h.CY b e with ⟨B',o,s,e1,r⟩ | r
   ·exact .inl ⟨B',o,s,e1,r.mono (λB hB=>⟨hB,rfl⟩) (λ_=>Ar _) le rfl⟩
   ·exact .inr r
  ·subst c;rw[Ex];exact .inl ⟨B,q,sz,Ac.E5 _ _ _,hb _ le⟩
  ·rw[Ep b c]at e;cases e
 ·rcases cs b with c | c | c <;> rcases cs b' with c' | c' | c'
  ·rw[hlt b c]at h1;rw[hlt b' c']at h2;rw[hold b (by omega)]at e1;rw[hold b' (by omega)]at e2;exact h.inj b b' B' o s o' s' h1 h2 e1 e2
  ·subst c';rw[Ac.E5]at e2;cases e2;rw[hlt b c]at h1;rw[hold b (by omega)]at e1;exact absurd e1 (hne b h1 o s)
  ·rw[Ep b' c']at h2;cases h2
  ·subst c;rw[Ac.E5]at e1;cases e1;rw[hlt b' c']at h2;rw[hold b' (by omega)]at e2;exact absurd e2 (hne b' h2 o' s')
  ·omega
  ·rw[Ep b' c']at h2;cases h2
  ·rw[Ep b c]at h1;cases h1
  ·rw[Ep b c]at h1;cases h1
  ·rw[Ep b c]at h1;cases h1
 ·rcases cs b with c | c | c
  ·rw[hlt b c]at h1;rw[hold b (by omega)]at e1;exact h.CP b B' o s h1 e1 hB
  ·subst c;rw[Ac.E5]at e1;cases e1;exact hI hB
  ·rw[Ep b c]at h1;cases h1
 ·rcases cs b with c | c | c
  ·rw[hlt b c]at h1 h2;rw[hold b (by omega)]at e1;exact h.Ea b B' o s h1 h2 e1
  ·subst c;rw[Ex,hm]at h2;cases h2
  ·rw[Ep b c]at h1;cases h1
def Qx(m:Nat)(I:Nat->Prop)(B:Nat):Prop:=I B/\B<m
def HM.mk1{m sz n:Nat}{f:Nat->List AV}(hj:∀ i,i<n->N6 (f i)=true):HM w I (Qx m I) φ (.mk 1 m (.tr sz n f)) (.mk 1 m (.tr sz n f)):=by
 intro u hu;cases hu with
 | mk _ _ _ a n' c h hk=>
  obtain⟨k1,k2⟩:=hk;cases h with
  | tr _ _ _ B o cap uf hI hn C6 hlen hc h1 hr=>exact .mk 1 m _ _ _ _ (.tr sz n f B o _ uf (λh0=>k2 B o none rfl h0) hn C6 hlen hc h1 λi k c hi e=>(hr i k c hi e).jf _ (U3 (hj i hi) e)) ⟨k1,λB' q p e h0=>⟨k2 B' q p e h0,(k2 B' q p e h0).2⟩⟩
  | Cq _ _ a=>exact .mk 1 m _ _ _ _ (.Cq sz f _) ⟨k1,λB q p e h0=>absurd h0 (DP 0)⟩
def HM.open{b sz n c B q:Nat}{a:Option Addr}(AI:φ b=some (B,q,sz))(ha:a=some ⟨B,q,none⟩)(hn:n<=c)(hz:q+c*sz<=Bv w B):HM w I J φ (.hd a n c) (.sn sz b n):=by
 intro u hu;cases hu with
 | hd _ _ _=>subst ha;exact .sn sz b n B q c AI hn hz
end
end Go.AM
end
section
open Go Go.AM Go.Md
namespace Go.Hd
open Go.Wk
structure HX where
 la:Option Addr
 lc:Nat
 ca:Option Addr
 cc:Nat
 A:Nat->Option Addr
 C:Nat->Nat
section
variable (P:AG) (m:Nat) (W:Ai)
abbrev FP:Nat:=W.d.rep.tail.log.length
abbrev FQ:Nat:=W.d.clean.length
abbrev Rb:Nat:=W.d.waits.length
abbrev EK:Nat:=W.out.length
def nE(i:Nat):Nat:=(W.out.getD i default).entries.length
def ld:BS:=.arr true 33 [Bp 11++(.mk 1 m (AY P.d.rep.tail.log)::(Bp 6++(.mk 1 m (Bi P.d.clean)::(Bp 1++(.mk 1 m (HQ P.d.waits)::Bp 12)))))]
def Nc(l c:AV):BS:=.arr true 23 [Bp 11++(l::(Bp 6++(c::(Bp 1++(.sn 4 4 (Rb W)::Bp 2)))))]
def sj(x:HX)(i:Nat):List AV:=Bp 23++(.hd (x.A i) (nE W i) (x.C i)::Bp 7)
def SP(z:Fr):Fr:=k9 P ([(10,.ptr 7 0 0),(11,.sn 31 6 (EK W))]++z)
def IN(o d:BS):Heap:=[.dead,ld P m]++(k6 P++[.seq true 4 (Rb W) λ_=>Bp 4,.dead,o,d])
def NV(x:HX):BS:=.seq true 31 (EK W) (sj W x)
def BF(z:Fr)(x:HX):St:={fr:=SP P W z,hp:=IN P m W (NV W x) (Nc W (.hd x.la (FP W) x.lc) (.hd x.ca (FQ W) x.cc))}
def Nf(z:Fr)(x:HX)(F:Nat->List AV):St:={fr:=SP P W z,hp:=IN P m W (NV W x) (Nc W (.sn 11 8 (FP W)) (.hd x.ca (FQ W) x.cc))++[.seq true 11 (FP W) F]}
def Ng(z:Fr)(x:HX)(F:Nat->List AV):St:={fr:=SP P W z,hp:=IN P m W (NV W x) (Nc W (.hd x.la (FP W) x.lc) (.sn 4 8 (FQ W)))++[.seq true 4 (FQ W) F]}
def SV3(z:Fr)(x:HX)(F:Nat->List AV):St:={fr:=SP P W z,hp:=[.dead,ld P m]++(k6 P++[.seq true 4 (Rb W) F,.dead,NV W x,Nc W (.hd x.la (FP W) x.lc) (.hd x.ca (FQ W) x.cc)])}
def Nh(j:Nat)(z:Fr)(x:HX)(F:Nat->List AV):St:={fr:=SP P W z,hp:=IN P m W (.Cb true 31 (EK W) (sj W x) j (Bp 23++(.sn 11 8 (nE W j)::Bp 7)) [8] true) (Nc W (.hd x.la (FP W) x.lc) (.hd x.ca (FQ W) x.cc))++[.seq true 11 (nE W j) F]}
def dK:AV:=.str [115,112,111,105,108,116]
def dM(n k:Nat)(v:AV)(i:Nat):Nat->List AV:=λi'=>bif Nat.beq i' i then setAt (Bp n) k [v]else Bp n
def lf(n:Nat)(i:Int)(K:Option St):Option St:=bif decide (i<(n:Int))then rg i n (bif i.toNat.blt n&&true then K else none)else none
def dN(n:Nat)(i:Int)(K:Option St):Option St:=bif decide (i<(n:Int))then none else K
def lh(n:Nat)(i:Int)(K:Option St):Option St:=bif decide (i<(n:Int))then rg i n (bif i.toNat.blt n&&true then none else none)else K
variable (x:HX) (i:Int)
def ayL:DK [] 8 (kA 8) (Ba .normal (B9 [5,7,8,9,10,11,12])) (BF P m W [] x)=some (BF P m W [(12,.int .i64 0)] x):=by kernel_rfl
def ayM:DK [] 8 (kB 8) (Ba (.exit 0) (B9 [5,7,8,9,10,11])) (BF P m W [(12,.int .i64 i)] x)=dN (FP W) i (some (BF P m W [] x)):=by kernel_rfl
def ayN:DK [] 9 (kB 8) (Ba .normal (B9 [5,7,8,9,10,11,12])) (Nf P m W [(12,.int .i64 i)] x λ_=>Bp 11)=lf (FP W) i (some (Nf P m W [(12,.int .i64 (Ao (i+1)))] x (dM 11 2 dK i.toNat))):=by kernel_rfl
def ayO:DK [] 9 (kB 8) (Ba (.exit 0) (B9 [5,7,8,9,10,11])) (Nf P m W [(12,.int .i64 i)] x λ_=>Bp 11)=lh (FP W) i (some (Nf P m W [] x λ_=>Bp 11)):=by kernel_rfl
def ayP:DK [] 8 (kA 9) (Ba .normal (B9 [5,7,8,9,10,11,13])) (BF P m W [] x)=some (BF P m W [(13,.int .i64 0)] x):=by kernel_rfl
def ayQ:DK [] 8 (kB 9) (Ba (.exit 2) (B9 [5,7,8,9,10,11])) (BF P m W [(13,.int .i64 i)] x)=dN (FQ W) i (some (BF P m W [] x)):=by kernel_rfl
def ayR:DK [] 9 (kB 9) (Ba .normal (B9 [5,7,8,9,10,11,13])) (Ng P m W [(13,.int .i64 i)] x λ_=>Bp 4)=lf (FQ W) i (some (Ng P m W [(13,.int .i64 (Ao (i+1)))] x (dM 4 1 dK i.toNat))):=by kernel_rfl
def ayS:DK [] 9 (kB 9) (Ba (.exit 2) (B9 [5,7,8,9,10,11])) (Ng P m W [(13,.int .i64 i)] x λ_=>Bp 4)=lh (FQ W) i (some (Ng P m W [] x λ_=>Bp 4)):=by kernel_rfl
def ayT:DK [] 8 (kA 10) (Ba .normal (B9 [5,7,8,9,10,11,14])) (BF P m W [] x)=some (BF P m W [(14,.int .i64 0)] x):=by kernel_rfl
def ayU:DK [] 8 (kB 10) (Ba .normal (B9 [5,7,8,9,10,11,14])) (BF P m W [(14,.int .i64 i)] x)=lf (Rb W) i (some (SV3 P m W [(14,.int .i64 (Ao (i+1)))] x (dM 4 2 (.int .i64 (-7)) i.toNat))):=by kernel_rfl
def ayV:DK [] 8 (kB 10) (Ba (.exit 4) (B9 [5,7,8,9,10,11])) (BF P m W [(14,.int .i64 i)] x)=lh (Rb W) i (some (BF P m W [] x)):=by kernel_rfl
def ayW:DK [] 8 (kA 11) (Ba .normal (B9 [5,7,8,9,10,11,15])) (BF P m W [] x)=some (BF P m W [(15,.int .i64 0)] x):=by kernel_rfl
def HO(p:List PE):Code:=kc (kR 11 ([.L,.R,.L,.L]++p))
def ael:kB 11=.seq (HO [.L]) (.seq (.block 7 (.seq (HO [.R,.L,.L,.L]) (.block 8 (.loop (HO [.R,.L,.L,.R,.L,.L]))))) (HO [.R,.R])):=by kernel_rfl
def ayX:DK [] 8 (HO [.L]) (Ba (.exit 6) (B9 [5,7,8,9,10,11])) (BF P m W [(15,.int .i64 i)] x)=dN (EK W) i (some (BF P m W [] x)):=by kernel_rfl
def ayY:DK [] 8 (HO [.L]) (Ba .normal (B9 [5,7,8,9,10,11,15])) (BF P m W [(15,.int .i64 i)] x)=bif decide (i<(EK W:Int))then some (BF P m W [(15,.int .i64 i)] x)else none:=by kernel_rfl
def awO:DK [] 8 (HO [.R,.L,.L,.L]) (Ba .normal (B9 [5,7,8,9,10,11,15,16])) (BF P m W [(15,.int .i64 i)] x)=some (BF P m W [(15,.int .i64 i),(16,.int .i64 0)] x):=by kernel_rfl
def awP:DK [] 8 (HO [.R,.R]) (Ba .normal (B9 [5,7,8,9,10,11,15])) (BF P m W [(15,.int .i64 i)] x)=some (BF P m W [(15,.int .i64 (Ao (i+1)))] x):=by kernel_rfl
variable (j:Nat)
def gJ(n j:Nat)(K:Option St):Option St:=rg (j:Int) n (bif(j:Int).toNat.blt n&&(j:Int).toNat.beq j then K else none)
def sk(n j:Nat)(K:Option St):Option St:=rg (j:Int) n (bif(j:Int).toNat.blt n then K else none)
def awQ:DK [] 8 (HO [.R,.L,.L,.R,.L,.L]) (Ba (.exit 8) (B9 [5,7,8,9,10,11,15])) (BF P m W [(15,.int .i64 j),(16,.int .i64 i)] x)=sk (EK W) j (bif decide (i<(nE W (j:Int).toNat:Int))then sk (EK W) j none else some (BF P m W [(15,.int .i64 j)] x)):=by kernel_rfl
def awR:DK [] 9 (HO [.R,.L,.L,.R,.L,.L]) (Ba .normal (B9 [5,7,8,9,10,11,15,16])) (Nh P m W j [(15,.int .i64 j),(16,.int .i64 i)] x λ_=>Bp 11) =
 gJ (EK W) j (bif decide (i<(nE W j:Int))then gJ (EK W) j (rg i (nE W j) (bif i.toNat.blt (nE W j)&&true then some (Nh P m W j [(15,.int .i64 j),(16,.int .i64 (Ao (i+1)))] x (dM 11 2 dK i.toNat))else none))else none):=by kernel_rfl
def awS:DK [] 9 (HO [.R,.L,.L,.R,.L,.L]) (Ba (.exit 8) (B9 [5,7,8,9,10,11,15])) (Nh P m W j [(15,.int .i64 j),(16,.int .i64 i)] x λ_=>Bp 11) =
 gJ (EK W) j (bif decide (i<(nE W j:Int))then gJ (EK W) j (rg i (nE W j) (bif i.toNat.blt (nE W j)&&true then none else none))else some (Nh P m W j [(15,.int .i64 j)] x λ_=>Bp 11)):=by kernel_rfl
end
section
variable (P:AG)
def pb3:BS:=.arr true 33 [Bp 11++(AY P.d.rep.tail.log::(Bp 6++(Bi P.d.clean::(Bp 1++(HQ P.d.waits::Bp 12)))))]
def SF(z:Fr):St:={fr:=k9 P z,hp:=[.dead,pb3 P]++(k6 P++[.dead,.dead,.dead,.dead])}
def lj(a:Nat)(K:Option St):Option St:=bif !decide ((a:Int)=(a:Int))then none else K
def ayZ:DK [] 0 (kq 12) (Ba .normal (B9 [5,7,8,9])) (SF P [])=lj (Lk P) (lj (Gb P) (lj (GJ P) (some (SF P [])))):=by kernel_rfl
variable (i:Int)
def awT:DK [] 0 (kA 13) (Ba .normal (B9 [5,7,8,9,17])) (SF P [])=some (SF P [(17,.int .i64 0)]):=by kernel_rfl
def awU:DK [] 0 (kB 13) (Ba .normal (B9 [5,7,8,9,17])) (SF P [(17,.int .i64 i)])=bif decide (i<(Lk P:Int))then rg i (Lk P) (bif A5 (P.d.rep.tail.log.getD i.toNat default).key [115,112,111,105,108,116]then none else some (SF P [(17,.int .i64 (Ao (i+1)))]))else none:=by kernel_rfl
def awV:DK [] 0 (kB 13) (Ba (.exit 10) (B9 [5,7,8,9])) (SF P [(17,.int .i64 i)])=bif decide (i<(Lk P:Int))then rg i (Lk P) (bif A5 (P.d.rep.tail.log.getD i.toNat default).key [115,112,111,105,108,116]then none else none)else some (SF P []):=by kernel_rfl
def iY(x:C4):Bool:=Db .f64 x.Ag.re x.Ag.re&&Db .f64 x.Ag.im x.Ag.im&&(decide (x.dst=x.dst)&&(decide (x.Ah=x.Ah)&&(decide (x.num=x.num)&&true)))
def iZ(x:AH):Bool:=A5 x.key x.key&&(A5 x.val x.val&&((bif x.has then x.has else !x.has)&&(Db .f64 x.Ag.re x.Ag.re&&Db .f64 x.Ag.im x.Ag.im&&true)))
def VV(n:Nat)(i:Int)(b:Bool)(K L:Option St):Option St:=bif decide (i<(n:Int))then rg i n (bif i.toNat.blt n then rg i n (bif !b then none else K)else none)else L
def awW:DK [] 0 (kA 14) (Ba .normal (B9 [5,7,8,9,18])) (SF P [])=some (SF P [(18,.int .i64 0)]):=by kernel_rfl
def awX:DK [] 0 (kB 14) (Ba .normal (B9 [5,7,8,9,18])) (SF P [(18,.int .i64 i)])=VV (Gb P) i (iY (P.d.waits.getD i.toNat default)) (some (SF P [(18,.int .i64 (Ao (i+1)))])) none:=by kernel_rfl
def awY:DK [] 0 (kB 14) (Ba (.exit 12) (B9 [5,7,8,9])) (SF P [(18,.int .i64 i)])=VV (Gb P) i (iY (P.d.waits.getD i.toNat default)) none (some (SF P [])):=by kernel_rfl
def awZ:DK [] 0 (kA 15) (Ba .normal (B9 [5,7,8,9,19])) (SF P [])=some (SF P [(19,.int .i64 0)]):=by kernel_rfl
def aw0:DK [] 0 (kB 15) (Ba .normal (B9 [5,7,8,9,19])) (SF P [(19,.int .i64 i)])=VV (GJ P) i (iZ (P.d.clean.getD i.toNat default)) (some (SF P [(19,.int .i64 (Ao (i+1)))])) none:=by kernel_rfl
def aw1:DK [] 0 (kB 15) (Ba (.exit 14) (B9 [5,7,8,9])) (SF P [(19,.int .i64 i)])=VV (GJ P) i (iZ (P.d.clean.getD i.toNat default)) none (some (SF P [])):=by kernel_rfl
def SFE:St:={fr:=[(4,.bool true)],hp:=(SF P []).hp}
def ay0:DK [] 0 (kc (kR 16 [])) (Ba .ret (B9 [4])) (SF P [])=some (SFE P):=by kernel_rfl
end
end Go.Hd
end
section
namespace Go.AM
section
variable {P:Program} {M m nt k:Nat} {I0:Nat->Prop} {hs hs':SO->Prop} {κ:Type}
def GK(M:Nat)(A:Df)(C:κ->Df)(X:(Exit->Act->World->Prop)->Act->World->Prop)(nt:Nat)(S:St)(e:AX)(T:κ->St):Prop:=
 ∀ w I φ a,BC w I φ S a->A w I φ S->nt<=a.tmps.size -> ∀ Q,(∀ y a' w' φ' I',nt<=a'.tmps.size->a'.defers=a.defers->BC w' I' φ' (T y) a'->C y w' I' φ' (T y)->Ext (λB=>M<=B) w w'->Q e.x a' w')->X Q a w
def LG.ja{A B:Df}{C:κ->Df}{x y:Code}{S S1:St}{T:κ->St}{e:AX}(h1:LG M A B (λQ=>x.wp P Q) nt S .normal S1)(h2:GK M B C (λQ=>y.wp P Q) nt S1 e T):GK M A C (λQ=>(Code.seq x y).wp P Q) nt S e T:=
 λw I φ a hs hA ha Q hQ=>wp_seq (h1 w I φ a hs hA ha _ λa1 w1 Dd I1 c1 c2 c3 c4 c5=>h2 w1 I1 Dd a1 c3 c4 c1 Q λz a2 w2 BO I2 d1 d2 d3 d4 d5=>
  hQ z a2 w2 BO I2 d1 (d2.trans c2) d3 d4 (c5.trans d5 λB hB=>.inl hB))
def LG.ij{A B:Df}{C:κ->Df}{X:(Exit->Act->World->Prop)->Act->World->Prop}{S S1:St}{T:κ->St}{e:AX}(h1:LG M A B X nt S e S1)(hr:∀ w I φ a,BC w I φ S1 a->B w I φ S1 -> ∃ y J φ',BC w J φ' (T y) a/\C y w J φ' (T y)):GK M A C X nt S e T:=
 λw I φ a hs hA ha Q hQ=>h1 w I φ a hs hA ha Q λa1 w1 Dd I1 c1 c2 c3 c4 c5=>by obtain⟨y,J,φ',s1,s2⟩:=hr w1 I1 Dd a1 c3 c4;exact hQ y a1 w1 φ' J c1 c2 s1 s2 c5
def GK.RD{A B:Df}{C:κ->Df}{X:(Exit->Act->World->Prop)->Act->World->Prop}{S S1:St}{T:κ->St}{e:AX}(hr:∀ w I φ a,BC w I φ S a->A w I φ S -> ∃ J φ',BC w J φ' S1 a/\B w J φ' S1)(h:GK M B C X nt S1 e T):GK M A C X nt S e T:=
 λw I φ a hs hA ha Q hQ=>by obtain⟨J,φ',s1,s2⟩:=hr w I φ a hs hA;exact h w J φ' a s1 s2 ha Q hQ
def LG.lk{A:Df}{C:κ->Df}{X:(Exit->Act->World->Prop)->Act->World->Prop}{S:St}{T:κ->St}{e:AX}(y:κ)(h:LG M A (C y) X nt S e (T y)):GK M A C X nt S e T:=
 λw I φ a hs hA ha Q hQ=>h w I φ a hs hA ha Q λa1 w1 Dd I1 c1 c2 c3 c4 c5=>hQ y a1 w1 Dd I1 c1 c2 c3 c4 c5
def PO(k m M:Nat)(I0:Nat->Prop)(hs:SO->Prop):Df:=λw I φ S=>PX k m M I0 hs w I φ S /\ ∃ B o s,φ k=some (B,o,s)/\m<=B
def Bg.po{base:Nat}{X:(Exit->Act->World->Prop)->Act->World->Prop}{S T:St}{e:AX}(h:Bg X nt base S e T)(hl:base<=S.hp.length)(hm:∀ b,AZ (Ab T.hp b)=AZ (Ab S.hp b))(hb:∀ b,AZ (Ab S.hp b)=true->b<base)(hk:k<base) :
  LG M (PO k m M I0 hs) (PO k m M I0 hs) X nt S e T:=
 λw I φ a hs hA ha Q hQ=>(h hl).2 w I φ a hs ha Q λa' w' φ' I' c1 c2 c3 c4=>by obtain⟨g1,g2⟩:=c4.px c3.hh hm hb hA.1;obtain⟨B,o,s,e1,e2⟩:=hA.2;exact hQ a' w' φ' I' c1 c2 c3 ⟨g1,B,o,s,c4.le k _ hk e1,e2⟩ g2
def yg{S S8:St}{h0:SO}{hp8:Heap}(hk:S.hp.length=k)(Mc:hs h0)(hn:0<h0.n)(hz:2<=h0.sz)(sr:S8.hp=hp8++[.seq true h0.sz h0.n λ_=>Sm h0.sz])(hl:hp8.length=k)
  (hx1:∀ (w:World) (I:Nat->Prop) (φ:Ac) b,b<k->Dv w I (Qx m I) φ (Ab S.hp b) (Ab S.hp b))
  (QV:∀ (w:World) (J:Nat->Prop) (φ:Ac) b B q,b<k->φ k=some (B,q,h0.sz)->h0.a=some ⟨B,q,none⟩->h0.n<=h0.c->q+h0.c*h0.sz<=Bv w B->Dv w J J φ (Ab S.hp b) (Ab hp8 b))
  (hf:∀ t,Bb S8.fr t=Bb S.fr t/\jf (Bb S.fr t)=true\/Bb S8.fr t=.undef)
  (w:World) (I:Nat->Prop) (φ:Ac) (a:Act) (Cr:BC w I φ S a) (hP:PX k m M I0 hs w I φ S):∃ J φ',BC w J φ' S8 a/\PO k m M I0 hs w J φ' S8:=by
 obtain⟨B,q,e1,e2,e3,e4,e5,e6,e7,e8⟩:=hP.2 h0 Mc hn;have bm:0<Bv w B:=by have:1*1<=h0.c*h0.sz:=RG (by omega) (by omega);omega
 have r1:RH w (Qx m I) φ (Ab S.hp):=Cr.hh.sub (λB hB=>hB.1) rfl λb hb=>hx1 w I φ b (by omega);have r2:=r1.bind (x:=.seq true h0.sz h0.n λ_=>Sm h0.sz) (B:=B) (q:=q) (sz:=h0.sz) rfl (λφ' _=>RB.Bp e6 e2 e7 bm (by omega)) (λhB=>by have:=hB.2;omega) λb hm o s=>e8 b (λhb=>by rw[Gw (by omega)]at hm;cases hm) hm o s;rw[hk]at r2;have O1:φ k=Option.none:=Cr.hh.none k (Gw (by omega));have le:=Ac.PH O1 (B,q,h0.sz);have XZ:φ.set k (B,q,h0.sz) k=some (B,q,h0.sz):=Ac.E5 _ _ _;have g1:∀ b,b<k->Ab (S.hp++[.seq true h0.sz h0.n λ_=>Sm h0.sz]) b=Ab S.hp b:=λb hb=>by simp[Ab,List.getD,DY (show b<S.hp.length by omega)]
 have g2:∀ b,b<k->Ab S8.hp b=Ab hp8 b:=λb hb=>by rw[sr];simp[Ab,List.getD,DY (show b<hp8.length by omega)]
 have g3:Ab (S.hp++[.seq true h0.sz h0.n λ_=>Sm h0.sz]) k=.seq true h0.sz h0.n λ_=>Sm h0.sz:=by subst hk;simp[Ab,List.getD]
 have g4:Ab S8.hp k=.seq true h0.sz h0.n λ_=>Sm h0.sz:=by rw[sr];subst hl;simp[Ab,List.getD]
 have rt:∀ b,b<k->Dv w (Qx m I) (Qx m I) (φ.set k (B,q,h0.sz)) (Ab S.hp b) (Ab S8.hp b):=λb hb=>by rw[g2 b hb];exact QV w _ _ b B q hb XZ e1 e2 e7
 have r3:RH w (Qx m I) (φ.set k (B,q,h0.sz)) (Ab S8.hp):=r2.sub (λB hB=>hB) (by rw[sr];simp;omega) λb hb=>by
  have hb:b<k+1:=by simpa [hk] using hb
  by_cases JY:b<k
  ·rw[g1 b JY];exact rt b JY
  ·have:b=k:=by omega
   subst this;rw[g3,g4];exact .inr ⟨rfl,rfl,id,λ_ _ _ r=>r⟩
 have Ni:∀ b,b ≠ k->AZ (Ab S8.hp b)=true->b<k/\AZ (Ab S.hp b)=true:=λb JY hm=>by
  have hb:b<k:=by
   rcases Cj b k with x | x
   ·exact x
   ·rw[Gw (by rw[sr];simp;omega)]at hm;cases hm
  refine⟨hb,?_⟩;rcases rt b hb with x | ⟨x,_⟩
  ·rw[x]at hm;cases hm
  ·exact x
 refine⟨Qx m I,φ.set k (B,q,h0.sz),⟨r3,λt=>?_⟩,⟨⟨hP.1.1,λB' hB'=>?_,λB' hB'=>hP.1.2.2 B' hB'.1⟩,λh hh hhn=>?_⟩,B,q,h0.sz,XZ,e3⟩
 ·rcases hf t with ⟨x,hj⟩ | x
  ·show RV _ _ _ (Bb S8.fr t) _;rw[x];exact((Cr.fr t).jf _ hj).mono (λB hB=>⟨hB,rfl⟩) (λ_=>Ar _) le
  ·show RV _ _ _ (Bb S8.fr t) _;rw[x];exact .undef _
 ·obtain⟨b,o,s,m1,m2⟩:=hB';by_cases JY:b=k
  ·subst JY;rw[XZ]at m2;cases m2;exact⟨e4,e6⟩
  ·rw[Ac.Rv _ _ JY]at m2;exact hP.1.2.1 B' ⟨b,o,s,(Ni b JY m1).2,m2⟩
 ·obtain⟨B',q',f1,f2,f3,f4,f5,f6,f7,f8⟩:=hP.2 h hh hhn;exact⟨B',q',f1,f2,f3,f4,f5,f6,f7,λb JY hm o s=>by rw[Ac.Rv _ _ JY];exact f8 b JY (Ni b JY hm).2 o s⟩
def w8{T8 T9:St}(w:World)(I:Nat->Prop)(φ:Ac)(a:Act)(Cr:BC w I φ T8 a)(hP:PO k m M I0 hs w I φ T8)(hm8:AZ (Ab T8.hp k)=true)(hl:T8.hp.length=T9.hp.length)(hT:∀ b,b<T8.hp.length->K4 w I I φ b (Ab T8.hp b) (Ab T9.hp b))(Ij:T9.fr=T8.fr)
  (hh:∀ h,hs' h->0<h.n->hs h\/(2<=h.sz /\ ∃ B q,h.a=some ⟨B,q,none⟩/\φ k=some (B,q,h.sz)/\h.n<=h.c/\q+h.c*h.sz<=Bv w B)):BC w I φ T9 a/\PX k m M I0 hs' w I φ T9:=by
 have Ni:∀ b,AZ (Ab T9.hp b)=true->AZ (Ab T8.hp b)=true:=λb hm=>by
  have hb:b<T8.hp.length:=by
   rcases Cj b T8.hp.length with x | x
   ·exact x
   ·rw[Gw (by omega)]at hm;cases hm
  rcases hT b hb with x | ⟨x,_⟩
  ·rw[x]at hm;cases hm
  ·exact x
 refine⟨⟨Cr.hh.tell (λB ⟨b,o,s,e1,e2⟩ hB=>Cr.hh.CP b B o s e1 e2 hB) (λB hB=>Cr.hh.lt B hB) hl hT,by rw[Ij];exact Cr.fr⟩,⟨⟨hP.1.1.1,λB ⟨b,o,s,e1,e2⟩=>hP.1.1.2.1 B ⟨b,o,s,Ni b e1,e2⟩,hP.1.1.2.2⟩,λh cr hn=>?_⟩⟩;rcases hh h cr hn with x | ⟨hz,B,q,e1,e2,e3,e4⟩
 ·obtain⟨B',q',f1,f2,f3,f4,f5,f6,f7,f8⟩:=hP.1.2 h x hn;exact⟨B',q',f1,f2,f3,f4,f5,f6,f7,λb JY hm=>f8 b JY (Ni b hm)⟩
 ·obtain⟨B2,o2,s2,p1,p2⟩:=hP.2;rw[e2]at p1;cases p1;have hM:=hP.1.1.2.1 B ⟨k,q,h.sz,hm8,e2⟩;have bm:0<Bv w B:=by
   have:1*1<=h.c*h.sz:=RG (by omega) (by omega);omega
  exact⟨B,q,e1,e3,p2,hM.1,acU bm,hM.2,e4,λb JY hm o s e=>JY (Cr.hh.inj b k B o s q h.sz (Ni b hm) hm8 e e2)⟩
def yh{T9:St}(l:List Nat)(w:World)(I:Nat->Prop)(φ:Ac)(a:Act)(Cr:BC w I φ T9 a)(hP:PX k m M I0 hs w I φ T9)(hl:k<=T9.hp.length)(hm:∀ b,AZ (Ab (norm k l T9).hp b)=AZ (Ab T9.hp b))(hb:∀ b,AZ (Ab T9.hp b)=true->b<k) :
  ∃ φ',BC w I φ' (norm k l T9) a/\PX k m M I0 hs w I φ' (norm k l T9):=by
 obtain⟨_,φ',n2,n3⟩:=Rp k l Cr hl;exact⟨φ',n2,(n3.px n2.hh hm hb hP).1⟩
end
section
variable {w:World} {I:Nat->Prop} {φ:Ac} {k:Nat}
def K4.refl{b:Nat}{x:BS}(h:AZ x=true\/x=.dead):K4 w I I φ b x x:=h.elim (λh=>.inr ⟨h,h,id,λ_ _ _ _ r=>r⟩) .inl
def aem{hp:Heap}(h:RH w I φ (Ab hp)){b s j n sz:Nat}{cs:List AV}(hb:Ab hp b=.arr true s [cs])(hj:cs[j]? = some (.sn sz k n))(hn:0<n) :
  ∃ B q c,φ k=some (B,q,sz)/\n<=c/\q+c*sz<=Bv w B/\K4 w I I φ b (.arr true s [cs]) (.arr true s [cs.set j (.hd (some ⟨B,q,none⟩) n c)]):=by
 obtain⟨B0,o0,s0,e,r⟩:=(h.CY b (by rw[hb];rfl)).resolve_right λx=>by have:=x.2;rw[hb]at this;exact this
 rw[hb]at r;obtain⟨a0,a1,a2,a3⟩:=r;obtain⟨u,g1,g2,g3⟩:=a3 0 cs j _ rfl hj;cases g3 with
 | DT=>exact absurd hn (DP 0)
 | sn _ _ _ B q c AI hl hz=>
  refine⟨B,q,c,AI,hl,hz,.inr ⟨rfl,rfl,id,λB1 o1 s1 e1 r1=>?_⟩⟩;rw[e]at e1;cases e1;refine⟨a0,a1,λi x ex=>?_,λi x k' c' ex ec=>?_⟩
  ·cases i with
   | zero=>simp at ex;subst ex;rw[XD];exact a2 0 cs rfl
   | succ i=>simp at ex
  ·cases i with
   | zero=>
    simp at ex;subst ex;by_cases hk:k'=j
    ·subst hk;have hlt:=(GO.1 hj).1;rw[List.getElem?_set_self hlt]at ec;cases ec;exact⟨_,g1,g2,.hd _ _ _⟩
    ·rw[List.getElem?_set_ne (λx=>hk x.symm)]at ec;exact a3 0 cs k' c' rfl ec
   | succ i=>simp at ex
def arD{hp:Heap}(h:RH w I φ (Ab hp)){b s j n sz m0 i0:Nat}{f:Nat->List AV}{c0:List AV}{ks:List Nat}{cur:Bool}(hb:Ab hp b=.Cb true s m0 f i0 c0 ks cur)(hi:i0<m0)(hj:c0[j]? = some (.sn sz k n))(hn:0<n)
  (hf:∀ i,(f i).all Ed=true) (hc:∀ k' c',k' ≠ j->c0[k']? = some c'->Ed c'=true) :
  ∃ B q c,φ k=some (B,q,sz)/\n<=c/\q+c*sz<=Bv w B/\K4 w I I φ b (.Cb true s m0 f i0 c0 ks cur) (.seq true s m0 λi=>bif Nat.beq i i0 then c0.set j (.hd (some ⟨B,q,none⟩) n c)else f i):=by
 obtain⟨B0,o0,s0,e,r⟩:=(h.CY b (by rw[hb];rfl)).resolve_right λx=>by have:=x.2;rw[hb]at this;exact this
 rw[hb]at r;obtain⟨a0,a1,a2,a3⟩:=r;have hx:DF f i0 c0 i0=c0:=by unfold DF;rw[show Nat.beq i0 i0=true from Nat.beq_refl i0];rfl
 obtain⟨u,g1,g2,g3⟩:=a3 i0 j _ hi (by rw[hx];exact hj);have hlt:=(GO.1 hj).1;cases g3 with
 | DT=>exact absurd hn (DP 0)
 | sn _ _ _ B q c AI hl hz=>
  refine⟨B,q,c,AI,hl,hz,.inr ⟨rfl,rfl,λx=>x.elim,λB1 o1 s1 e1 r1=>?_⟩⟩;rw[e]at e1;cases e1;have cs:∀ i,(i=i0/\DF f i0 c0 i=c0/\(bif Nat.beq i i0 then c0.set j (.hd (some ⟨B,q,none⟩) n c)else f i)=c0.set j (.hd (some ⟨B,q,none⟩) n c))\/(i ≠ i0/\DF f i0 c0 i=f i/\(bif Nat.beq i i0 then c0.set j (.hd (some ⟨B,q,none⟩) n c)else f i)=f i):=λi=>by
   by_cases hi:i=i0
   ·subst hi;exact .inl ⟨rfl,hx,by rw[show Nat.beq i i=true from Nat.beq_refl i];rfl⟩
   ·have:Nat.beq i i0=false:=by
     cases h':Nat.beq i i0 with
     | false=>rfl
     | true=>exact absurd (BN h') hi
    exact .inr ⟨hi,by unfold DF;rw[this];rfl,by rw[this];rfl⟩
  refine⟨a0,a1,λi JV=>?_,λi k' c' JV ec=>?_⟩
  ·have:=a2 i JV;dsimp only;rcases cs i with ⟨x1,x2,x3⟩ | ⟨x1,x2,x3⟩
   ·rw[x3,XD];rw[x2]at this;exact this
   ·rw[x3];rw[x2]at this;exact this
  ·dsimp only at ec;rcases cs i with ⟨x1,x2,x3⟩ | ⟨x1,x2,x3⟩
   ·rw[x3]at ec;by_cases hk:k'=j
    ·subst hk;rw[List.getElem?_set_self hlt]at ec;cases ec;subst x1;exact⟨_,g1,g2,.hd _ _ _⟩
    ·rw[List.getElem?_set_ne (λx=>hk x.symm)]at ec;obtain⟨u',y1,y2,y3⟩:=a3 i k' c' JV (by rw[x2];exact ec);exact⟨u',y1,y2,y3.free (hc k' c' hk ec)⟩
   ·rw[x3]at ec;obtain⟨u',y1,y2,y3⟩:=a3 i k' c' JV (by rw[x2];exact ec);exact⟨u',y1,y2,y3.free (HA.1 (hf i) c' (Dy ec))⟩
def Dv.arE{s m0 i0 j sz n c B q:Nat}{a:Option Addr}{f:Nat->List AV}{c0:List AV}{ks:List Nat}{cur:Bool}(MJ:c0=(f i0).set j (.sn sz k n))(hj:(f i0)[j]? = some (.hd a n c))
  (AI:φ k=some (B,q,sz)) (ha:a=some ⟨B,q,none⟩) (hn:n<=c) (hz:q+c*sz<=Bv w B) (hi0:i0<m0):Dv w I I φ (.seq true s m0 f) (.Cb true s m0 f i0 c0 ks cur):=by
 refine(.inr ⟨rfl,rfl,λx=>?_,λB0 o s0 r=>?_⟩)
 ·have x:m0=0:=x;omega
 obtain⟨a0,a1,a2,a3⟩:=r;have hlt:=(GO.1 hj).1;have cs:∀ i,(i=i0/\DF f i0 c0 i=(f i0).set j (.sn sz k n))\/(DF f i0 c0 i=f i):=λi=>by
  by_cases hi:i=i0
  ·subst hi;exact .inl ⟨rfl,by unfold DF;rw[show Nat.beq i i=true from Nat.beq_refl i];exact MJ⟩
  ·have:Nat.beq i i0=false:=by
    cases h':Nat.beq i i0 with
    | false=>rfl
    | true=>exact absurd (BN h') hi
   exact .inr (by unfold DF;rw[this];rfl)
 refine⟨a0,a1,λi hi=>?_,λi k' c' hi ec=>?_⟩
 ·rcases cs i with ⟨x1,x2⟩ | x2
  ·rw[x2,XD];exact a2 i0 hi0
  ·rw[x2];exact a2 i hi
 ·rcases cs i with ⟨x1,x2⟩ | x2
  ·rw[x2]at ec;subst x1;by_cases hk:k'=j
   ·subst hk;rw[List.getElem?_set_self hlt]at ec;cases ec;obtain⟨u,y1,y2,y3⟩:=a3 i k' _ hi hj;exact⟨u,y1,y2,HM.open (I:=I) (J:=I) AI ha hn hz u (y3.mono (λB hB=>⟨hB,rfl⟩) (λ_=>Ar _) (Ac.IZ φ))⟩
   ·rw[List.getElem?_set_ne (λx=>hk x.symm)]at ec;obtain⟨u,y1,y2,y3⟩:=a3 i k' c' hi ec;exact⟨u,y1,y2,y3.mono (λB hB=>⟨hB,rfl⟩) (λ_=>Ar _) (Ac.IZ φ)⟩
  ·rw[x2]at ec;obtain⟨u,y1,y2,y3⟩:=a3 i k' c' hi ec;exact⟨u,y1,y2,y3.mono (λB hB=>⟨hB,rfl⟩) (λ_=>Ar _) (Ac.IZ φ)⟩
end
section
variable {P:Program} {M m nt k:Nat} {I0:Nat->Prop} {hs hs':SO->Prop} {ι κ ν:Type}
def GK.ay1{A:Df}{B:κ->Df}{C:ν->Df}{x y:Code}{S:St}{S1:κ->St}{T:ν->St}{e:AX}(h1:GK M A B (λQ=>x.wp P Q) nt S .normal S1)(h2:∀ z,GK M (B z) C (λQ=>y.wp P Q) nt (S1 z) e T):GK M A C (λQ=>(Code.seq x y).wp P Q) nt S e T:=
 λw I φ a hs hA ha Q hQ=>wp_seq (h1 w I φ a hs hA ha _ λz a1 w1 Dd I1 c1 c2 c3 c4 c5=>h2 z w1 I1 Dd a1 c3 c4 c1 Q λz2 a2 w2 BO I2 d1 d2 d3 d4 d5=>
  hQ z2 a2 w2 BO I2 d1 (d2.trans c2) d3 d4 (c5.trans d5 λB hB=>.inl hB))
def GK.jb{A:Df}{B:κ->Df}{C:Df}{x y:Code}{S:St}{S1:κ->St}{T:St}{e:AX}(h1:GK M A B (λQ=>x.wp P Q) nt S .normal S1)(h2:∀ z,LG M (B z) C (λQ=>y.wp P Q) nt (S1 z) e T):LG M A C (λQ=>(Code.seq x y).wp P Q) nt S e T:=
 λw I φ a hs hA ha Q hQ=>wp_seq (h1 w I φ a hs hA ha _ λz a1 w1 Dd I1 c1 c2 c3 c4 c5=>h2 z w1 I1 Dd a1 c3 c4 c1 Q λa2 w2 BO I2 d1 d2 d3 d4 d5=>
  hQ a2 w2 BO I2 d1 (d2.trans c2) d3 d4 (c5.trans d5 λB hB=>.inl hB))
def GK.block{A:Df}{C:κ->Df}{x:Code}{id:Nat}{S:St}{T:κ->St}(h:GK M A C (λQ=>x.wp P Q) nt S (.exit id) T):GK M A C (λQ=>(Code.block id x).wp P Q) nt S .normal T:=
 λw I φ a hs hA ha Q hQ=>Nz (h w I φ a hs hA ha _ λy a' w' φ' I' c1 c2 c3 c4 c5=>by simp only[AX.x,Exit.inBlock,IW];exact hQ y a' w' φ' I' c1 c2 c3 c4 c5)
def GK.U2{A:Df}{C:κ->Df}{x:Code}{id:Nat}{S:St}{T:κ->St}(h:GK M A C (λQ=>x.wp P Q) nt S .normal T):GK M A C (λQ=>(Code.block id x).wp P Q) nt S .normal T:=
 λw I φ a hs hA ha Q hQ=>Nz (h w I φ a hs hA ha _ hQ)
def LG.block{A C:Df}{x:Code}{id:Nat}{S T:St}(h:LG M A C (λQ=>x.wp P Q) nt S (.exit id) T):LG M A C (λQ=>(Code.block id x).wp P Q) nt S .normal T:=
 λw I φ a hs hA ha Q hQ=>Nz (h w I φ a hs hA ha _ λa' w' φ' I' c1 c2 c3 c4 c5=>by simp only[AX.x,Exit.inBlock,IW];exact hQ a' w' φ' I' c1 c2 c3 c4 c5)
def LG.mO{A C:Df}{x y:Code}{id:Nat}{S T:St}(h:LG M A C (λQ=>x.wp P Q) nt S (.exit id) T):LG M A C (λQ=>(Code.seq x y).wp P Q) nt S (.exit id) T:=
 λw I φ a hs hA ha Q hQ=>wp_seq (h w I φ a hs hA ha _ hQ)
def LG.Nt{A C:Df}{x y:Code}{S T:St}(h:LG M A C (λQ=>x.wp P Q) nt S .ret T):LG M A C (λQ=>(Code.seq x y).wp P Q) nt S .ret T:=
 λw I φ a hs hA ha Q hQ=>wp_seq (h w I φ a hs hA ha _ hQ)
def LG.loop{A C:Df}{x:Code}{e0:AX}(he:e0 ≠ .normal){n:Nat}(S:Nat->St){T:St}(Kf:∀ j,j<n->LG M A A (λQ=>x.wp P Q) nt (S j) .normal (S (j+1)))(ON:LG M A C (λQ=>x.wp P Q) nt (S n) e0 T) :
  LG M A C (λQ=>(Code.loop x).wp P Q) nt (S 0) e0 T:=by
 have:=Mk.loop (M:=M) (nt:=nt) (P:=P) (A:=λ_:Unit=>A) (C:=λ_:Unit=>C) (x:=x) he (n:=n) (λj _=>S j) (T:=λ_=>T)
  (λj hj=>.of λ_=>Kf j hj) (.of λ_=>ON)
 exact λw I φ a hs hA ha Q hQ=>this () w I φ a hs hA ha Q λ_=>hQ
def Mk.ofE{A:ι->Df}{C:κ->Df}{X:(Exit->Act->World->Prop)->Act->World->Prop}{S:ι->St}{T:κ->St}{e:AX}(h:∀ x,GK M (A x) C X nt (S x) e T):Mk M A C X nt S e T:=λx=>h x
def Mk.at{A:ι->Df}{C:κ->Df}{X:(Exit->Act->World->Prop)->Act->World->Prop}{S:ι->St}{T:κ->St}{e:AX}(h:Mk M A C X nt S e T)(x:ι):GK M (A x) C X nt (S x) e T:=h x
def al{hp:Heap}{b:Nat}(h:AZ (Ab hp b)=true):b<hp.length:=by
 rcases Cj b hp.length with x | x
 ·exact x
 ·rw[Gw x]at h;cases h
def aen{t:Nat}:∀ {fr:Fr},fr.all (λx=>jf x.2)=true->jf (Bb fr t)=true
 | [],_=>rfl
 | (s,v)::r,h=>by
  simp only[List.all_cons,My]at h;unfold Bb;cases Nat.beq s t with
  | true=>exact h.1
  | false=>exact aen h.2
def Dv.refl{w:World}{I:Nat->Prop}{φ:Ac}{x:BS}(h:AZ x=true\/x=.dead):Dv w I I φ x x:=h.elim (λh=>.inr ⟨h,h,id,λ_ _ _ r=>r⟩) .inl
def nj{S S':St}(hl:S.hp.length=S'.hp.length)(hx:∀ (w:World) (I:Nat->Prop) (φ:Ac) b,b<S.hp.length->Dv w I I φ (Ab S.hp b) (Ab S'.hp b))(hf:∀ t,Bb S'.fr t=Bb S.fr t\/Bb S'.fr t=.undef){w:World}{I:Nat->Prop}{φ:Ac}{a:Act}(Cr:BC w I φ S a) :
  BC w I φ S' a/\(PX k m M I0 hs w I φ S->PX k m M I0 hs w I φ S'):=by
 have Ni:∀ b,AZ (Ab S'.hp b)=true->AZ (Ab S.hp b)=true:=λb hm=>by
  have hb:b<S.hp.length:=by rw[hl];exact al hm
  rcases hx w I φ b hb with x | ⟨x,_⟩
  ·rw[x]at hm;cases hm
  ·exact x
 refine⟨⟨Cr.hh.sub (λB hB=>hB) hl (hx w I φ),λt=>?_⟩,λ⟨⟨p1,p2,p3⟩,p4⟩=>⟨⟨p1,λB ⟨b,o,s,e1,e2⟩=>p2 B ⟨b,o,s,Ni b e1,e2⟩,p3⟩,λh hh hn=>?_⟩⟩
 ·rcases hf t with x | x
  ·show RV _ _ _ (Bb S'.fr t) _;rw[x];exact Cr.fr t
  ·show RV _ _ _ (Bb S'.fr t) _;rw[x];exact .undef _
 ·obtain⟨B,q,f1,f2,f3,f4,f5,f6,f7,f8⟩:=p4 h hh hn;exact⟨B,q,f1,f2,f3,f4,f5,f6,f7,λb JY hm=>f8 b JY (Ni b hm)⟩
def amA{S S':St}(hl:S.hp.length=S'.hp.length)(hx:∀ (w:World) (I:Nat->Prop) (φ:Ac) b,b<S.hp.length->Dv w I I φ (Ab S.hp b) (Ab S'.hp b))(hf:∀ t,Bb S'.fr t=Bb S.fr t\/Bb S'.fr t=.undef):Ow (PX k m M I0 hs) (PX k m M I0 hs) S S':=
 λw I φ a Cr hP=>⟨I,φ,(nj (k:=k) (m:=m) (M:=M) (I0:=I0) (hs:=hs) hl hx hf Cr).1,(nj hl hx hf Cr).2 hP⟩
def ug{S S':St}(hl:S.hp.length=S'.hp.length)(hx:∀ (w:World) (I:Nat->Prop) (φ:Ac) b,b<S.hp.length->Dv w I I φ (Ab S.hp b) (Ab S'.hp b))(hf:∀ t,Bb S'.fr t=Bb S.fr t\/Bb S'.fr t=.undef):Ow (PO k m M I0 hs) (PO k m M I0 hs) S S':=
 λw I φ a Cr hP=>⟨I,φ,(nj (k:=k) (m:=m) (M:=M) (I0:=I0) (hs:=hs) hl hx hf Cr).1,(nj hl hx hf Cr).2 hP.1,hP.2⟩
end
end Go.AM
end
section
open Go Go.AM Go.Md
namespace Go.Hd
open Go.Wk
def OY:AD (kA 8)=true/\AD (kB 8)=true/\AD (kA 9)=true/\AD (kB 9)=true/\AD (kA 10)=true/\AD (kB 10)=true/\AD (kA 11)=true/\AD (HO [.L])=true/\AD (HO [.R,.L,.L,.L])=true/\AD (HO [.R,.R])=true/\AD (HO [.R,.L,.L,.R,.L,.L])=true:=
 ⟨by kernel_rfl,by kernel_rfl,by kernel_rfl,by kernel_rfl,by kernel_rfl,by kernel_rfl,by kernel_rfl,by kernel_rfl,by kernel_rfl,by kernel_rfl,by kernel_rfl⟩
def DE:DH PG (Zl []):=Gd AR
abbrev runK:Gh St:=Dl (Zl []) 5
def DN:EN PG runK:=Iw DE Gc mixed 5
def w9{n j:Nat}{K:Option St}(h:j<n):lf n (j:Int) K=K:=by unfold lf;rw[Ax (show((j:Nat):Int)<(n:Int) by omega),Ae,B8 h,BV,show Nat.blt j n=true from ay h];rfl
def afD{n:Nat}{K:Option St}:dN n (n:Int) K=K:=by unfold dN;rw[AN (Int.lt_irrefl _)];rfl
def xa{n:Nat}{K:Option St}:lh n (n:Int) K=K:=by unfold lh;rw[AN (Int.lt_irrefl _)];rfl
section
variable (P:AG) (m M:Nat) (I0:Nat->Prop) (W:Ai)
def WJ(x:HX)(h:SO):Prop:=h=⟨x.la,FP W,x.lc,11⟩\/h=⟨x.ca,FQ W,x.cc,4⟩ \/ ∃ j,j<EK W/\h=⟨x.A j,nE W j,x.C j,11⟩
abbrev PW(x:HX):Df:=PX 8 m M I0 (WJ W x)
abbrev OW(x:HX):Df:=PO 8 m M I0 (WJ W x)
variable {P m W}
def xb(z:Fr)(hz:z.all (λx=>jf x.2)=true)(t:Nat):jf (Bb (SP P W z) t)=true:=aen (by show(List.all _ _)=true;unfold SP k9;rw[List.all_append,List.all_append,hz];rfl)
variable {w:World} {I J:Nat->Prop} {φ:Ac}
def at9:Dv w I (Qx m I) φ (ld P m) (ld P m):=
 .arr (.append (.jf (cs:=Bp 11) rfl) (.cons (.mk1 λi _=>rfl) (.append (.jf (cs:=Bp 6) rfl) (.cons (.mk1 λi _=>rfl) (.append (.jf (cs:=Bp 1) rfl) (.cons (.mk1 λi _=>rfl) (.jf rfl)))))))
def xc(o d:BS)(ho:Dv w I (Qx m I) φ o o)(hd:Dv w I (Qx m I) φ d d):∀ b,b<8->Dv w I (Qx m I) φ (Ab (IN P m W o d) b) (Ab (IN P m W o d) b)
 | 0,_=>.inl rfl
 | 1,_=>at9
 | 2,_=>.seq λi _=>.jf rfl
 | 3,_=>.seq λi _=>.jf rfl
 | 4,_=>.seq λi _=>.jf rfl
 | 5,_=>.inl rfl
 | 6,_=>ho
 | 7,_=>hd
 | n+8,hb=>absurd hb (by omega)
def xd(x:HX):Dv w I J φ (NV W x) (NV W x):=.seq λi _=>.jf rfl
def yi(a:Option Addr)(c n:Nat)(a':Option Addr)(c' n':Nat):Dv w I J φ (Nc W (.hd a n c) (.hd a' n' c')) (Nc W (.hd a n c) (.hd a' n' c')):=.arr (.jf rfl)
def vV(o d o' d':BS)(ho:Dv w I I φ o o')(hd:Dv w I I φ d d'):∀ b,b<8->Dv w I I φ (Ab (IN P m W o d) b) (Ab (IN P m W o' d') b)
 | 0,_=>.inl rfl
 | 1,_=>.refl (.inl rfl)
 | 2,_=>.refl (.inl rfl)
 | 3,_=>.refl (.inl rfl)
 | 4,_=>.refl (.inl rfl)
 | 5,_=>.inl rfl
 | 6,_=>ho
 | 7,_=>hd
 | n+8,hb=>absurd hb (by omega)
def yj(o d o' d':BS)(x:BS)(ho:K4 w I I φ 6 o o')(hd:K4 w I I φ 7 d d'):∀ b,b<9->K4 w I I φ b (Ab (IN P m W o d++[x]) b) (Ab (IN P m W o' d'++[.dead]) b)
 | 0,_=>.inl rfl
 | 1,_=>.refl (.inl rfl)
 | 2,_=>.refl (.inl rfl)
 | 3,_=>.refl (.inl rfl)
 | 4,_=>.refl (.inl rfl)
 | 5,_=>.inl rfl
 | 6,_=>ho
 | 7,_=>hd
 | 8,_=>.inl rfl
 | n+9,hb=>absurd hb (by omega)
def oy{n sz k:Nat}{v:AV}{i:Nat}(h:(setAt (Bp sz) k [v]).length=sz):Dv w I I φ (.seq true sz n (dM sz k v i)) (.seq true sz n λ_=>Bp sz):=
 .seq λi' _=>by
  unfold dM;cases Nat.beq i' i with
  | true=>
   refine⟨by rw[Ae,h];exact aw ..,λk' c e=>?_⟩;have hk:k'<sz:=by have:=(GO.1 e).1;simpa [Bp] using this
   have:c=.undef:=(List.mem_replicate.1 (Dy e)).2;subst this;rw[Ae];exact⟨_,BR (by rw[h];exact hk),.undef⟩
  | false=>exact⟨rfl,λk' c e=>⟨c,e,λu h=>h⟩⟩
def yk(o d:BS)(x x':BS)(ho:AZ o=true)(hd:AZ d=true)(h:Dv w I I φ x x'):∀ b,b<9->Dv w I I φ (Ab (IN P m W o d++[x]) b) (Ab (IN P m W o d++[x']) b)
 | 0,_=>.inl rfl
 | 1,_=>.refl (.inl rfl)
 | 2,_=>.refl (.inl rfl)
 | 3,_=>.refl (.inl rfl)
 | 4,_=>.refl (.inl rfl)
 | 5,_=>.inl rfl
 | 6,_=>.refl (.inl ho)
 | 7,_=>.refl (.inl hd)
 | 8,_=>h
 | n+9,hb=>absurd hb (by omega)
variable {M I0}
def ay2(z:Fr)(hz:z.all (λx=>jf x.2)=true)(x:HX)(hn:0<FP W)(w:World)(I:Nat->Prop)(φ:Ac)(a:Act)(Cr:BC w I φ (BF P m W z x) a)(hP:PW m M I0 W x w I φ (BF P m W z x)) :
  ∃ J φ',BC w J φ' (Nf P m W z x λ_=>Bp 11) a/\OW m M I0 W x w J φ' (Nf P m W z x λ_=>Bp 11):=
 yg (k:=8) (hs:=WJ W x) (S:=BF P m W z x) (S8:=Nf P m W z x λ_=>Bp 11) (h0:=⟨x.la,FP W,x.lc,11⟩) (hp8:=IN P m W (NV W x) (Nc W (.sn 11 8 (FP W)) (.hd x.ca (FQ W) x.cc))) rfl (.inl rfl) hn (show 2<=11 by omega) rfl rfl
  (λw I φ b hb=>xc _ _ (xd x) (yi ..) b hb)
  (λw J φ b B q hb e1 e2 e3 e4=>vV _ _ _ _ (.refl (.inl rfl)) (.arr (.append (.jf (cs:=Bp 11) rfl) (.cons (.open e1 e2 e3 e4) (.jf rfl)))) b hb)
  (λt=>.inl ⟨rfl,xb z hz t⟩) w I φ a Cr hP
def ay3(x:HX)(hn:0<FP W)(w:World)(I:Nat->Prop)(φ:Ac)(a:Act)(Cr:BC w I φ (Nf P m W [] x λ_=>Bp 11) a)(hP:OW m M I0 W x w I φ (Nf P m W [] x λ_=>Bp 11)) :
  ∃ y J φ',BC w J φ' (BF P m W [] y) a/\PW m M I0 W y w J φ' (BF P m W [] y):=by
 obtain⟨B,q,c,e1,e2,e3,e4⟩:=aem (k:=8) (b:=7) (j:=11) Cr.hh rfl rfl hn;obtain⟨s1,s2⟩:=w8 (hs':=WJ W {x with la:=some ⟨B,q,none⟩,lc:=c})
  (T9:={fr:=SP P W [],hp:=IN P m W (NV W x) (Nc W (.hd (some ⟨B,q,none⟩) (FP W) c) (.hd x.ca (FQ W) x.cc))++[.dead]}) w I φ a Cr hP rfl rfl
  (λb hb=>yj _ _ _ _ _ (.refl (.inl rfl)) e4 b hb) rfl (λh hh hp=>by
   rcases hh with rfl | rfl | ⟨j,hj,rfl⟩
   ·exact .inr ⟨show 2<=11 by omega,B,q,rfl,e1,e2,e3⟩
   ·exact .inl (.inr (.inl rfl))
   ·exact .inl (.inr (.inr ⟨j,hj,rfl⟩)))
 obtain⟨φ',d1,d2⟩:=yh [5,7,8,9,10,11] w I φ a s1 s2 (show 8<=9 by omega) (λb=>match b with
  | 0 | 1 | 2 | 3 | 4 | 5 | 6 | 7=>rfl
  | 8=>rfl
  | n+9=>rfl) (λb hb=>match b,hb with
  | 0,_ | 1,_ | 2,_ | 3,_ | 4,_ | 5,_ | 6,_ | 7,_=>by omega
  | 8,hb=>by cases hb
  | n+9,hb=>by cases hb)
 exact⟨{x with la:=some ⟨B,q,none⟩,lc:=c},I,φ',d1,d2⟩
def zQ{z z':Fr}(o d x x':BS)(h:AZ x'=AZ x)(b:Nat):AZ (Ab ({fr:=z',hp:=IN P m W o d++[x']}:St).hp b)=AZ (Ab ({fr:=z,hp:=IN P m W o d++[x]}:St).hp b):=match b with
 | 0 | 1 | 2 | 3 | 4 | 5 | 6 | 7=>rfl
 | 8=>h
 | n+9=>rfl
def ahu{n:Nat}{K:Option St}(h:n=0):dN n 0 K=K:=by subst h;exact afD (n:=0)
def Oa{X:(Exit->Act->World->Prop)->Act->World->Prop}{S T:St}{e:AX}{x:HX}(h:Bg X 215 8 S e T)(hl:S.hp.length=8)(hm:∀ b,AZ (Ab T.hp b)=AZ (Ab S.hp b)):LG M (PW m M I0 W x) (PW m M I0 W x) X 215 S e T:=
 h.px (by omega) hm λb hb=>by have:=al hb;omega
def dO{X:(Exit->Act->World->Prop)->Act->World->Prop}{S T:St}{e:AX}{x:HX}(h:Bg X 215 9 S e T)(hl:S.hp.length=9)(hm:∀ b,AZ (Ab T.hp b)=AZ (Ab S.hp b)):LG M (OW m M I0 W x) (OW m M I0 W x) X 215 S e T:=
 h.po (by omega) hm (λb hb=>by have:=al hb;omega) (by omega)
def lp1(hz:FP W<=100000)(x:HX):GK M (PW m M I0 W x) (PW m M I0 W) (λQ=>(Code.seq (kA 8) (.block 0 (.loop (kB 8)))).wp PG Q) 215 (BF P m W [] x) .normal (BF P m W []):=by
 obtain⟨o1,o2,_⟩:=OY;have la:LG M (PW m M I0 W x) (PW m M I0 W x) (λQ=>(kA 8).wp PG Q) 215 (BF P m W [] x) .normal (BF P m W [(12,.int .i64 0)] x):=Oa (BT (l:=[5,7,8,9,10,11,12]) DE DN mixed o1 (ayL P m W x)) rfl λ_=>rfl;by_cases hn:FP W=0
 ·have lx:LG M (PW m M I0 W x) (PW m M I0 W x) (λQ=>(kB 8).wp PG Q) 215 (BF P m W [(12,.int .i64 0)] x) (.exit 0) (BF P m W [] x):=Oa (BT (l:=[5,7,8,9,10,11]) DE DN mixed o2 ((ayM P m W x 0).trans (ahu hn))) rfl λ_=>rfl;exact LG.lk x (la.seq (LG.loop (n:=0) (by simp) (λ_=>BF P m W [(12,.int .i64 0)] x) (λj hj=>absurd hj (C5 j)) lx).block)
 ·have Eo:0<FP W:=Nat.pos_of_ne_zero hn;have step:∀ j,j<FP W->LG M (OW m M I0 W x) (OW m M I0 W x) (λQ=>(kB 8).wp PG Q) 215 (Nf P m W [(12,.int .i64 (j:Nat))] x λ_=>Bp 11) .normal (Nf P m W [(12,.int .i64 ((j+1:Nat):Int))] x λ_=>Bp 11):=λj hj=>by
   have h:=(ayN P m W x j).trans (w9 hj);rw[Cs (by omega)]at h;exact(dO (BT (l:=[5,7,8,9,10,11,12]) DE DN mixed o2 h) rfl (zQ (z:=[]) (z':=[]) _ _ _ _ rfl)).to (ug rfl (λw I φ b hb=>yk _ _ _ _ rfl rfl (oy (sz:=11) (k:=2) (v:=dK) rfl) b hb) λt=>.inl rfl)
  have ex:LG M (OW m M I0 W x) (OW m M I0 W x) (λQ=>(kB 8).wp PG Q) 215 (Nf P m W [(12,.int .i64 (FP W:Nat))] x λ_=>Bp 11) (.exit 0) (Nf P m W [] x λ_=>Bp 11):=
   dO (BT (l:=[5,7,8,9,10,11]) DE DN mixed o2 ((ayO P m W x (FP W)).trans xa)) rfl λ_=>rfl
  have lp:=(LG.loop (n:=FP W) (by simp) (λj=>Nf P m W [(12,.int .i64 (j:Nat))] x λ_=>Bp 11) step ex).block;exact la.ja (.RD (ay2 _ rfl x Eo) (lp.ij (ay3 x Eo)))
def ay4(z:Fr)(hz:z.all (λx=>jf x.2)=true)(x:HX)(hn:0<FQ W)(w:World)(I:Nat->Prop)(φ:Ac)(a:Act)(Cr:BC w I φ (BF P m W z x) a)(hP:PW m M I0 W x w I φ (BF P m W z x)) :
  ∃ J φ',BC w J φ' (Ng P m W z x λ_=>Bp 4) a/\OW m M I0 W x w J φ' (Ng P m W z x λ_=>Bp 4):=
 yg (k:=8) (hs:=WJ W x) (S:=BF P m W z x) (S8:=Ng P m W z x λ_=>Bp 4) (h0:=⟨x.ca,FQ W,x.cc,4⟩) (hp8:=IN P m W (NV W x) (Nc W (.hd x.la (FP W) x.lc) (.sn 4 8 (FQ W)))) rfl (.inr (.inl rfl)) hn (show 2<=4 by omega) rfl rfl
  (λw I φ b hb=>xc _ _ (xd x) (yi ..) b hb)
  (λw J φ b B q hb e1 e2 e3 e4=>vV _ _ _ _ (.refl (.inl rfl)) (.arr (.append (.jf (cs:=Bp 11) rfl) (.cons (.jf rfl) (.append (.jf (cs:=Bp 6) rfl) (.cons (.open e1 e2 e3 e4) (.jf rfl)))))) b hb)
  (λt=>.inl ⟨rfl,xb z hz t⟩) w I φ a Cr hP
def ay5(x:HX)(hn:0<FQ W)(w:World)(I:Nat->Prop)(φ:Ac)(a:Act)(Cr:BC w I φ (Ng P m W [] x λ_=>Bp 4) a)(hP:OW m M I0 W x w I φ (Ng P m W [] x λ_=>Bp 4)) :
  ∃ y J φ',BC w J φ' (BF P m W [] y) a/\PW m M I0 W y w J φ' (BF P m W [] y):=by
 obtain⟨B,q,c,e1,e2,e3,e4⟩:=aem (k:=8) (b:=7) (j:=18) Cr.hh rfl rfl hn;obtain⟨s1,s2⟩:=w8 (hs':=WJ W {x with ca:=some ⟨B,q,none⟩,cc:=c})
  (T9:={fr:=SP P W [],hp:=IN P m W (NV W x) (Nc W (.hd x.la (FP W) x.lc) (.hd (some ⟨B,q,none⟩) (FQ W) c))++[.dead]}) w I φ a Cr hP rfl rfl
  (λb hb=>yj _ _ _ _ _ (.refl (.inl rfl)) e4 b hb) rfl (λh hh hp=>by
   rcases hh with rfl | rfl | ⟨j,hj,rfl⟩
   ·exact .inl (.inl rfl)
   ·exact .inr ⟨show 2<=4 by omega,B,q,rfl,e1,e2,e3⟩
   ·exact .inl (.inr (.inr ⟨j,hj,rfl⟩)))
 obtain⟨φ',d1,d2⟩:=yh [5,7,8,9,10,11] w I φ a s1 s2 (show 8<=9 by omega) (λb=>match b with
  | 0 | 1 | 2 | 3 | 4 | 5 | 6 | 7=>rfl
  | 8=>rfl
  | n+9=>rfl) (λb hb=>match b,hb with
  | 0,_ | 1,_ | 2,_ | 3,_ | 4,_ | 5,_ | 6,_ | 7,_=>by omega
  | 8,hb=>by cases hb
  | n+9,hb=>by cases hb)
 exact⟨{x with ca:=some ⟨B,q,none⟩,cc:=c},I,φ',d1,d2⟩
def lp2(hz:FQ W<=100000)(x:HX):GK M (PW m M I0 W x) (PW m M I0 W) (λQ=>(Code.seq (kA 9) (.block 2 (.loop (kB 9)))).wp PG Q) 215 (BF P m W [] x) .normal (BF P m W []):=by
 obtain⟨_,_,o1,o2,_⟩:=OY;have la:LG M (PW m M I0 W x) (PW m M I0 W x) (λQ=>(kA 9).wp PG Q) 215 (BF P m W [] x) .normal (BF P m W [(13,.int .i64 0)] x):=Oa (BT (l:=[5,7,8,9,10,11,13]) DE DN mixed o1 (ayP P m W x)) rfl λ_=>rfl;by_cases hn:FQ W=0
 ·have lx:LG M (PW m M I0 W x) (PW m M I0 W x) (λQ=>(kB 9).wp PG Q) 215 (BF P m W [(13,.int .i64 0)] x) (.exit 2) (BF P m W [] x):=Oa (BT (l:=[5,7,8,9,10,11]) DE DN mixed o2 ((ayQ P m W x 0).trans (ahu hn))) rfl λ_=>rfl;exact LG.lk x (la.seq (LG.loop (n:=0) (by simp) (λ_=>BF P m W [(13,.int .i64 0)] x) (λj hj=>absurd hj (C5 j)) lx).block)
 ·have Eo:0<FQ W:=Nat.pos_of_ne_zero hn;have step:∀ j,j<FQ W->LG M (OW m M I0 W x) (OW m M I0 W x) (λQ=>(kB 9).wp PG Q) 215 (Ng P m W [(13,.int .i64 (j:Nat))] x λ_=>Bp 4) .normal (Ng P m W [(13,.int .i64 ((j+1:Nat):Int))] x λ_=>Bp 4):=λj hj=>by
   have h:=(ayR P m W x j).trans (w9 hj);rw[Cs (by omega)]at h;exact(dO (BT (l:=[5,7,8,9,10,11,13]) DE DN mixed o2 h) rfl (zQ (z:=[]) (z':=[]) _ _ _ _ rfl)).to (ug rfl (λw I φ b hb=>yk _ _ _ _ rfl rfl (oy (sz:=4) (k:=1) (v:=dK) rfl) b hb) λt=>.inl rfl)
  have ex:LG M (OW m M I0 W x) (OW m M I0 W x) (λQ=>(kB 9).wp PG Q) 215 (Ng P m W [(13,.int .i64 (FQ W:Nat))] x λ_=>Bp 4) (.exit 2) (Ng P m W [] x λ_=>Bp 4):=
   dO (BT (l:=[5,7,8,9,10,11]) DE DN mixed o2 ((ayS P m W x (FQ W)).trans xa)) rfl λ_=>rfl
  have lp:=(LG.loop (n:=FQ W) (by simp) (λj=>Ng P m W [(13,.int .i64 (j:Nat))] x λ_=>Bp 4) step ex).block;exact la.ja (.RD (ay4 _ rfl x Eo) (lp.ij (ay5 x Eo)))
def lp3(hz:Rb W<=100000)(x:HX):LG M (PW m M I0 W x) (PW m M I0 W x) (λQ=>(Code.seq (kA 10) (.block 4 (.loop (kB 10)))).wp PG Q) 215 (BF P m W [] x) .normal (BF P m W [] x):=by
 obtain⟨_,_,_,_,o1,o2,_⟩:=OY;have la:LG M (PW m M I0 W x) (PW m M I0 W x) (λQ=>(kA 10).wp PG Q) 215 (BF P m W [] x) .normal (BF P m W [(14,.int .i64 0)] x):=Oa (BT (l:=[5,7,8,9,10,11,14]) DE DN mixed o1 (ayT P m W x)) rfl λ_=>rfl;have step:∀ j,j<Rb W->LG M (PW m M I0 W x) (PW m M I0 W x) (λQ=>(kB 10).wp PG Q) 215 (BF P m W [(14,.int .i64 (j:Nat))] x) .normal (BF P m W [(14,.int .i64 ((j+1:Nat):Int))] x):=λj hj=>by
  have h:=(ayU P m W x j).trans (w9 hj);rw[Cs (by omega)]at h;exact(Oa (BT (l:=[5,7,8,9,10,11,14]) DE DN mixed o2 h) rfl λb=>match b with
   | 0 | 1 | 2 | 3 | 4 | 5 | 6 | 7=>rfl
   | n+8=>rfl).to (amA rfl (λw I φ b hb=>match b,hb with
   | 0,_=>.inl rfl
   | 1,_=>.refl (.inl rfl)
   | 2,_=>.refl (.inl rfl)
   | 3,_=>.refl (.inl rfl)
   | 4,_=>oy (sz:=4) (k:=2) (v:=.int .i64 (-7)) rfl
   | 5,_=>.inl rfl
   | 6,_=>.refl (.inl rfl)
   | 7,_=>.refl (.inl rfl)
   | n+8,hb=>absurd (show n+8<8 from hb) (by omega)) λt=>.inl rfl)
 have ex:LG M (PW m M I0 W x) (PW m M I0 W x) (λQ=>(kB 10).wp PG Q) 215 (BF P m W [(14,.int .i64 (Rb W:Nat))] x) (.exit 4) (BF P m W [] x):=
  Oa (BT (l:=[5,7,8,9,10,11]) DE DN mixed o2 ((ayV P m W x (Rb W)).trans xa)) rfl λ_=>rfl
 exact la.seq (LG.loop (n:=Rb W) (by simp) (λj=>BF P m W [(14,.int .i64 (j:Nat))] x) step ex).block
def aiU{a b k:Nat}{v c:AV}(hk:k ≠ a)(h:(Bp a++(v::Bp b))[k]? = some c):c=.undef:=by
 rcases Cj k a with x | x
 ·rw[DY (by simpa [Bp] using x)]at h;exact(List.mem_replicate.1 (Dy h)).2
 ·have hl:(Bp a).length=a:=aw ..;rw[FC (by omega),hl]at h;obtain⟨d,hd⟩:∃ d,k - a=d+1:=⟨k - a - 1,by omega⟩
  rw[hd,Vn]at h;exact(List.mem_replicate.1 (Dy h)).2
def aua{n j:Nat}{K:Option St}(h:j<n):sk n j K=K:=by unfold sk;rw[B8 h,BV,show Nat.blt j n=true from ay h];rfl
def yl{n j:Nat}{K:Option St}(h:j<n):gJ n j K=K:=by unfold gJ;rw[B8 h,BV,show Nat.blt j n=true from ay h,show Nat.beq j j=true from Nat.beq_refl j];rfl
def pB(x:HX)(j:Nat)(a:Option Addr)(c:Nat):HX:={x with A:=λi=>bif Nat.beq i j then a else x.A i,C:=λi=>bif Nat.beq i j then c else x.C i}
def ao2(x:HX)(j:Nat)(a:Option Addr)(c:Nat):(.seq true 31 (EK W) λi=>bif Nat.beq i j then(Bp 23++(.sn 11 8 (nE W j)::Bp 7)).set 23 (.hd a (nE W j) c)else sj W x i)=NV W (pB x j a c):=by
 unfold NV;congr 1;funext i;by_cases h:i=j
 ·subst h;show(bif Nat.beq i i then _ else _)=Bp 23++(.hd (bif Nat.beq i i then a else x.A i) (nE W i) (bif Nat.beq i i then c else x.C i)::Bp 7)
  rw[show Nat.beq i i=true from Nat.beq_refl i];rfl
 ·have hb:Nat.beq i j=false:=by
   cases h':Nat.beq i j with
   | false=>rfl
   | true=>exact absurd (BN h') h
  show(bif Nat.beq i j then _ else _)=Bp 23++(.hd (bif Nat.beq i j then a else x.A i) (nE W i) (bif Nat.beq i j then c else x.C i)::Bp 7)
  rw[hb];rfl
def ay6{j:Nat}(hj:j<EK W)(hn:0<nE W j)(z:Fr)(hz:z.all (λx=>jf x.2)=true)(x:HX)(w:World)(I:Nat->Prop)(φ:Ac)(a:Act)(Cr:BC w I φ (BF P m W z x) a)(hP:PW m M I0 W x w I φ (BF P m W z x)) :
  ∃ J φ',BC w J φ' (Nh P m W j z x λ_=>Bp 11) a/\OW m M I0 W x w J φ' (Nh P m W j z x λ_=>Bp 11):=
 yg (k:=8) (hs:=WJ W x) (S:=BF P m W z x) (S8:=Nh P m W j z x λ_=>Bp 11) (h0:=⟨x.A j,nE W j,x.C j,11⟩) (hp8:=IN P m W (.Cb true 31 (EK W) (sj W x) j (Bp 23++(.sn 11 8 (nE W j)::Bp 7)) [8] true) (Nc W (.hd x.la (FP W) x.lc) (.hd x.ca (FQ W) x.cc))) rfl (.inr (.inr ⟨j,hj,rfl⟩)) hn (show 2<=11 by omega) rfl rfl
  (λw I φ b hb=>xc _ _ (xd x) (yi ..) b hb)
  (λw J φ b B q hb e1 e2 e3 e4=>vV _ _ _ _ (.arE (j:=23) rfl rfl e1 e2 e3 e4 hj) (.refl (.inl rfl)) b hb)
  (λt=>.inl ⟨rfl,xb z hz t⟩) w I φ a Cr hP
def ay7{j:Nat}(hj:j<EK W)(hn:0<nE W j)(x:HX)(w:World)(I:Nat->Prop)(φ:Ac)(a:Act)(Cr:BC w I φ (Nh P m W j [(15,.int .i64 (j:Nat))] x λ_=>Bp 11) a)(hP:OW m M I0 W x w I φ (Nh P m W j [(15,.int .i64 (j:Nat))] x λ_=>Bp 11)) :
  ∃ y J φ',BC w J φ' (BF P m W [(15,.int .i64 (j:Nat))] y) a/\PW m M I0 W y w J φ' (BF P m W [(15,.int .i64 (j:Nat))] y):=by
 obtain⟨B,q,c,e1,e2,e3,e4⟩:=arD (k:=8) (b:=6) (j:=23) Cr.hh rfl hj rfl hn (λi=>rfl) λk' c' hk hc=>by rw[aiU hk hc];rfl
 rw[ao2 x j]at e4;obtain⟨s1,s2⟩:=w8 (hs':=WJ W (pB x j (some ⟨B,q,none⟩) c))
  (T9:={fr:=SP P W [(15,.int .i64 (j:Nat))],hp:=IN P m W (NV W (pB x j (some ⟨B,q,none⟩) c)) (Nc W (.hd x.la (FP W) x.lc) (.hd x.ca (FQ W) x.cc))++[.dead]}) w I φ a Cr hP rfl rfl
  (λb hb=>yj _ _ _ _ _ e4 (.refl (.inl rfl)) b hb) rfl (λh hh hp=>by
   rcases hh with rfl | rfl | ⟨i,hi,rfl⟩
   ·exact .inl (.inl rfl)
   ·exact .inl (.inr (.inl rfl))
   ·by_cases h:i=j
    ·subst h;have hb:Nat.beq i i=true:=Nat.beq_refl i;exact .inr ⟨show 2<=11 by omega,B,q,by show(bif Nat.beq i i then _ else _)=_;rw[hb];rfl,e1,by show _<=(bif Nat.beq i i then _ else _);rw[hb];exact e2,by show q+(bif Nat.beq i i then _ else _)*11<=_;rw[hb];exact e3⟩
    ·have hb:Nat.beq i j=false:=by
      cases h':Nat.beq i j with
      | false=>rfl
      | true=>exact absurd (BN h') h
     refine .inl (.inr (.inr ⟨i,hi,?_⟩));show(⟨bif Nat.beq i j then _ else _,_,bif Nat.beq i j then _ else _,_⟩:SO)=_;rw[hb];rfl)
 obtain⟨φ',d1,d2⟩:=yh [5,7,8,9,10,11,15] w I φ a s1 s2 (show 8<=9 by omega) (λb=>match b with
  | 0 | 1 | 2 | 3 | 4 | 5 | 6 | 7=>rfl
  | 8=>rfl
  | n+9=>rfl) (λb hb=>match b,hb with
  | 0,_ | 1,_ | 2,_ | 3,_ | 4,_ | 5,_ | 6,_ | 7,_=>by omega
  | 8,hb=>by cases hb
  | n+9,hb=>by cases hb)
 exact⟨pB x j (some ⟨B,q,none⟩) c,I,φ',d1,d2⟩
def ay8(hz:∀ j,j<EK W->nE W j<=100000){j:Nat}(hj:j<EK W)(x:HX):GK M (PW m M I0 W x) (PW m M I0 W) (λQ=>(Code.block 7 (.seq (HO [.R,.L,.L,.L]) (.block 8 (.loop (HO [.R,.L,.L,.R,.L,.L]))))).wp PG Q) 215 (BF P m W [(15,.int .i64 (j:Nat))] x) .normal (BF P m W [(15,.int .i64 (j:Nat))]):=by
 obtain⟨_,_,_,_,_,_,_,_,o1,_,o2⟩:=OY;have la:LG M (PW m M I0 W x) (PW m M I0 W x) (λQ=>(HO [.R,.L,.L,.L]).wp PG Q) 215 (BF P m W [(15,.int .i64 (j:Nat))] x) .normal (BF P m W [(15,.int .i64 (j:Nat)),(16,.int .i64 0)] x):=
  Oa (BT (l:=[5,7,8,9,10,11,15,16]) DE DN mixed o1 (awO P m W x j)) rfl λ_=>rfl
 by_cases hn:nE W j=0
 ·have hx:=(awQ P m W x 0 j).trans (aua hj);rw[BV,hn,show decide ((0:Int)<((0:Nat):Int))=false from rfl,Aj]at hx;have lx:LG M (PW m M I0 W x) (PW m M I0 W x) (λQ=>(HO [.R,.L,.L,.R,.L,.L]).wp PG Q) 215 (BF P m W [(15,.int .i64 (j:Nat)),(16,.int .i64 0)] x) (.exit 8) (BF P m W [(15,.int .i64 (j:Nat))] x):=
   Oa (BT (l:=[5,7,8,9,10,11,15]) DE DN mixed o2 hx) rfl λ_=>rfl
  exact LG.lk x (la.seq (LG.loop (n:=0) (by simp) (λ_=>BF P m W [(15,.int .i64 (j:Nat)),(16,.int .i64 0)] x) (λj hj=>absurd hj (C5 j)) lx).block).U2
 ·have Eo:0<nE W j:=Nat.pos_of_ne_zero hn;have pG:=hz j hj;have step:∀ i,i<nE W j->LG M (OW m M I0 W x) (OW m M I0 W x) (λQ=>(HO [.R,.L,.L,.R,.L,.L]).wp PG Q) 215 (Nh P m W j [(15,.int .i64 (j:Nat)),(16,.int .i64 (i:Nat))] x λ_=>Bp 11) .normal (Nh P m W j [(15,.int .i64 (j:Nat)),(16,.int .i64 ((i+1:Nat):Int))] x λ_=>Bp 11):=λi hi=>by
   have h:=awR P m W x i j;rw[yl hj,Ax (show((i:Nat):Int)<(nE W j:Int) by omega),Ae,yl hj,B8 hi,BV,show Nat.blt i (nE W j)=true from ay hi,Cs (by omega)]at h;exact(dO (BT (l:=[5,7,8,9,10,11,15,16]) DE DN mixed o2 h) rfl (zQ (z:=[]) (z':=[]) _ _ _ _ rfl)).to (ug rfl (λw I φ b hb=>yk _ _ _ _ rfl rfl (oy (sz:=11) (k:=2) (v:=dK) rfl) b hb) λt=>.inl rfl)
  have ex:LG M (OW m M I0 W x) (OW m M I0 W x) (λQ=>(HO [.R,.L,.L,.R,.L,.L]).wp PG Q) 215 (Nh P m W j [(15,.int .i64 (j:Nat)),(16,.int .i64 (nE W j:Nat))] x λ_=>Bp 11) (.exit 8) (Nh P m W j [(15,.int .i64 (j:Nat))] x λ_=>Bp 11):=by have h:=awS P m W x (nE W j) j;rw[yl hj,AN (Int.lt_irrefl _),Aj]at h;exact dO (BT (l:=[5,7,8,9,10,11,15]) DE DN mixed o2 h) rfl λ_=>rfl
  have lp:=(LG.loop (n:=nE W j) (by simp) (λi=>Nh P m W j [(15,.int .i64 (j:Nat)),(16,.int .i64 (i:Nat))] x λ_=>Bp 11) step ex).block;exact(la.ja (.RD (ay6 hj Eo _ rfl x) (lp.ij (ay7 hj Eo x)))).U2
def lp4(ho:EK W<=100000)(hz:∀ j,j<EK W->nE W j<=100000)(x:HX):GK M (PW m M I0 W x) (PW m M I0 W) (λQ=>(Code.seq (kA 11) (.block 6 (.loop (kB 11)))).wp PG Q) 215 (BF P m W [] x) .normal (BF P m W []):=by
 obtain⟨_,_,_,_,_,_,o1,o2,_,o3,_⟩:=OY;have la:LG M (PW m M I0 W x) (PW m M I0 W x) (λQ=>(kA 11).wp PG Q) 215 (BF P m W [] x) .normal (BF P m W [(15,.int .i64 0)] x):=Oa (BT (l:=[5,7,8,9,10,11,15]) DE DN mixed o1 (ayW P m W x)) rfl λ_=>rfl;have step:∀ j,j<EK W->Mk M (PW m M I0 W) (PW m M I0 W) (λQ=>(kB 11).wp PG Q) 215 (BF P m W [(15,.int .i64 (j:Nat))]) .normal (BF P m W [(15,.int .i64 ((j+1:Nat):Int))]):=λj hj=>.ofE λx=>by rw[ael];have hp:=ayY P m W x j;rw[Ax (show((j:Nat):Int)<(EK W:Int) by omega),Ae]at hp;have lp:LG M (PW m M I0 W x) (PW m M I0 W x) (λQ=>(HO [.L]).wp PG Q) 215 (BF P m W [(15,.int .i64 (j:Nat))] x) .normal (BF P m W [(15,.int .i64 (j:Nat))] x):=Oa (BT (l:=[5,7,8,9,10,11,15]) DE DN mixed o2 hp) rfl λ_=>rfl;refine lp.ja ((ay8 hz hj x).ay1 λy=>?_);have h:=awP P m W y j;rw[Cs (by omega)]at h;exact LG.lk y (Oa (BT (l:=[5,7,8,9,10,11,15]) DE DN mixed o3 h) rfl λ_=>rfl)
 have ex:Mk M (PW m M I0 W) (PW m M I0 W) (λQ=>(kB 11).wp PG Q) 215 (BF P m W [(15,.int .i64 (EK W:Nat))]) (.exit 6) (BF P m W []):=.ofE λx=>by rw[ael];exact LG.lk x (Oa (BT (l:=[5,7,8,9,10,11]) DE DN mixed o2 ((ayX P m W x (EK W)).trans afD)) rfl λ_=>rfl).mO
 exact la.ja ((Mk.loop (by simp) (λj=>BF P m W [(15,.int .i64 (j:Nat))]) step ex).at x).block
end
end Go.Hd
end
section
namespace Go.AM
section
variable {P:Program} {M m nt k:Nat} {I0:Nat->Prop} {hs:SO->Prop} {κ:Type}
def LG.hyp{A C:Df}{p:Prop}{X:(Exit->Act->World->Prop)->Act->World->Prop}{S T:St}{e:AX}(h:p->LG M A C X nt S e T):LG M (λw I φ S=>A w I φ S/\p) C X nt S e T:=
 λw I φ a hs hA ha Q hQ=>h hA.2 w I φ a hs hA.1 ha Q hQ
def aeo{S S':St}(hl:S.hp.length=S'.hp.length)(hx:∀ (w:World) (I:Nat->Prop) (φ:Ac) b,b<S.hp.length->Dv w I I φ (Ab S.hp b) (Ab S'.hp b))(hf:∀ (w:World) (I:Nat->Prop) (φ:Ac) t u,RV w I φ (Bb S.fr t) u->RV w I φ (Bb S'.fr t) u):Ow (Pm M I0) (Pm M I0) S S':=by
 intro w I φ a Cr ⟨p1,p2,p3⟩;have Ni:∀ b,AZ (Ab S'.hp b)=true->AZ (Ab S.hp b)=true:=λb hm=>by
  have hb:b<S.hp.length:=by rw[hl];exact al hm
  rcases hx w I φ b hb with x | ⟨x,_⟩
  ·rw[x]at hm;cases hm
  ·exact x
 exact⟨I,φ,⟨Cr.hh.sub (λB hB=>hB) hl (hx w I φ),λt=>hf w I φ t _ (Cr.fr t)⟩,p1,λB ⟨b,o,s,e1,e2⟩=>p2 B ⟨b,o,s,Ni b e1,e2⟩,p3⟩
end
section
variable {w:World} {I J:Nat->Prop} {φ:Ac} {k m:Nat}
def RV.ahv{sz b n cm:Nat}{u:Value}(h:RV w I φ (.sl sz b 0 n cm) u):RV w I φ (.sn sz b n) u:=by
 cases h with
 | sl _ _ B o _ _ _ cap q h1 hq hl hc hs=>rw[JF,Iy]at hq;subst hq;rw[Ev]at hs;exact .sn sz b n B _ cap h1 hl hs
 | sle _ _ _ a=>exact .DT sz b _
def Dv.aiV{sz n:Nat}{f:Nat->List AV}(h:n=0):Dv w I J φ (.arr true sz []) (.seq true sz n f):=by subst h;exact .inr ⟨rfl,rfl,λx=>x.elim,λB o s ⟨a0,a1,_,_⟩=>⟨a0,a1,λi hi=>absurd hi (C5 i),λi k c hi=>absurd hi (C5 i)⟩⟩
def vW{sz n:Nat}{f:Nat->List AV}{u:Value}(h:RV w I φ (.tr sz n f) u)(hz:0<sz):∃ mm:Nat,(∀ a c,u=.slice a n c -> ∀ B q p,a=some ⟨B,q,p⟩->0<n->I B/\B<mm)/\(mm=0\/Hl w mm):=by
 cases h with
 | tr _ _ _ B o cap uf hI hn C6 hlen hc h1 hr=>
  by_cases h0:0<n
  ·refine⟨B+1,λa c e B' q p ea _=>?_,.inr ⟨B,Ar _,?_⟩⟩
   ·cases e;cases ea;exact⟨hI h0,by omega⟩
   ·have:=C6 h0;have:1*1<=cap*sz:=RG (by omega) (by omega);omega
  ·exact⟨0,λa c e B' q p ea h=>absurd h h0,.inl rfl⟩
 | Cq _ _ a=>exact⟨0,λa c e B' q p ea h=>absurd h (DP 0),.inl rfl⟩
def ao3{sz n:Nat}{f:Nat->List AV}{u:Value}(h:RV w I φ (.tr sz n f) u):∃ a c,u=.slice a n c:=by
 cases h with
 | tr=>exact⟨_,_,rfl⟩
 | Cq=>exact⟨_,_,rfl⟩
def Nj(w:World)(I J:Nat->Prop)(φ φ':Ac)(V:Nat->Value->Prop)(j:Nat)(cs A3:List AV):Prop:=A3.length=cs.length /\ ∀ (k:Nat) c',A3[k]? = some c' -> ∃ c,cs[k]? = some c /\ ∀ u,V (j+k) u->RV w I φ c u->RV w J φ' c' u
variable {φ':Ac} {V:Nat->Value->Prop}
def Nj.nil{j:Nat}:Nj w I J φ φ' V j [] []:=⟨rfl,λk c' e=>by simp at e⟩
def Nj.cons{j:Nat}{c c':AV}{cs A3:List AV}(h:∀ u,V j u->RV w I φ c u->RV w J φ' c' u)(h':Nj w I J φ φ' V (j+1) cs A3):Nj w I J φ φ' V j (c::cs) (c'::A3):=by
 refine⟨by simp[h'.1],λk x e=>?_⟩;cases k with
 | zero=>simp at e;exact⟨c,rfl,e ▸ h⟩
 | succ k=>obtain⟨c0,e0,r⟩:=h'.2 k x (by simpa using e);exact⟨c0,by simpa using e0,λu hv=>r u (by rw[show j+1+k=j+(k+1) by omega];exact hv)⟩
def Nj.Bp{j:Nat}:∀ (cs:List AV),Nj w I J φ φ' V j cs (Sm cs.length)
 | cs=>⟨aw ..,λk c' e=>by
  have hk:k<cs.length:=by have:=(GO.1 e).1;simpa [Sm] using this
  have:c'=.undef:=(List.mem_replicate.1 (Dy e)).2;subst this;exact⟨_,BR hk,λu _ _=>.undef u⟩⟩
def Nj.append{j:Nat}{a b a' b':List AV}(h:Nj w I J φ φ' V j a a')(h':Nj w I J φ φ' V (j+a.length) b b'):Nj w I J φ φ' V j (a++b) (a'++b'):=by
 refine⟨by simp[h.1,h'.1],λk c e=>?_⟩;rw[Vp]at e;split at e
 ·rename_i hk;obtain⟨c0,e0,r⟩:=h.2 k c e;exact⟨c0,by rw[DY (by rw[<- h.1];exact hk)];exact e0,r⟩
 ·rename_i hk;obtain⟨c0,e0,r⟩:=h'.2 _ c e;exact⟨c0,by rw[FC (by rw[<- h.1];omega),<- h.1];exact e0,λu hv=>r u (by rw[show j+a.length+(k - a'.length)=j+k by rw[h.1]at hk ⊢;omega];exact hv)⟩
def Nj.same{j:Nat}(cs:List AV):Nj w I I φ φ V j cs cs:=⟨rfl,λk c e=>⟨c,e,λu _ h=>h⟩⟩
def NL(w:World)(B o k:Nat)(u:Value):Prop:=w.cell? ⟨B,o+k,none⟩=some u
def K4.aiW{b sz B o s:Nat}{cs A3:List AV}(e:φ b=some (B,o,s))(h:Nj w I J φ φ (NL w B o) 0 cs A3):K4 w I J φ b (.arr true sz [cs]) (.arr true sz [A3]):=by
 refine .inr ⟨rfl,rfl,id,λB1 o1 s1 e1 r=>?_⟩;rw[e]at e1;cases e1;obtain⟨a0,a1,a2,a3⟩:=r;refine⟨a0,a1,λi x ex=>?_,λi x k c ex ec=>?_⟩
 ·cases i with
  | zero=>simp at ex;subst ex;rw[h.1];exact a2 0 cs rfl
  | succ i=>simp at ex
 ·cases i with
  | zero=>simp at ex;subst ex;obtain⟨c0,e0,r⟩:=h.2 k c ec;obtain⟨u,g1,g2,g3⟩:=a3 0 cs k c0 rfl e0;refine⟨u,g1,g2,r u ?_ g3⟩;rw[JF,Iy]at g1;unfold NL;rw[Ev];exact g1
  | succ i=>simp at ex
def fq{hp:Heap}(h:RH w I φ (Ab hp)){b s k:Nat}{cs:List AV}(hb:Ab hp b=.arr true s [cs]){c:AV}(hk:cs[k]? = some c){B o s':Nat}(e:φ b=some (B,o,s')):∃ u,NL w B o k u/\RV w I φ c u:=by have r:=h.at e (by rw[hb];rfl);rw[hb]at r;obtain⟨a0,a1,a2,a3⟩:=r;obtain⟨u,g1,g2,g3⟩:=a3 0 cs k c rfl hk;exact⟨u,by unfold NL;rw[JF,Iy]at g1;exact g1,g3⟩
def aep{hp:Heap}(h:RH w I φ (Ab hp)){b s:Nat}{cs:List AV}(hb:Ab hp b=.arr true s [cs]):∃ B o s',φ b=some (B,o,s'):=by
 obtain⟨B,o,s',e,_⟩:=(h.CY b (by rw[hb];rfl)).resolve_right λx=>by have:=x.2;rw[hb]at this;exact this
 exact⟨B,o,s',e⟩
def vX{sz n:Nat}{f:Nat->List AV}{u:Value}(h:RV w I φ (.mk 2 m (.tr sz n f)) u):∃ a c,u=.slice a n c/\(0<n -> ∃ B q,a=some ⟨B,q,none⟩/\n<=c/\m<=B/\I B/\F7 w B/\q+c*sz<=Bv w B):=by
 cases h with
 | mk _ _ _ a n' c h hk=>
  cases h with
  | tr _ _ _ B o cap uf hI hn C6 hlen hc h1 hr=>refine⟨_,_,rfl,λh0=>?_⟩;obtain⟨g1,g2,g3⟩:=hk B o none rfl h0;exact⟨B,o,rfl,hn,g2,g1,g3,C6 h0⟩
  | Cq _ _ a=>exact⟨_,_,rfl,λh0=>absurd h0 (DP 0)⟩
def vY{a b:Nat}(ha:a=0\/Hl w a)(hb:Hl w b):Hl w (max a b):=by
 rcases ha with x | x
 ·subst x;rw[Nat.max_eq_right (Bu _)];exact hb
 ·rcases Nat.le_total a b with y | y
  ·rw[Nat.max_eq_right y];exact hb
  ·rw[Nat.max_eq_left y];exact x
def NL.eq{B o k:Nat}{u v:Value}(h:NL w B o k u)(h':NL w B o k v):u=v:=by unfold NL at h h';rw[h]at h';cases h';rfl
def ao{sz n:Nat}{f:Nat->List AV}{u:Value}(hw:Hl w m)(h:RV w I φ (.tr sz n f) u):RV w I φ (.mk 0 m (.tr sz n f)) u:=RV.Pe (h.free rfl) hw
def xe{sz n mm:Nat}{f:Nat->List AV}{u:Value}(hw:Hl w m)(hm:mm<=m)(ht:∀ a c,u=.slice a n c -> ∀ B q p,a=some ⟨B,q,p⟩->0<n->I B/\B<mm)(h:RV w I φ (.tr sz n f) u):RV w I φ (.mk 1 m (.tr sz n f)) u:=by obtain⟨a,c,rfl⟩:=ao3 h;exact .mk 1 m _ a n c (h.free rfl) ⟨hw,λB q p e hn=>⟨(ht a c rfl B q p e hn).1,by have:=(ht a c rfl B q p e hn).2;omega⟩⟩
end
def TU.bool{P:Program}{f:Nat}{A:List AV}{b:Bool}(h:TU P f 0 A (.bool b) []):At P f A [] (.bool b) []:=by
 intro w I φ ra hh hx;have:=UX hh;subst this;refine(h w I ra hh hx (Bu _)).mono λu w' ⟨φ',J,a1,a2,a3,a4,a5,a6⟩=>?_;have Bc:∀ B,I B->w'.heap[B]? = w.heap[B]? := λB hB=>a3.keep B (hh.lt B hB) id;refine⟨Ac.no,I,?_,RH.empty w' I λB hB=>He (hh.lt B hB) a3.size,λb p hb=>absurd hb (C5 b),λB hB=>hB,λB hB=>.inl hB,λB hB=>(Fw hB).elim,a3.weaken λB hB=>hB.elim,λB hB hy=>?_⟩
 ·cases a1;exact .bool b
 ·rcases hB with x | x
  ·intro c e fz hc;exact hy (.inl x) c e fz ((Bc B x).symm.trans hc)
  ·exact(Fw x).elim
end Go.AM
end
section
open Go Go.AM Go.Md
namespace Go.AM
def HM.zR{w:World}{I:Nat->Prop}{φ:Ac}{k m:Nat}{v:AV}:HM w I I φ (.mk k m v) v:=λu h=>by
 cases h with
 | mk _ _ _ a n c h hk=>exact h.mono (λB hB=>⟨hB,rfl⟩) (λ_=>Ar _) (Ac.IZ φ)
end Go.AM
namespace Go.Hd
open Go.Wk
section
variable {s:Bl} {P:AG} {M m:Nat} {I0:Nat->Prop} {W:Ai}
def ahw{n b:Nat}{x y:Option St}(h:n=0):dI n b x y=x:=by subst h;unfold dI;simp;rfl
def ahx{n b:Nat}{x y:Option St}(h:n ≠ 0)(hn:n<=100000)(hb:b<=100):dI n b x y=y:=by have h1:(0+n)*b<=140737488355328:=CI (RG (show 0+n<=100000 by omega) hb) (by decide);unfold dI;rw[Bn h1,Bn (show 0+n<=140737488355328 by omega),show Nat.beq n 0=false from by cases h':Nat.beq n 0 with | false=>rfl | true=>exact absurd (BN h') h];rfl
def aiX{v:AV}{x:BS}(hx:∀ (w:World) (I:Nat->Prop) (φ:Ac),Dv w I I φ x (.seq true 4 (Gb P) (CM P.d.waits)))(hv:v=.sl 4 2 0 (Gb P) 0):Ow (Pm M I0) (Pm M I0) (Zo s P v x) (Zo s P (.sn 4 2 (Gb P)) (.seq true 4 (Gb P) (CM P.d.waits))):=by
 subst hv;exact aeo rfl (λw I φ b hb=>match b,hb with
  | 0,_=>.refl (.inl rfl)
  | 1,_=>.refl (.inl rfl)
  | 2,_=>hx w I φ
  | n+3,hb=>absurd (show n+3<3 from hb) (by omega)) (λw I φ t u h=>match t,h with
  | 0,h | 1,h | 2,h | 3,h | 4,h | 5,h | 6,h | 7,h=>h
  | 8,h=>RV.ahv h
  | n+9,h=>h)
def aiY{v:AV}{x:BS}(hx:∀ (w:World) (I:Nat->Prop) (φ:Ac),Dv w I I φ x (.seq true 4 (GJ P) (Zn P.d.clean)))(hv:v=.sl 4 3 0 (GJ P) 0):Ow (Pm M I0) (Pm M I0) (Zp s P v x) (Zp s P (.sn 4 3 (GJ P)) (.seq true 4 (GJ P) (Zn P.d.clean))):=by
 subst hv;exact aeo rfl (λw I φ b hb=>match b,hb with
  | 0,_=>.refl (.inl rfl)
  | 1,_=>.refl (.inl rfl)
  | 2,_=>.refl (.inl rfl)
  | 3,_=>hx w I φ
  | n+4,hb=>absurd (show n+4<4 from hb) (by omega)) (λw I φ t u h=>match t,h with
  | 0,h | 1,h | 2,h | 3,h | 4,h | 5,h | 6,h | 7,h | 8,h=>h
  | 9,h=>RV.ahv h
  | n+10,h=>h)
def aw2(w:World)(I:Nat->Prop)(φ:Ac)(a:Act)(Cr:BC w I φ (Zp s P (.sn 4 3 (GJ P)) (.seq true 4 (GJ P) (Zn P.d.clean))) a)(hP:Pm M I0 w I φ (Zp s P (.sn 4 3 (GJ P)) (.seq true 4 (GJ P) (Zn P.d.clean)))) :
  ∃ m J φ',BC w J φ' (si s P m) a/\(Pm M I0 w J φ' (si s P m)/\M<=m):=by
 obtain⟨B,o,sz,e⟩:=aep Cr.hh (b:=1) rfl;obtain⟨u1,v1,r1⟩:=fq Cr.hh (b:=1) rfl (k:=11) (c:=AY P.d.rep.tail.log) rfl e;obtain⟨u2,v2,r2⟩:=fq Cr.hh (b:=1) rfl (k:=18) (c:=Bi P.d.clean) rfl e;obtain⟨u3,v3,r3⟩:=fq Cr.hh (b:=1) rfl (k:=20) (c:=HQ P.d.waits) rfl e;obtain⟨m1,t1,w1⟩:=vW (sz:=11) (n:=P.d.rep.tail.log.length) r1 (by omega);obtain⟨m2,t2,w2⟩:=vW (sz:=4) (n:=P.d.clean.length) r2 (by omega);obtain⟨m3,t3,w3⟩:=vW (sz:=4) (n:=P.d.waits.length) r3 (by omega);have ay9:Hl w (B+1):=⟨B,Ar _,by have:=adh v1;omega⟩
 have hM:M<=B:=(hP.2.1 B ⟨1,o,sz,rfl,e⟩).1;have hw:Hl w (max m1 (max m2 (max m3 (B+1)))):=vY w1 (vY w2 (vY w3 ay9));have l1:m1<=max m1 (max m2 (max m3 (B+1))):=by omega
 have l2:m2<=max m1 (max m2 (max m3 (B+1))):=by omega
 have l3:m3<=max m1 (max m2 (max m3 (B+1))):=by omega
 have l4:M<=max m1 (max m2 (max m3 (B+1))):=by omega
 generalize max m1 (max m2 (max m3 (B+1)))=m at hw l1 l2 l3 l4;have rt:K4 w I I φ 1 (Zm P) (sh P m):=by refine .aiW e (.append (a:=Ct P.d) ?_ (.Bp [KQ P.st,BB P.AA,.int .i64 0,.int .i64 P.n1,.int .i64 P.n2,.int .i64 P.n3,BB P.ops,AY P.log,DQ 1 PB default P.busy,BB P.said]));refine .cons (λ_ _ h=>h) (.cons (λ_ _ h=>h) (.cons (λ_ _ h=>h) (.cons (λ_ _ h=>h) (.cons (λ_ _ h=>h) (.cons (λ_ _ h=>h) (.cons (λ_ _ h=>h) (.cons (λ_ _ h=>ao hw h) (.cons (λ_ _ h=>h) (.cons (λ_ _ h=>h) (.cons (λ_ _ h=>h) ?_))))))))));refine .cons (λu hv h=>xe hw l1 (λa c e=>t1 a c ((NL.eq v1 hv).trans e)) h) (.cons (λ_ _ h=>ao hw h) (.cons (λ_ _ h=>h) (.cons (λ_ _ h=>ao hw h) (.cons (λ_ _ h=>h) (.cons (λ_ _ h=>ao hw h) (.cons (λ_ _ h=>ao hw h) ?_))))));exact .cons (λu hv h=>xe hw l2 (λa c e=>t2 a c ((NL.eq v2 hv).trans e)) h) (.cons (λ_ _ h=>h) (.cons (λu hv h=>xe hw l3 (λa c e=>t3 a c ((NL.eq v3 hv).trans e)) h) (.cons (λ_ _ h=>ao hw h) (.cons (λ_ _ h=>h) .nil))))
 refine⟨m,I,φ,⟨Cr.hh.tell (λB ⟨b,o,s,e1,e2⟩ hB=>Cr.hh.CP b B o s e1 e2 hB) (λB hB=>Cr.hh.lt B hB) rfl λb hb=>?_,Cr.fr⟩,⟨hP.1,λB' ⟨b,o',s',e1,e2⟩=>hP.2.1 B' ⟨b,o',s',?_,e2⟩,hP.2.2⟩,l4⟩
 ·match b,hb with
  | 0,_=>exact .refl (.inl rfl)
  | 1,_=>exact rt
  | 2,_=>exact .refl (.inl rfl)
  | 3,_=>exact .refl (.inl rfl)
  | n+4,hb=>exact absurd (show n+4<4 from hb) (by omega)
 ·match b,e1 with
  | 0,_ | 1,_ | 2,_ | 3,_=>rfl
  | n+4,e1=>cases e1
end
def Nk(P Q:AG):Prop:=Q.ops=P.ops/\Q.n1=P.n1/\Q.n2=P.n2/\Q.n3=P.n3
def Nk.refl(P:AG):Nk P P:=⟨rfl,rfl,rfl,rfl⟩
def Nk.trans{P Q R:AG}(h:Nk P Q)(h':Nk Q R):Nk P R:=⟨h'.1.trans h.1,h'.2.1.trans h.2.1,h'.2.2.1.trans h.2.2.1,h'.2.2.2.trans h.2.2.2⟩
def uX{X:Type}{f:AG->X->AG}(h:∀ P x,Nk P (f P x)):∀ (l:List X) (P:AG),Nk P (l.foldl f P)
 | [],P=>.refl P
 | x::r,P=>(h P x).trans (uX h r (f P x))
def ao4(x:Ut):Nk x.P (NK x):=by
 unfold NK;have h1:∀ P e,Nk P (NI (KR x.P.log) x.ET P e):=λP e=>by unfold NI;cases AP (KR x.P.log) e.Ag <;> exact⟨rfl,rfl,rfl,rfl⟩
 have h2:∀ P m,Nk P (NJ P m):=λP m=>by unfold NJ;cases decide (m.kind=6) <;> exact⟨rfl,rfl,rfl,rfl⟩
 have:=(uX h1 x.d.rep.tail.log x.P).trans (uX h2 x.l _);exact this.trans ⟨rfl,rfl,rfl,rfl⟩
def amB(P:AG)(s:Bl):Nk P (bd P s):=by
 have hg:∀ (Q:AG) m,Nk Q (Ma Q m):=λQ m=>by
  unfold Ma;cases decide (m.dst=0)with
  | true=>exact⟨rfl,rfl,rfl,rfl⟩
  | false=>exact ao4 (Uu Q m)
 unfold bd;by_cases h8:kD s=8
 ·rw[Ay h8];exact⟨rfl,rfl,rfl,rfl⟩
 rw[AE h8];by_cases h0:P.AA.length=0
 ·rw[Ay h0];exact .refl P
 rw[AE h0];by_cases h7:kD s=7
 ·rw[Ay h7];exact⟨rfl,rfl,rfl,rfl⟩
 rw[AE h7];by_cases h6:kD s=6
 ·rw[Ay h6];exact⟨rfl,rfl,rfl,rfl⟩
 rw[AE h6];exact(show Nk P (setW P (P.AA.eraseIdx (jD P s))) from⟨rfl,rfl,rfl,rfl⟩).trans (hg _ _)
def lq(i:Nat)(P:AG):Prop:=((0<=P.n1/\P.n1<=i)/\(0<=P.n2/\P.n2<=i)/\(0<=P.n3/\P.n3<=i)) /\ ∀ q ∈ P.ops,q.num<=i/\Mj q
def arF{i:Nat}{P:AG}{s:Bl}(h:lq i P)(hi:i<=1000):lq (i+1) (Jz P s):=by
 obtain⟨⟨h1,h2,h3⟩,h4⟩:=h;unfold Jz;by_cases hk:kD s<=3
 ·rw[Ay hk];have hw:∀ n:Int,0<=n->n<=i->0<=Ao (n+1)/\Ao (n+1)<=((i+1:Nat):Int):=λn a b=>by rw[Ru];omega
  have hb:((0<=(En P s).n1/\(En P s).n1<=((i+1:Nat):Int))/\(0<=(En P s).n2/\(En P s).n2<=((i+1:Nat):Int))/\(0<=(En P s).n3/\(En P s).n3<=((i+1:Nat):Int)))/\(En P s).ops=P.ops:=by
   unfold En;cases decide (s.n=0)with
   | false=>exact⟨⟨⟨h1.1,by have:=h1.2;show P.n1<=_;omega⟩,⟨h2.1,by have:=h2.2;show P.n2<=_;omega⟩,⟨h3.1,by have:=h3.2;show P.n3<=_;omega⟩⟩,rfl⟩
   | true=>
    rw[Ae];unfold T1;split
    ·exact⟨⟨hw _ h1.1 h1.2,⟨h2.1,by have:=h2.2;show P.n2<=_;omega⟩,⟨h3.1,by have:=h3.2;show P.n3<=_;omega⟩⟩,rfl⟩
    ·exact⟨⟨⟨h1.1,by have:=h1.2;show P.n1<=_;omega⟩,hw _ h2.1 h2.2,⟨h3.1,by have:=h3.2;show P.n3<=_;omega⟩⟩,rfl⟩
    ·exact⟨⟨⟨h1.1,by have:=h1.2;show P.n1<=_;omega⟩,⟨h2.1,by have:=h2.2;show P.n2<=_;omega⟩,hw _ h3.1 h3.2⟩,rfl⟩
  obtain⟨⟨b1,b2,b3⟩,b4⟩:=hb;have hn:Mb (En P s) s<=((i+1:Nat):Int):=by
   have hW:OX (En P s) (wS s)<=((i+1:Nat):Int):=by
    unfold OX;split
    ·exact b1.2
    ·exact b2.2
    ·exact b3.2
   unfold Mb;cases decide (0<s.n)with
   | false=>exact hW
   | true=>
    cases hd:decide (s.n<OX (En P s) (wS s))with
    | true=>have:=El hd;show s.n<=_;omega
    | false=>exact hW
  have hm:(T2 (En P s) s).num<=((i+1:Nat):Int)/\Mj (T2 (En P s) s):=by
   unfold T2;rw[b4];rcases ac9 (wS s:Nat) (Mb (En P s) s) (Dk (wS s:Nat) (Mb (En P s) s) s.o) P.ops with ⟨p1,_,_⟩ | ⟨p1,_⟩
   ·exact⟨by have:=(h4 _ p1).1;omega,(h4 _ p1).2⟩
   ·rw[p1];exact⟨hn,rfl,rfl,rfl,rfl,rfl⟩
  refine⟨⟨b1,b2,b3⟩,λq hq=>?_⟩;have hq:q ∈ (En P s).ops++[T2 (En P s) s]:=hq;rw[b4]at hq;rcases Cp.1 hq with hq | hq
  ·exact⟨by have:=(h4 q hq).1;omega,(h4 q hq).2⟩
  ·rw[DO.1 hq];exact hm
 ·rw[AE hk];obtain⟨f1,f2,f3,f4⟩:=amB P s;unfold lq;rw[f1,f2,f3,f4];exact⟨⟨⟨h1.1,by have:=h1.2;omega⟩,⟨h2.1,by have:=h2.2;omega⟩,⟨h3.1,by have:=h3.2;omega⟩⟩,λq hq=>⟨by have:=(h4 q hq).1;omega,(h4 q hq).2⟩⟩
def ahy(l:List Bl):∀ i,i<=80->lq i (F6 l i)
 | 0,_=>⟨⟨⟨JG _,JG _⟩,⟨JG _,JG _⟩,⟨JG _,JG _⟩⟩,λq hq=>by cases hq⟩
 | i+1,h=>arF (ahy l i (by omega)) (by omega)
def arG{A:An->Option Entry}{B S:Nat}{H:List Entry}{f i:Nat}{P:AG}{o:Md.Op}(h:IL A B S H f P)(hn:lq i P)(hi:i<=80)(ho:FJ o.kind/\o.key.length<=50/\o.val.length<=50) :
  DS (cx A (P.ops++[Dk 1 99 o]) P.d) X0 B H f P.d /\ ∀ q ∈ P.ops++[Dk 1 99 o],Mj q:=by
 have hO:Y0 (Dk 1 99 o):=by
  refine⟨rfl,?_,rfl,rfl,rfl,⟨show(1:Int)<=1 by decide,show(1:Int)<=3 by decide⟩,NT (show(-1000000:Int)<=99 by decide) (show(99:Int)<=1000000 by decide),⟨Bu _,Bu _,⟨Bu _,λv hv=>by cases hv⟩,Bu _,Bu _⟩,ho.1,?_,?_⟩
  ·show Ao (100+1)=100+1;decide
  ·have:=ho.2.1;show o.key.length<=2000;omega
  ·have:=ho.2.2;show o.val.length<=2000;omega
 have hne:∀ q ∈ P.ops,q.num ≠ (Dk 1 99 o).num:=λq hq e=>by have:=(hn.2 q hq).1;have e:q.num=99:=e;omega
 refine⟨h.ds.re (Na.refl _) ⟨λq hq=>?_,λq hq p hp h1 h2=>?_⟩ λq hq=>JD _ hq,λq hq=>?_⟩
 ·rcases Cp.1 (show q ∈ P.ops++[Dk 1 99 o] from hq)with hq | hq
  ·exact h.ds.ops.op q hq
  ·rw[DO.1 hq];exact hO
 ·rcases Cp.1 (show q ∈ P.ops++[Dk 1 99 o] from hq)with hq | hq
  ·rcases Cp.1 (show p ∈ P.ops++[Dk 1 99 o] from hp)with hp | hp
   ·exact h.ds.ops.fn q hq p hp h1 h2
   ·rw[DO.1 hp]at h2;exact absurd h2 (hne q hq)
  ·rcases Cp.1 (show p ∈ P.ops++[Dk 1 99 o] from hp)with hp | hp
   ·rw[DO.1 hq]at h2;exact absurd h2.symm (hne p hp)
   ·rw[DO.1 hq,DO.1 hp]
 ·rcases Cp.1 hq with hq | hq
  ·exact(hn.2 q hq).2
  ·rw[DO.1 hq];exact⟨rfl,rfl,rfl,rfl,rfl⟩
section
variable {s:Bl} {P:AG} {M m:Nat} {I0:Nat->Prop} {W:Ai}
def zS(w:World)(I:Nat->Prop)(m sz n:Nat)(a:Option Addr)(c:Nat):Prop:=0<n -> ∃ B q,a=some ⟨B,q,none⟩/\n<=c/\m<=B/\I B/\F7 w B/\q+c*sz<=Bv w B
def aw3{w:World}{I:Nat->Prop}{φ:Ac}{hp:Heap}(hh:RH w I φ (Ab hp))(hb:Ab hp 6=.seq true 31 (EK W) λi=>dg m (W.out.getD i default)) :
  ∃ (A:Nat->Option Addr) (C:Nat->Nat),(∀ i,i<EK W->zS w I m 11 (nE W i) (A i) (C i))/\K4 w I I φ 6 (.seq true 31 (EK W) λi=>dg m (W.out.getD i default)) (.seq true 31 (EK W) λi=>Bp 23++(.hd (A i) (nE W i) (C i)::Bp 7)):=by
 by_cases h0:EK W=0
 ·refine⟨λ_=>none,λ_=>0,λi hi=>absurd hi (by omega),.inr ⟨rfl,rfl,id,λB o s e r=>?_⟩⟩;obtain⟨a0,a1,a2,a3⟩:=r;exact⟨a0,a1,λi hi=>absurd hi (by omega),λi k c hi=>absurd hi (by omega)⟩
 obtain⟨B6,o6,s6,e6,r6⟩:=hh.TH (b:=6) (by rw[hb];exact h0) (by rw[hb];rfl);rw[hb]at r6;obtain⟨b0,b1,b2,b3⟩:=r6;subst b0;have key:∀ i,∃ p:Option Addr × Nat,i<EK W->zS w I m 11 (nE W i) p.1 p.2/\w.cell? ⟨B6,o6+i*31+23,none⟩=some (.slice p.1 (nE W i) p.2):=λi=>by
  by_cases hi:i<EK W
  ·obtain⟨u,g1,g2,g3⟩:=b3 i 23 (.mk 2 m (AY (W.out.getD i default).entries)) hi rfl;obtain⟨a,c,rfl,h⟩:=vX (sz:=11) (n:=(W.out.getD i default).entries.length) g3;refine⟨(a,c),λ_=>⟨h,?_⟩⟩;exact g1
  ·exact⟨(none,0),λh=>absurd h hi⟩
 refine⟨λi=>(Classical.choose (key i)).1,λi=>(Classical.choose (key i)).2,λi hi=>(ax (key i) hi).1,.inr ⟨rfl,rfl,id,λB o s e r=>?_⟩⟩;rw[e6]at e;cases e;obtain⟨a0,a1,a2,a3⟩:=r;refine⟨a0,a1,λi hi=>a2 i hi,λi k c hi ec=>?_⟩;dsimp only at ec;by_cases hk:k=23
 ·subst hk;have:c=.hd (Classical.choose (key i)).1 (nE W i) (Classical.choose (key i)).2:=(Option.some.inj ec).symm;subst this;refine⟨_,?_,rfl,.hd _ _ _⟩;exact(ax (key i) hi).2
 ·have:c=.undef:=aiU hk ec;subst this;have hl:k<(dg m (W.out.getD i default)).length:=(GO.1 ec).1;obtain⟨u,g1,g2,g3⟩:=a3 i k _ hi (BR hl);exact⟨u,g1,g2,.undef u⟩
def aub(hM:M<=m)(w:World)(I:Nat->Prop)(φ:Ac)(a:Act)(Cr:BC w I φ (dJ s P m W) a)(hP:Pm M I0 w I φ (dJ s P m W)) :
  ∃ x J φ',BC w J φ' (BF P m W [] x) a/\PW m M I0 W x w J φ' (BF P m W [] x):=by
 obtain⟨A,C,hA,r6⟩:=aw3 (m:=m) (W:=W) Cr.hh rfl;obtain⟨B,o,sz,e⟩:=aep Cr.hh (b:=7) rfl;obtain⟨u1,v1,r1⟩:=fq Cr.hh (b:=7) rfl (k:=11) (c:=.mk 2 m (AY W.d.rep.tail.log)) rfl e;obtain⟨u2,v2,r2⟩:=fq Cr.hh (b:=7) rfl (k:=18) (c:=.mk 2 m (Bi W.d.clean)) rfl e;obtain⟨a1,c1,rfl,h1⟩:=vX (sz:=11) (n:=W.d.rep.tail.log.length) r1;obtain⟨a2,c2,rfl,h2⟩:=vX (sz:=4) (n:=W.d.clean.length) r2;have r7:K4 w I I φ 7 (.arr true 23 [Bp 11++(.mk 2 m (AY W.d.rep.tail.log)::(Bp 6++(.mk 2 m (Bi W.d.clean)::(Bp 1++(.sn 4 4 W.d.waits.length::Bp 2)))))]) (Nc W (.hd a1 (FP W) c1) (.hd a2 (FQ W) c2)):=
  .aiW e (.append (.same (Bp 11)) (.cons (λu hv h=>by rw[<- NL.eq v1 hv];exact .hd _ _ _) (.append (.same (Bp 6)) (.cons (λu hv h=>by rw[<- NL.eq v2 hv];exact .hd _ _ _) (.same _)))))
 have r1':Dv w I I φ (sh P m) (ld P m):=by refine .arr (.append (a:=[.int .i64 P.d.rep.AQ,.int .i64 P.d.rep.self.node,.int .i64 P.d.rep.self.BD,.int .i64 P.d.rep.view.AQ,.int .i64 P.d.rep.view.Az,.int .i64 P.d.rep.view.gen,.int .i64 P.d.rep.view.phase,.mk 0 m (CD P.d.rep.view.chain),.int .i64 P.d.rep.frozen,.Al .f64 P.d.rep.tail.floor.re P.d.rep.tail.floor.im,.Al .f64 P.d.rep.tail.last.re P.d.rep.tail.last.im]) (Oy _) ?_);refine .cons (λu h=>h) (.append (a:=[.mk 0 m (B7 P.d.rep.seen),.Al .f64 P.d.rep.B5.re P.d.rep.B5.im,.mk 0 m (E6 P.d.rep.synced),.int .i64 P.d.AB.num,.mk 0 m (AY P.d.AB.out),.mk 0 m (Bi P.d.AB.done)]) (Oy _) ?_);refine .cons (λu h=>h) (.append (a:=[.bool P.d.busy]) (Oy _) (.cons (λu h=>h) ?_));exact Oy ([.mk 0 m (E7 P.d.asks),.int .i64 P.d.next]++Bp 10)
 have rt:∀ b,b<8->K4 w I I φ b (Ab (dJ s P m W).hp b) (Ab (BF P m W [] ⟨a1,c1,a2,c2,A,C⟩).hp b):=λb hb=>match b,hb with
  | 0,_=>.inl rfl
  | 1,_=>r1'.at 1
  | 2,_=>.refl (.inl rfl)
  | 3,_=>.refl (.inl rfl)
  | 4,_=>(Dv.seq λi _=>Oy (CM W.d.waits i)).at 4
  | 5,_=>.inl rfl
  | 6,_=>r6
  | 7,_=>r7
  | n+8,hb=>absurd hb (by omega)
 have Ni:∀ b,AZ (Ab (BF P m W [] ⟨a1,c1,a2,c2,A,C⟩).hp b)=true->AZ (Ab (dJ s P m W).hp b)=true:=λb hm=>by
  rcases rt b (al hm)with x | ⟨x,_⟩
  ·rw[x]at hm;cases hm
  ·exact x
 refine⟨⟨a1,c1,a2,c2,A,C⟩,I,φ,⟨Cr.hh.tell (λB ⟨b,o,s,e1,e2⟩ hB=>Cr.hh.CP b B o s e1 e2 hB) (λB hB=>Cr.hh.lt B hB) rfl rt,Cr.fr⟩,⟨hP.1,λB' ⟨b,o',s',e1,e2⟩=>hP.2.1 B' ⟨b,o',s',Ni b e1,e2⟩,hP.2.2⟩,λh hh hn=>?_⟩;have fin:∀ h:SO,zS w I m h.sz h.n h.a h.c->0<h.n -> ∃ B q,h.a=some ⟨B,q,none⟩/\h.n<=h.c/\m<=B/\M<=B/\B<w.heap.size/\F7 w B/\q+h.c*h.sz<=Bv w B /\
   ∀ b,b ≠ 8->AZ (Ab (BF P m W [] ⟨a1,c1,a2,c2,A,C⟩).hp b)=true -> ∀ o s,φ b ≠ some (B,o,s):=λh hk hn=>by
  obtain⟨B,q,g1,g2,g3,g4,g5,g6⟩:=hk hn;exact⟨B,q,g1,g2,g3,by omega,Cr.hh.lt B g4,g5,g6,λb _ hm o s eb=>Cr.hh.CP b B o s (Ni b hm) eb g4⟩
 rcases hh with rfl | rfl | ⟨j,hj,rfl⟩
 ·exact fin _ h1 hn
 ·exact fin _ h2 hn
 ·exact fin _ (hA j hj) hn
def aza(x:HX):Ow (PW m M I0 W x) (Pm M I0) (BF P m W [] x) (SF P []):=by
 intro w I φ a Cr hP;have rt:∀ b,b<8->Dv w I I φ (Ab (BF P m W [] x).hp b) (Ab (SF P []).hp b):=λb hb=>match b,hb with
  | 0,_=>.inl rfl
  | 1,_=>.arr (.append (.jf (cs:=Bp 11) rfl) (.cons .zR (.append (.jf (cs:=Bp 6) rfl) (.cons .zR (.append (.jf (cs:=Bp 1) rfl) (.cons .zR (.jf rfl)))))))
  | 2,_=>.refl (.inl rfl)
  | 3,_=>.refl (.inl rfl)
  | 4,_=>.inl rfl
  | 5,_=>.inl rfl
  | 6,_=>.inl rfl
  | 7,_=>.inl rfl
  | n+8,hb=>absurd hb (by omega)
 refine⟨I,φ,⟨Cr.hh.sub (λB hB=>hB) rfl rt,λt=>?_⟩,hP.1.1,λB' ⟨b,o',s',e1,e2⟩=>hP.1.2.1 B' ⟨b,o',s',?_,e2⟩,hP.1.2.2⟩
 ·match t with
  | 0 | 1 | 2 | 3 | 4 | 5 | 6 | 7 | 8 | 9=>exact Cr.fr _
  | 10 | 11=>exact .undef _
  | n+12=>exact Cr.fr _
 ·rcases rt b (al e1)with x | ⟨x,_⟩
  ·rw[x]at e1;cases e1
  ·exact x
def zT(z:Fr)(hp:Heap):Ow (Pm M I0) (Up 0 M I0) {fr:=[(4,.bool true)],hp:=hp} {fr:=[(4,.bool true)],hp:=[]}:=by
 intro w I φ a Cr hP;refine⟨λ_=>False,Ac.no,⟨RH.empty w _ λB hB=>hB.elim,λt=>?_⟩,⟨hP.1,λB hB=>(Fw hB).elim,λB hB=>hB.elim⟩,λB hB=>hB.elim⟩
 match t with
 | 4=>exact((Cr.fr 4).jf (λ_=>False) rfl).free rfl
 | 0 | 1 | 2 | 3=>exact .undef _
 | n+5=>exact .undef _
def okF:AD (kq 12)=true/\AD (kA 13)=true/\AD (kB 13)=true/\AD (kA 14)=true/\AD (kB 14)=true/\AD (kA 15)=true/\AD (kB 15)=true/\AD (kc (kR 16 []))=true:=
 ⟨by kernel_rfl,by kernel_rfl,by kernel_rfl,by kernel_rfl,by kernel_rfl,by kernel_rfl,by kernel_rfl,by kernel_rfl⟩
def xf{n:Nat}{K:Option St}:lj n K=K:=by unfold lj;rw[Ax rfl];rfl
def ahz{n j:Nat}{b:Bool}{K L:Option St}(h:j<n)(hb:b=true):VV n (j:Nat) b K L=K:=by unfold VV;rw[Ax (show((j:Nat):Int)<(n:Int) by omega),Ae,B8 h,BV,show Nat.blt j n=true from ay h,Ae,B8 h,hb];rfl
def ahA{n:Nat}{b:Bool}{K L:Option St}:VV n (n:Nat) b K L=L:=by unfold VV;rw[AN (Int.lt_irrefl _)];rfl
def azb(hz:Lk P<=100000)(hk:∀ e ∈ P.d.rep.tail.log,e.key.length<=4):LG M (Pm M I0) (Pm M I0) (λQ=>(Code.seq (kA 13) (.block 10 (.loop (kB 13)))).wp PG Q) 215 (SF P []) .normal (SF P []):=by
 obtain⟨_,o1,o2,_⟩:=okF;have la:=(BT (l:=[5,7,8,9,17]) DE DN mixed o1 (awT P)).pm (M:=M) (I0:=I0);have step:∀ j,j<Lk P->LG M (Pm M I0) (Pm M I0) (λQ=>(kB 13).wp PG Q) 215 (SF P [(17,.int .i64 (j:Nat))]) .normal (SF P [(17,.int .i64 ((j+1:Nat):Int))]):=λj hj=>by
  have h:=awU P j;have hne:A5 (P.d.rep.tail.log.getD j default).key [115,112,111,105,108,116]=false:=by
   cases hs:A5 (P.d.rep.tail.log.getD j default).key [115,112,111,105,108,116]with
   | false=>rfl
   | true=>have:=hk _ (De (z:=(default:Entry)) hj);rw[Xe.1 hs]at this;exact absurd this (by decide)
  rw[Ax (show((j:Nat):Int)<(Lk P:Int) by omega),Ae,B8 hj,BV,hne,Aj,Cs (by omega)]at h;exact(BT (l:=[5,7,8,9,17]) DE DN mixed o2 h).pm
 have ex:LG M (Pm M I0) (Pm M I0) (λQ=>(kB 13).wp PG Q) 215 (SF P [(17,.int .i64 (Lk P:Nat))]) (.exit 10) (SF P []):=by have h:=awV P (Lk P);rw[AN (Int.lt_irrefl _),Aj]at h;exact(BT (l:=[5,7,8,9]) DE DN mixed o2 h).pm
 exact la.seq (LG.loop (n:=Lk P) (by simp) (λj=>SF P [(17,.int .i64 (j:Nat))]) step ex).block
def azc(hz:Gb P<=100000)(hk:∀ x ∈ P.d.waits,iY x=true):LG M (Pm M I0) (Pm M I0) (λQ=>(Code.seq (kA 14) (.block 12 (.loop (kB 14)))).wp PG Q) 215 (SF P []) .normal (SF P []):=by
 obtain⟨_,_,_,o1,o2,_⟩:=okF;have la:=(BT (l:=[5,7,8,9,18]) DE DN mixed o1 (awW P)).pm (M:=M) (I0:=I0);have step:∀ j,j<Gb P->LG M (Pm M I0) (Pm M I0) (λQ=>(kB 14).wp PG Q) 215 (SF P [(18,.int .i64 (j:Nat))]) .normal (SF P [(18,.int .i64 ((j+1:Nat):Int))]):=λj hj=>by have h:=awX P j;rw[BV,ahz hj (hk _ (De (z:=(default:C4)) hj)),Cs (by omega)]at h;exact(BT (l:=[5,7,8,9,18]) DE DN mixed o2 h).pm
 have ex:LG M (Pm M I0) (Pm M I0) (λQ=>(kB 14).wp PG Q) 215 (SF P [(18,.int .i64 (Gb P:Nat))]) (.exit 12) (SF P []):=by have h:=awY P (Gb P);rw[ahA]at h;exact(BT (l:=[5,7,8,9]) DE DN mixed o2 h).pm
 exact la.seq (LG.loop (n:=Gb P) (by simp) (λj=>SF P [(18,.int .i64 (j:Nat))]) step ex).block
def azd(hz:GJ P<=100000)(hk:∀ x ∈ P.d.clean,iZ x=true):LG M (Pm M I0) (Pm M I0) (λQ=>(Code.seq (kA 15) (.block 14 (.loop (kB 15)))).wp PG Q) 215 (SF P []) .normal (SF P []):=by
 obtain⟨_,_,_,_,_,o1,o2,_⟩:=okF;have la:=(BT (l:=[5,7,8,9,19]) DE DN mixed o1 (awZ P)).pm (M:=M) (I0:=I0);have step:∀ j,j<GJ P->LG M (Pm M I0) (Pm M I0) (λQ=>(kB 15).wp PG Q) 215 (SF P [(19,.int .i64 (j:Nat))]) .normal (SF P [(19,.int .i64 ((j+1:Nat):Int))]):=λj hj=>by have h:=aw0 P j;rw[BV,ahz hj (hk _ (De (z:=(default:AH)) hj)),Cs (by omega)]at h;exact(BT (l:=[5,7,8,9,19]) DE DN mixed o2 h).pm
 have ex:LG M (Pm M I0) (Pm M I0) (λQ=>(kB 15).wp PG Q) 215 (SF P [(19,.int .i64 (GJ P:Nat))]) (.exit 14) (SF P []):=by have h:=aw1 P (GJ P);rw[ahA]at h;exact(BT (l:=[5,7,8,9]) DE DN mixed o2 h).pm
 exact la.seq (LG.loop (n:=GJ P) (by simp) (λj=>SF P [(19,.int .i64 (j:Nat))]) step ex).block
end
def vZ(S:TypeId->List AV->Prop):List TypeId->List AV->Prop
 | [],cs=>cs=[]
 | t::r,cs=>∃ a b,cs=a++b/\S t a/\vZ S r b
def ahB{S:TypeId->List AV->Prop}:∀ {l:List Field} {cs:List AV},mY S l cs->vZ S (l.map (·.type)) cs
 | [],_,h=>h
 | f::r,_,⟨a,b,h1,h2,h3⟩=>⟨a,b,h1,h2,ahB h3⟩
def sFs:Option TypeDesc->Option (List TypeId)
 | some (.struct fs)=>some (fs.toList.map (·.type))
 | _=>none
def aeq{n:Nat}{t:TypeId}{ts:List TypeId}{cs:List AV}(hu:sFs (PG.underlying t)=some ts)(h:Shape PG (n+1) t cs):vZ (Shape PG n) ts cs:=by
 unfold Shape at h;unfold sFs at hu;split at hu
 ·rename_i fs e;rw[e]at h;injection hu with hu;rw[<- hu];exact ahB h
 ·cases hu
def arH{n:Nat}{cs:List AV}(h:Shape PG (n+1) 3 cs):∃ i,cs=[.int .i64 i]/\FJ i:=by
 have hu:PG.underlying 3=some (.int .i64):=by kernel_rfl
 unfold Shape at h;rw[hu]at h;obtain⟨i,h1,h2,h3⟩:=h;have e1:IntKind.i64.min = -9223372036854775808:=by decide
 have e2:IntKind.i64.max=9223372036854775807:=by decide
 rw[e1]at h2;rw[e2]at h3;exact⟨i,h1,h2,h3⟩
def v5{n:Nat}{cs:List AV}(h:Shape PG (n+1) 5 cs):∃ i,cs=[.int .u8 i]/\0<=i/\i<=255:=by
 have hu:PG.underlying 5=some (.int .u8):=by kernel_rfl
 unfold Shape at h;rw[hu]at h;obtain⟨i,h1,h2,h3⟩:=h;have e1:IntKind.u8.min=0:=by decide
 have e2:IntKind.u8.max=255:=by decide
 rw[e1]at h2;rw[e2]at h3;exact⟨i,h1,h2,h3⟩
def arI{n:Nat}{cs:List AV}(h:Shape PG (n+1) 4 cs):∃ b,cs=[.bool b]:=by
 have hu:PG.underlying 4=some .bool:=by kernel_rfl
 unfold Shape at h;rw[hu]at h;exact h
def v7{n:Nat}{cs:List AV}(h:Shape PG (n+1) 9 cs):∃ s,cs=[.str s]:=by
 have hu:PG.underlying 9=some .string:=by kernel_rfl
 unfold Shape at h;rw[hu]at h;obtain⟨s,h1,_⟩:=h;exact⟨s,h1⟩
def amC{X:Type}{z:X}{e:X->List AV}{Q:X->Prop}{m:Nat}{f:Nat->List AV}(h:∀ i,i<m -> ∃ x,CJ (f i) (e x)/\Q x):∃ l:List X,l.length=m/\(∀ i,i<m->CJ (f i) (e (l.getD i z))) /\ ∀ x ∈ l,Q x:=by
 induction m with
 | zero=>exact⟨[],rfl,λi hi=>by omega,λx hx=>by cases hx⟩
 | succ m ih=>
  obtain⟨l,h1,h2,h3⟩:=ih λi hi=>h i (by omega);obtain⟨x,hx,hq⟩:=h m (by omega);refine⟨l++[x],by simp[h1],λi hi=>?_,λy hy=>?_⟩
  ·by_cases hm:i<m
   ·have:(l++[x]).getD i z=l.getD i z:=by simp[List.getD,DY (by omega:i<l.length)]
    rw[this];exact h2 i hm
   ·have:i=m:=by omega
    subst this;have:(l++[x]).getD i z=x:=by subst h1;simp[List.getD]
    rw[this];exact hx
  ·rcases Cp.1 hy with hy | hy
   ·exact h3 y hy
   ·rw[DO.1 hy];exact hq
def arJ{X:Type}{n sz:Nat}{t e:TypeId}{E:X->List AV}{z:X}{Q:X->Prop}{cs:List AV}(hu:PG.underlying t=some (.slice e))(hc:PG.cellsOf e=sz)(hx:∀ c,Shape PG n e c -> ∃ x,CJ c (E x)/\Q x)(h:Shape PG (n+1) t cs) :
  ∃ (c:AV) (l:List X),cs=[c]/\Br c (DQ sz E z l) /\ ∀ x ∈ l,Q x:=by
 obtain⟨c,m,f,rfl,h1,h2,h3⟩:=Shape.list hu h;obtain⟨l,g1,g2,g3⟩:=amC (z:=z) λi hi=>hx _ (h3 i hi);refine⟨c,l,rfl,h1.trans ?_,g3⟩;rw[hc];subst g1;exact .N2 g2
def ao5{n:Nat}{cs:List AV}(h:Shape PG (n+2) 53 cs):∃ o:Md.Op,cs=P5 o/\FJ o.kind:=by obtain⟨c1,d1,rfl,h1,c2,d2,rfl,h2,c3,d3,rfl,h3,c4,d4,rfl,h4,c5,d5,rfl,h5,rfl⟩:=aeq (ts:=[3,9,9,9,4]) (by kernel_rfl) h;obtain⟨i,rfl,hi⟩:=arH h1;obtain⟨a,rfl⟩:=v7 h2;obtain⟨b,rfl⟩:=v7 h3;obtain⟨c,rfl⟩:=v7 h4;obtain⟨e,rfl⟩:=arI h5;exact⟨⟨i,a,b,c,e⟩,rfl,hi⟩
def abY{n:Nat}{cs:List AV}(h:Shape PG (n+3) 80 cs):∃ s:Bl,CJ cs (IS s)/\TB s:=by obtain⟨c1,d1,rfl,h1,c2,d2,rfl,h2,c3,d3,rfl,h3,c4,d4,rfl,h4,rfl⟩:=aeq (ts:=[5,5,5,53]) (by kernel_rfl) h;obtain⟨a,rfl,ha⟩:=v5 h1;obtain⟨b,rfl,hb⟩:=v5 h2;obtain⟨c,rfl,hc⟩:=v5 h3;obtain⟨o,rfl,ho⟩:=ao5 h4;refine⟨⟨a,b,c,o⟩,?_,⟨ha,hb,hc,ho⟩⟩;rw[FY];exact .refl _
def aze:AD (kq 0)=true/\AD (kq 1)=true/\AD (kq 2)=true/\AD (kq 3)=true/\AD (kq 4)=true/\AD (kq 5)=true/\AD (kq 6)=true/\AD (kq 7)=true:=
 ⟨by kernel_rfl,by kernel_rfl,by kernel_rfl,by kernel_rfl,by kernel_rfl,by kernel_rfl,by kernel_rfl,by kernel_rfl⟩
def auc{s:Bl}{x y:Option St}(h:50<s.o.key.length\/50<s.o.val.length\/50<s.o.Bc.length):bW s x y=x:=by
 unfold bW;cases h1:decide (50<(s.o.key.length:Int))with
 | true=>rfl
 | false=>
  cases h2:decide (50<(s.o.val.length:Int))with
  | true=>rfl
  | false=>
   cases h3:decide (50<(s.o.Bc.length:Int))with
   | true=>rfl
   | false=>have:=Gk h1;have:=Gk h2;have:=Gk h3;omega
def aud{s:Bl}{x y:Option St}(h:¬ (50<s.o.key.length\/50<s.o.val.length\/50<s.o.Bc.length)):bW s x y=y:=by unfold bW;rw[AN (by omega),AN (by omega),AN (by omega)];rfl
def arK(m:Nat)(d:Md.AL):CJ (pD1 m d) (Jd m d):=
 .cons (.refl _) (.cons (.refl _) (.cons (.refl _) (.cons (.refl _) (.cons (.refl _) (.cons (.refl _) (.cons (.refl _) (.cons (.refl _) (.cons (.refl _) (.cons (.refl _) (.cons (.refl _) (.cons .zd (.cons (.refl _) (.cons (.refl _) (.cons (.refl _)
  (.cons (.refl _) (.cons (.refl _) (.cons (.refl _) (.cons .zd (.cons (.refl _) (.cons .zd (.cons (.refl _) (.cons (.refl _) .nil))))))))))))))))))))))
def arL(tt:TT):Ip tt {fr:=[(4,.bool true)],hp:=[]} [.tmp 4] (λvs=>MQ 0 (Ge vs) ([]:Heap))=some (.bool true,[]):=by kernel_rfl
def aue(l:List Bl)(hl:∀ x ∈ l,TB x)(s:Bl)(hs:TB s):At PG Zr [JA l,.agg (IS s)] [] (.bool true) []:=by
 obtain⟨P,b,j,hj,⟨⟨A,H,f,h⟩,T6⟩,hc⟩:=aoZ l hl;obtain⟨q0,q1,q2,q3,q4,q5,q6,q7⟩:=aze;obtain⟨fn,hf,hb,GI,Ew⟩:∃ fn,(Zl []).code Zr=some fn/\fn.body=some bdK/\fn.ntmps=215/\fn.results.toList=[.tmp 4]:=⟨_,rfl,by kernel_rfl,by kernel_rfl,by kernel_rfl⟩
 refine TU.bool (wR DE Gc hf hb (.inr rfl) (T:={fr:=[(4,.bool true)],hp:=[]}) (λM I0 _=>?_) (by rw[Ew];exact arL _));rw[at8,GI];have run:∀ {kn:List Af},(∀ k ∈ kn,k.Ok PG)->EN PG (Dl (R:=St) (Zl kn) 5):=λhk=>Iw (Gd hk) Gc mixed 5;have L0:=(BT (l:=[0,3]) DE DN mixed q0 (j_0 l s)).pm (M:=M) (I0:=I0);have k1:∀ k ∈ [ahs],k.Ok PG:=ak (Af.Xs ao0) AR;have L1:=(BT (l:=[0,3]) (Gd k1) (run k1) mixed q1 ((j_1 l s).trans (Rx .nil))).pm (M:=M) (I0:=I0);have k2:∀ k ∈ [aht l P b],k.Ok PG:=ak (Af.Xs hc) AR;have L2:=(BT (l:=[3,5,6]) (Gd k2) (run k2) mixed q2 ((j_2 l s P b).trans (Rx (.refl _)))).pm (M:=M) (I0:=I0);refine L0.seq (L1.seq (L2.seq ?_));cases b with
 | false=>exact((BT (l:=[4]) DE DN mixed q3 (ayI s P)).pm.to (zT [] _)).Nt
 | true=>
 by_cases hlen:50<s.o.key.length\/50<s.o.val.length\/50<s.o.Bc.length
 ·exact((BT (l:=[4]) DE DN mixed q3 ((ayJ s P).trans (auc hlen))).pm.to (zT [] _)).Nt
 have L3:=(BT (l:=[3,5]) DE DN mixed q3 ((ayK s P).trans (aud hlen))).pm (M:=M) (I0:=I0);have L4:=(BT (l:=[3,5,7]) DE DN mixed q4 (j_4 s P)).pm (M:=M) (I0:=I0);obtain⟨Yu,Ez⟩:=arG h (by have:=ahy l j hj;rw[<- T6]at this;exact this) hj (o:=s.o) ⟨hs.kind,by omega,by omega⟩;have hB:500+30*j+30<=8000:=by omega
 have Fo:Dk 1 99 s.o ∈ (cx A (P.ops++[Dk 1 99 s.o]) P.d).ops:=Vo _ (DO.2 rfl);obtain⟨_,H',f',hgr,hff,Zq⟩:=Xd Yu (.inl Fo) hB;have Vx:∀ m,At PG Ei [.agg (Jd m P.d),.agg (D4 K1),.agg (Aq (Dk 1 99 s.o))] [] (pd m (EW (P.d,K1,Dk 1 99 s.o))) (kG m (EW (P.d,K1,Dk 1 99 s.o))):=λm=>ajY m Yu Fo Ez hB;have zy:=h.ds.rep;have Qq:P.d.rep.tail.log=H.drop f:=by rw[zy];rfl
 have hlg:Lk P<=100000:=by show P.d.rep.tail.log.length<=_;have:=h.ds.h.len;rw[Qq,XC];omega
 have aw4:∀ e ∈ P.d.rep.tail.log,e.key.length<=4:=λe he=>by
  rw[Qq]at he;obtain⟨q,_,_,_,g1,g2⟩:=h.ds.h.call e (Qd he);rw[g2];unfold GM at g1;cases hk:decide (K1.maxKey<(q.op.key.length:Int))with
  | true=>rw[hk]at g1;revert g1;cases decide (q.op.kind<1)||decide (5<q.op.kind) <;> cases !decide (q.op.kind=5)&&A5 q.op.key [] <;> (intro g1;exact absurd (show _=_ from g1) (by simp))
  | false=>have:=Gk hk;have:K1.maxKey=4:=rfl;omega
 have hws:Gb P<=100000:=by have:=h.ds.waits.1;show P.d.waits.length<=_;omega
 have Ey:GJ P<=100000:=by have:=h.ds.clean.1;show P.d.clean.length<=_;omega
 have hwt:∀ x ∈ P.d.waits,iY x=true:=λx hx=>by
  obtain⟨_,e,h1,h2,h3⟩:=h.ds.waits.2 x hx;have hv:AU x.Ag:=by rw[h3];exact h.ds.h.num (fm h1).1
  have:=adg hv;unfold Zi at this;rw[My]at this;unfold iY;rw[this.1,this.2,Ax rfl,Ax rfl,Ax rfl];rfl
 have Pb:∀ x ∈ P.d.clean,iZ x=true:=λx hx=>by have hv:AU x.Ag:=(h.ds.clean.2 x hx).2.1;have:=adg hv;unfold Zi at this;rw[My]at this;unfold iZ;rw[Xe.2 rfl,Xe.2 rfl,this.1,this.2];cases x.has <;> rfl
 generalize EW (P.d,K1,Dk 1 99 s.o)=W at Vx Zq;have hrW:=Zq.d.rep;have zl:FP W<=100000:=by show W.d.rep.tail.log.length<=_;have:=Zq.d.h.len;rw[show W.d.rep.tail.log=H'.drop f' from by rw[hrW];rfl,XC];omega
 have zc:FQ W<=100000:=by have:=Zq.d.clean.1;show W.d.clean.length<=_;omega
 have zw:Rb W<=100000:=by have:=Zq.d.waits.1;show W.d.waits.length<=_;omega
 have zo:EK W<=100000:=by have:=Zq.out;show W.out.length<=_;omega
 have ze:∀ i,i<EK W->nE W i<=100000:=λi hi=>by
  show(W.out.getD i default).entries.length<=_;rcases Zq.said _ (De (z:=(default:Ad)) hi)with (x | x) | x
  ·rw[x.Je];exact Bu _
  ·rw[x.Je];exact Bu _
  ·have:=x.Je.1;omega
 have L5:LG M (Pm M I0) (Pm M I0) (λQ=>(kq 5).wp PG Q) 215 (KS5 s P) .normal (Zo s P (.sn 4 2 (Gb P)) (.seq true 4 (Gb P) (CM P.d.waits))):=by
  by_cases h0:Gb P=0
  ·exact(J5 DE DN mixed q5 ((j_5 s P).trans (ahw h0))).pm.to (aiX (λ_ _ _=>.aiV h0) (by rw[h0]))
  ·exact(J5 DE DN mixed q5 ((j_5 s P).trans (ahx h0 hws (by omega)))).pm.to (aiX (λ_ _ _=>.refl (.inl rfl)) rfl)
 have L6:LG M (Pm M I0) (Pm M I0) (λQ=>(kq 6).wp PG Q) 215 (Zo s P (.sn 4 2 (Gb P)) (.seq true 4 (Gb P) (CM P.d.waits))) .normal (Zp s P (.sn 4 3 (GJ P)) (.seq true 4 (GJ P) (Zn P.d.clean))):=by
  by_cases h0:GJ P=0
  ·exact(J5 DE DN mixed q6 ((j_6 s P).trans (ahw h0))).pm.to (aiY (λ_ _ _=>.aiV h0) (by rw[h0]))
  ·exact(J5 DE DN mixed q6 ((j_6 s P).trans (ahx h0 Ey (by omega)))).pm.to (aiY (λ_ _ _=>.refl (.inl rfl)) rfl)
 refine L3.seq (L4.seq (L5.seq ((L6.ij aw2).jb λm=>.hyp λhM=>?_)));have k7:∀ k ∈ [yf,aiT m W P.d (Dk 1 99 s.o)],k.Ok PG:=ak ao1 (ak (Af.Mn λ_ _=>Vx m) AR);have L7:LG M (Pm M I0) (Pm M I0) (λQ=>(kq 7).wp PG Q) 215 (si s P m) .normal (dJ s P m W):=(BT (l:=[5,7,8,9,10,11]) (Gd k7) (run k7) mixed q7 ((j_7 s P m W (Dk 1 99 s.o)).trans ((Rx .nil).trans (Rx (.cons (.agg (arK m P.d)) (.cons (.refl _) (.cons (.agg (mP _ ⟨rfl,rfl,rfl,rfl,rfl⟩)) .nil))))))).pm;refine(L7.ij (aub hM)).jb λx=>(lp1 zl x).jb λx=>(lp2 zc x).jb λx=>(lp3 zw x).seq ((lp4 zo ze x).jb λx=>LG.RD (aza x) ?_);obtain⟨kC,_,_,_,_,_,_,o16⟩:=okF;have YZ:=(BT (l:=[5,7,8,9]) DE DN mixed kC ((ayZ P).trans (xf.trans (xf.trans xf)))).pm (M:=M) (I0:=I0);exact YZ.seq ((azb hlg aw4).seq ((azc hws hwt).seq ((azd Ey Pb).seq ((BT (l:=[4]) DE DN mixed o16 (ay0 P)).pm.to (zT [] _)))))
def akN{Mf:List AV}(h:oI PG 9 [22,80] Mf):∃ (l:List Bl) (s:Bl),(∀ x ∈ l,TB x)/\TB s/\CJ Mf [JA l,.agg (IS s)]:=by
 obtain⟨av,r,hs,rfl,av2,r2,Kx,rfl,rfl⟩:=h;obtain⟨c,l,rfl,h1,h2⟩:=arJ (n:=8) (sz:=8) (t:=22) (e:=80) (E:=IS) (z:=default) (Q:=TB) (by kernel_rfl) (by kernel_rfl) (λc h=>abY (n:=5) h) hs;obtain⟨x,g1,g2⟩:=abY (n:=6) Kx;have u:PG.underlying 22=some (.slice 80):=by kernel_rfl
 have e2:Vc PG 22 [c]=c:=by unfold Vc;rw[u];rfl
 have u8:(PG.underlying 80).map (λd=>match d with | .struct _=>true | _=>false)=some true:=by kernel_rfl
 have e8:Vc PG 80 av2=.agg av2:=by
  unfold Vc;cases hu:PG.underlying 80 with
  | none=>rw[hu]at u8;cases u8
  | some d=>rw[hu]at u8;cases d <;> first | rfl | cases u8
 rw[e2,e8];exact⟨l,x,h2,g2,.cons h1 (.cons (.agg g1) .nil)⟩
def ajw:ahU PG 9 Zr [22,80]:=by intro Mf h;obtain⟨l,s,h1,h2,h3⟩:=akN h;exact(aue l h1 s h2).args h3
end Go.Hd
end
