/- Part 6 of the texts that the proof needs: the abstract machine, plain laws, contracts of the program's functions. No statement is claimed here. -/
import Derived.Test.YtbalmcpknmjgkaaGreatPart5
set_option linter.unusedVariables false
set_option linter.unusedSimpArgs false
noncomputable section
open Go Go.AM Go.Md
namespace Go.Hd
open Go.Wk
set_option maxRecDepth 100000
set_option maxHeartbeats 400000
theorem aje(l:List HStp)(hl:∀ s ∈ l,PU s):Aa PG BO [GH l] [] (.bool true) []:=by
 obtain⟨P,b,j,hj,⟨A,H,f,h⟩,hc⟩:=af8 l hl
 obtain⟨s1,s2,s3,s4,s5⟩:=h.sz
 have hh:=h.ds.h
 have hrl:=h.st.len
 obtain⟨N,hN⟩:∃ N,N=1000000:=⟨_,rfl⟩
 have aaR:∀ k i m,i+k=P.d.clean.length->k<m->cH (HU l P b) N m (yB P (i:Nat))=some (.bool true):=by
  intro k
  induction k with
  | zero=>
   intro i m hi hm
   obtain⟨m,rfl⟩:∃ k,m=k+1:=⟨m - 1,by omega⟩
   rw[ajd,decide_eq_false (by omega),cond_false]
  | succ k ih=>
   intro i m hi hm
   obtain⟨m,rfl⟩:∃ k,m=k+1:=⟨m - 1,by omega⟩
   have hil:i<P.d.clean.length:=by omega
   have hcl:=h.ds.clean.1
   have hw:IntKind.i64.wrap ((i:Int)+1)=((i+1:Nat):Int):=Bz (by omega)
   obtain⟨x,hx⟩:∃ x,P.d.clean.getD i default=x:=⟨_,rfl⟩
   have hxm:x ∈ P.d.clean:=by rw[<- hx];exact getD_mem hil
   obtain⟨c1,c2⟩:=h.ds.clean.2 x hxm
   have hll:=h.ds.loglen.2
   have q1:∀ {K:TK->Option AV},ajc P.d.rep.tail x.key K=K (P.d.rep.tail,x.key):=fun {K}=>aH (by omega)
   have q2:∀ {K:RK->Option AV},gRf P.st.rows x.key K=K (P.st.rows,x.key):=fun {K}=>Aw ((P.st.rows,x.key):RK) (wU (P.st.rows,x.key)) (by show P.st.rows.length<=100000;omega) (.refl _)
   rw[ajd,decide_eq_true (show((i:Nat):Int)<(P.d.clean.length:Int) by omega),cond_true,Bq hil,Int.toNat_natCast,hw,hx,q1,q2,ih (i+1) m (by omega) (by omega)]
   dsimp only
   cases hv:(Dt P.d.rep.tail x.key).2 with
   | true=>rfl
   | false=>
    have hno:LY (H.drop f) x.key:=by
     have hlog:P.d.rep.tail.log=H.drop f:=by rw[h.ds.rep];rfl
     unfold LY
     rw[<- hlog]
     unfold Dt at hv
     cases hz:Da P.d.rep.tail.log x.key with
     | none=>rfl
     | some y=>rw[hz]at hv;cases hv
    have hA:=oS (C:=cx A P.ops P.d) hh h.st.a h.ds.ap hno
    have hA:A x.key=LW H x.key:=hA
    unfold Cl at c2
    rw[<- hA]at c2
    show chC x (Cu P.st.rows x.key) (some (.bool true))=some (.bool true)
    unfold chC
    cases hf:(Cu P.st.rows x.key).2 with
    | true=>
     obtain⟨m1,m2⟩:=Lv hf
     obtain⟨y,y1,y2⟩:=h.st.rw.row _ m1
     rw[m2]at y1
     rw[y1]at c2
     dsimp only at c2
     rw[y2,cond_true]
     show(bif neB x.has (!y.del)then KE else bif x.has then bif !Ah x.val (bif !y.del then y.val else [])then KE else some (.bool true)else some (.bool true))=_
     rw[c2.1,acq,cond_false]
     cases hd:y.del with
     | true=>rfl
     | false=>
      show(bif !Ah x.val y.val then KE else some (.bool true))=_
      rw[Hl.2 (c2.2 hd)];rfl
    | false=>
     rw[cond_false]
     have hfalse:x.has=false:=by
      cases hy:A x.key with
      | none=>rw[hy]at c2;exact c2
      | some y=>
       rw[hy]at c2
       have:=(h.st.rw.no x.key y hy (TB.1 hf)).1
       rw[c2.1,this];rfl
     rw[hfalse];rfl
 have QZ:∀ (m i:Nat),i<P.st.rows.length -> ∀ k q x z,x+k=P.log.length->k<q->(z=true \/ ∃ y ∈ P.log.drop x,y.write=true/\P.st.rows.getD i default=LQ y)->Wa (HU l P b) N m q (kA P (i:Nat) z (x:Nat))=cG (HU l P b) N m (yA P (IntKind.i64.wrap ((i:Int)+1))):=by
  intro m i hi k
  induction k with
  | zero=>
   intro q x z hx hq hz
   obtain⟨q,rfl⟩:∃ k,q=k+1:=⟨q - 1,by omega⟩
   rw[ajb,decide_eq_false (by omega),cond_false]
   rcases hz with rfl | ⟨y,y1,_⟩
   ·rfl
   ·rw[List.drop_eq_nil_of_le (by omega)]at y1;cases y1
  | succ k ih=>
   intro q x z hx hq hz
   obtain⟨q,rfl⟩:∃ k,q=k+1:=⟨q - 1,by omega⟩
   have hil:x<P.log.length:=by omega
   have hw:IntKind.i64.wrap ((x:Int)+1)=((x+1:Nat):Int):=Bz (by omega)
   rw[ajb,decide_eq_true (show((x:Nat):Int)<(P.log.length:Int) by omega),cond_true,Bq hil,Int.toNat_natCast,hw]
   obtain⟨e,he⟩:∃ e,P.log.getD x default=e:=⟨_,rfl⟩
   rw[he]
   obtain⟨r,hr⟩:∃ r,P.st.rows.getD i default=r:=⟨_,rfl⟩
   rw[hr]at hz
   have gx:∀ {K:Option AV},rg (i:Int) P.st.rows.length K=K:=fun {K}=>Bq hi
   have key:∃ z',chS P (i:Nat) z e (fun z=>Wa (HU l P b) N m q (kA P (i:Nat) z ((x+1:Nat):Int)))=Wa (HU l P b) N m q (kA P (i:Nat) z' ((x+1:Nat):Int))/\(z=true->z'=true)/\(e.write=true->r=LQ e->z'=true):=by
    unfold chS
    rw[gx,gx,gx,gx,Int.toNat_natCast,hr]
    cases z with
    | true=>exact⟨true,rfl,fun _=>rfl,fun _ _=>rfl⟩
    | false=>
     rw[cond_false]
     by_cases hwr:e.write=true/\r=LQ e
     ·obtain⟨w1,w2⟩:=hwr
      have hv:Au e.ver:=hh.num (h.log e (by rw[<- he];exact getD_mem hil))
      have k1:Ah e.key r.key=true:=Hl.2 (by rw[w2];rfl)
      have k2:XC e.ver r.ver=true:=by rw[w2];exact acn hv
      have k3:eqB e.del r.del=true:=by rw[w2];show eqB e.del e.del=true;cases e.del <;> rfl
      rw[w1,k1,k2,k3]
      cases hd:e.del with
      | true=>exact⟨true,rfl,fun _=>rfl,fun _ _=>rfl⟩
      | false=>
       have k4:Ah e.val r.val=true:=Hl.2 (by rw[w2];show e.val=bif !e.del then e.val else [];rw[hd];rfl)
       rw[k4]
       exact⟨true,rfl,fun _=>rfl,fun _ _=>rfl⟩
     ·cases hw':e.write with
      | false=>exact⟨false,rfl,id,fun h=>by cases h⟩
      | true=>
       have nz:∀ z',r=LQ e->z'=true:=fun z' b=>absurd ⟨hw',b⟩ hwr
       cases Ah e.key r.key with
       | false=>exact⟨false,rfl,id,fun _=>nz _⟩
       | true=>
        cases XC e.ver r.ver with
        | false=>exact⟨false,rfl,id,fun _=>nz _⟩
        | true=>
         cases eqB e.del r.del with
         | false=>exact⟨false,rfl,id,fun _=>nz _⟩
         | true=>
          cases e.del with
          | true=>exact⟨true,rfl,fun h=>(by cases h),fun _ _=>rfl⟩
          | false=>exact⟨Ah e.val r.val,rfl,fun h=>(by cases h),fun _=>nz _⟩
   obtain⟨z',z1,z2,z3⟩:=key
   rw[z1]
   refine ih q (x+1) z' (by omega) (by omega) ?_
   rw[hr]
   rcases hz with hz | ⟨y,y1,y2,y3⟩
   ·exact .inl (z2 hz)
   ·rw[drop_cons (z:=(default:Entry)) hil,he]at y1
    rcases List.mem_cons.1 y1 with rfl | y1
    ·exact .inl (z3 y2 y3)
    ·exact .inr ⟨y,y1,y2,y3⟩
 have aaT:∀ k i m,i+k=P.st.rows.length->k<m->cG (HU l P b) N m (yA P (i:Nat))=some (.bool true):=by
  intro k
  induction k with
  | zero=>
   intro i m hi hm
   obtain⟨m,rfl⟩:∃ k,m=k+1:=⟨m - 1,by omega⟩
   have hcl:=h.ds.clean.1
   rw[aja,decide_eq_false (by omega),cond_false]
   exact aaR P.d.clean.length 0 N (by omega) (by omega)
  | succ k ih=>
   intro i m hi hm
   obtain⟨m,rfl⟩:∃ k,m=k+1:=⟨m - 1,by omega⟩
   have hil:i<P.st.rows.length:=by omega
   have hw:IntKind.i64.wrap ((i:Int)+1)=((i+1:Nat):Int):=Bz (by omega)
   obtain⟨y,y1,y2⟩:=h.st.rw.row _ (getD_mem (z:=(default:Row)) hil)
   obtain⟨a1,a2,_⟩:=h.st.a _ _ y1
   rw[aja,decide_eq_true (show((i:Nat):Int)<(P.st.rows.length:Int) by omega),cond_true]
   refine(QZ m i hil P.log.length N 0 false (by omega) (by omega) (.inr ⟨y,by rw[List.drop_zero];exact h.wlog y a1 a2,a2,y2⟩)).trans ?_
   rw[hw]
   exact ih (i+1) m (by omega) (by omega)
 have e:=alw N l P b
 rw[ai9,ai9]at e
 refine BQ (l:=HU l P b) (ak (Known.one_ok aco) (ak (Known.one_ok hc) (ak Re (ak Rp AL)))) (n:=N+1) (e.trans ?_)
 cases b with
 | false=>rw[Bool.not_false,cond_true]
 | true=>
  rw[Bool.not_true,cond_false]
  exact aaT P.st.rows.length 0 N (by omega) (by omega)
end Go.Hd
end
noncomputable section
open Go Go.AM Go.Md
namespace Go.Hd
open Go.Wk
set_option maxRecDepth 100000
def Wb(S:TypeId->List AV->Prop):List TypeId->List AV->Prop
 | [],cs=>cs=[]
 | t::r,cs=>∃ a b,cs=a++b/\S t a/\Wb S r b
theorem adS{S:TypeId->List AV->Prop}:∀ {l:List Field} {cs:List AV},RX S l cs->Wb S (l.map (·.type)) cs
 | [],_,h=>h
 | f::r,_,⟨a,b,h1,h2,h3⟩=>⟨a,b,h1,h2,adS h3⟩
def sFs:Option TypeDesc->Option (List TypeId)
 | some (.struct fs)=>some (fs.toList.map (·.type))
 | _=>none
theorem kB{n:Nat}{t:TypeId}{ts:List TypeId}{cs:List AV}(hu:sFs (PG.underlying t)=some ts)(h:Shape PG (n+1) t cs):Wb (Shape PG n) ts cs:=by
 unfold Shape at h
 unfold sFs at hu
 split at hu
 ·rename_i fs e
  rw[e]at h
  injection hu with hu
  rw[<- hu]
  exact adS h
 ·cases hu
theorem agd{n:Nat}{cs:List AV}(h:Shape PG (n+1) 3 cs):∃ i,cs=[.int .i64 i]/\GL i:=by
 have hu:PG.underlying 3=some (.int .i64):=by kernel_rfl
 unfold Shape at h
 rw[hu]at h
 obtain⟨i,h1,h2,h3⟩:=h
 have e1:IntKind.i64.min = -9223372036854775808:=by decide
 have e2:IntKind.i64.max=9223372036854775807:=by decide
 rw[e1]at h2;rw[e2]at h3
 exact⟨i,h1,h2,h3⟩
theorem Wc{n:Nat}{cs:List AV}(h:Shape PG (n+1) 5 cs):∃ i,cs=[.int .u8 i]/\0<=i/\i<=255:=by
 have hu:PG.underlying 5=some (.int .u8):=by kernel_rfl
 unfold Shape at h
 rw[hu]at h
 obtain⟨i,h1,h2,h3⟩:=h
 have e1:IntKind.u8.min=0:=by decide
 have e2:IntKind.u8.max=255:=by decide
 rw[e1]at h2;rw[e2]at h3
 exact⟨i,h1,h2,h3⟩
theorem age{n:Nat}{cs:List AV}(h:Shape PG (n+1) 4 cs):∃ b,cs=[.bool b]:=by
 have hu:PG.underlying 4=some .bool:=by kernel_rfl
 unfold Shape at h
 rw[hu]at h
 exact h
theorem Wd{n:Nat}{cs:List AV}(h:Shape PG (n+1) 9 cs):∃ s,cs=[.str s]:=by
 have hu:PG.underlying 9=some .string:=by kernel_rfl
 unfold Shape at h
 rw[hu]at h
 obtain⟨s,h1,_⟩:=h
 exact⟨s,h1⟩
theorem yC{X:Type}{z:X}{e:X->List AV}{Q:X->Prop}{m:Nat}{f:Nat->List AV}(h:∀ i,i<m -> ∃ x,Cg (f i) (e x)/\Q x):∃ l:List X,l.length=m/\(∀ i,i<m->Cg (f i) (e (l.getD i z))) /\ ∀ x ∈ l,Q x:=by
 induction m with
 | zero=>exact⟨[],rfl,fun i hi=>by omega,fun x hx=>by cases hx⟩
 | succ m ih=>
  obtain⟨l,h1,h2,h3⟩:=ih fun i hi=>h i (by omega)
  obtain⟨x,hx,hq⟩:=h m (by omega)
  refine⟨l++[x],by simp[h1],fun i hi=>?_,fun y hy=>?_⟩
  ·by_cases hm:i<m
   ·have:(l++[x]).getD i z=l.getD i z:=by simp[List.getD,List.getElem?_append_left (by omega:i<l.length)]
    rw[this];exact h2 i hm
   ·have:i=m:=by omega
    subst this
    have:(l++[x]).getD i z=x:=by subst h1;simp[List.getD]
    rw[this];exact hx
  ·rcases List.mem_append.1 hy with hy | hy
   ·exact h3 y hy
   ·rw[List.mem_singleton.1 hy];exact hq
theorem agf{X:Type}{n sz:Nat}{t e:TypeId}{E:X->List AV}{z:X}{Q:X->Prop}{cs:List AV}(hu:PG.underlying t=some (.slice e))(hc:PG.cellsOf e=sz)(hx:∀ c,Shape PG n e c -> ∃ x,Cg c (E x)/\Q x)(h:Shape PG (n+1) t cs) :
  ∃ (c:AV) (l:List X),cs=[c]/\AR c (C5 sz E z l) /\ ∀ x ∈ l,Q x:=by
 obtain⟨c,m,f,rfl,h1,h2,h3⟩:=Shape.list hu h
 obtain⟨l,g1,g2,g3⟩:=yC (z:=z) fun i hi=>hx _ (h3 i hi)
 refine⟨c,l,rfl,h1.trans ?_,g3⟩
 rw[hc]
 subst g1
 exact .trs g2
theorem acr{n:Nat}{cs:List AV}(h:Shape PG (n+2) 53 cs):∃ o:Md.Op,cs=JZ o/\GL o.kind:=by
 obtain⟨c1,d1,rfl,h1,c2,d2,rfl,h2,c3,d3,rfl,h3,c4,d4,rfl,h4,c5,d5,rfl,h5,rfl⟩:=kB (ts:=[3,9,9,9,4]) (by kernel_rfl) h
 obtain⟨i,rfl,hi⟩:=agd h1
 obtain⟨a,rfl⟩:=Wd h2
 obtain⟨b,rfl⟩:=Wd h3
 obtain⟨c,rfl⟩:=Wd h4
 obtain⟨e,rfl⟩:=age h5
 exact⟨⟨i,a,b,c,e⟩,rfl,hi⟩
theorem yD{n:Nat}{cs:List AV}(h:Shape PG (n+3) 80 cs):∃ s:HStp,Cg cs (KX s)/\PU s:=by
 obtain⟨c1,d1,rfl,h1,c2,d2,rfl,h2,c3,d3,rfl,h3,c4,d4,rfl,h4,rfl⟩:=kB (ts:=[5,5,5,53]) (by kernel_rfl) h
 obtain⟨a,rfl,ha⟩:=Wc h1
 obtain⟨b,rfl,hb⟩:=Wc h2
 obtain⟨c,rfl,hc⟩:=Wc h3
 obtain⟨o,rfl,ho⟩:=acr h4
 refine⟨⟨a,b,c,o⟩,?_,⟨ha,hb,hc,ho⟩⟩
 rw[List.append_nil];exact .refl _
theorem oZ{avs:List AV}(h:kT PG 9 [22] avs):∃ l:List HStp,(∀ s ∈ l,PU s)/\Cg avs [GH l]:=by
 obtain⟨av,r,hs,rfl,rfl⟩:=h
 obtain⟨c,l,rfl,h1,h2⟩:=agf (n:=8) (sz:=8) (t:=22) (e:=80) (E:=KX) (z:=default) (Q:=PU) (by kernel_rfl) (by kernel_rfl) (fun c h=>yD (n:=5) h) hs
 have u:PG.underlying 22=some (.slice 80):=by kernel_rfl
 have e2:RY PG 22 [c]=c:=by unfold RY;rw[u];rfl
 rw[e2]
 exact⟨l,h2,.cons h1 .nil⟩
theorem headStore_ok:ago PG 9 BO [22]:=by
 intro avs h
 obtain⟨l,h1,h2⟩:=oZ h
 exact(aje l h1).args h2
end Go.Hd
end
