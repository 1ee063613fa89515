/- Part 2 of the texts that the proof needs: the abstract machine, plain laws, contracts of the program's functions. No statement is claimed here. -/
import Derived.Test.YtbalmcpknmjgkaaGreatPart1
import Derived.Calls
import Derived.Tactics
import Derived.Orders
import Derived.Scope
import Derived.Deep.Slices
import Derived.Carry
import Derived.ChangeSame
import GoSem.Core.Float
import Derived.Test.YtbalmcpknmjgkaaGreatProg
import Derived.KernelRfl
set_option linter.unusedVariables false
set_option linter.unusedSimpArgs false
set_option linter.defProp false
set_option maxRecDepth 100000
set_option maxHeartbeats 1000000
noncomputable section
section
namespace Go.AM
section
variable {R:Type}
def View.take:View->Nat->View
 | .list es,m=>.list (es.take m)
 | .fn _ f,m=>.fn m f
def ak4{P:Program}{w:World}{I:Nat->Prop}{φ:Ac}{rd:Nat->BS}{sz:Nat}{x:AV}{v:View}{u:Value}(hh:RH w I φ rd)(hv:x.view rd sz=some v)(hx:RV w I φ x u){m:Nat}(hm:m<=v.len) :
  ∃ vs,(∀ w':World,w'.heap=w.heap->(Builtin.firstCells sz m u).run P w'=.ok vs w')/\Flat w I (Gl φ v) sz m v.at vs:=by
 rcases Xm hh hv hx with ⟨s,rfl,rfl,rfl⟩ | ⟨B,q,cap,rfl,hr⟩ | ⟨a,n,cap,rfl,h0,rfl⟩
 ·simp only[View.len]at hm;refine⟨_,λ_ _=>rfl,?_⟩;have hf:=ab2 w I s;have hsz:(s.extract 0 m).size=m:=by simp;omega
  have Ab:∀ (p:Nat) u,((s.extract 0 m).data.map λb=>Value.int .u8 b.toNat)[p]? = some u->p<m/\(s.data.map λb=>Value.int .u8 b.toNat)[p]? = some u:=by
   intro p u e;have hp:p<m:=by have:=(Vm.1 e).1;rw[Array.size_map]at this;have h2:(s.extract 0 m).data.size=m:=hsz;omega
   refine⟨hp,?_⟩;rw[Qf]at e ⊢;rw[<- e];congr 1;rw[ByteArray.data_extract,Array.getElem?_extract];have:s.data.size=s.size:=rfl;rw[Ay (by omega),Ev]
  exact⟨by simp;omega,λp u e=>hf.one p u (Ab p u e).2,λi hi=>rfl,λi k c u hi hc e=>hf.val i k c u (by omega) hc (Ab _ u e).2⟩
 ·have hr':yp w I φ sz (v.take m) B q:=by
   cases v with
   | list es=>
    simp only[View.len]at hm;have Ex:∀ i,i<m->View.at (.list (es.take m)) i=View.at (.list es) i:=by intro i hi;simp[View.at,List.getD,KV,hi]
    refine⟨λi hi=>?_,λi hi=>?_⟩
    all_goals
     simp only[View.take,View.len,List.length_take]at hi;have hi:i<m:=by omega
    ·rw[View.take,Ex i hi];exact hr.len i (by simp only[View.len];omega)
    ·rw[View.take,Ex i hi];exact hr.cells i (by simp only[View.len];omega)
   | fn n f=>simp only[View.len]at hm;exact⟨λi hi=>hr.len i (He hi hm),λi hi=>hr.cells i (He hi hm)⟩
  have hl:(v.take m).len=m:=by
   cases v with
   | list es=>simp only[View.len]at hm;simp[View.take,View.len];omega
   | fn n f=>rfl
  obtain⟨vs,h1,h2,h3⟩:=tl hr';rw[hl]at h1 h3;refine⟨vs.toArray,λw' hw=>?_,⟨h3.size,h3.one,λi hi=>?_,λi k c u hi hc e=>?_⟩⟩
  ·simp only[Builtin.firstCells];refine Zy vs h1 λj v e=>?_;have:=h2 j v e;simpa [World.cell?,hw] using this
  all_goals
   have Ex:v.at i=(v.take m).at i:=by
    cases v with
    | list es=>simp[View.take,View.at,List.getD,KV,hi]
    | fn n f=>rfl
   have hp:Gl φ (v.take m)=Gl φ v:=by cases v <;> rfl
  ·rw[Ex];exact h3.len i hi
  ·rw[Ex]at hc;rw[<- hp];exact h3.val i k c u hi hc e
 ·have:m=0:=by omega
  subst this;refine⟨#[],λ_ _=>?_,⟨by simp,by simp,λi hi=>by omega,λi k c u hi=>by omega⟩⟩;cases a with
  | none=>rfl
  | some a=>simp[Builtin.firstCells,loadCells,loadCellsFrom]
section
variable {P:Program} {tt:TT} {ρ:Operand->AV} {rd:Nat->BS} {nx:Nat} {k:KW R} {r:R} {o:Oper} {c:Call} {b:Builtin}
def mU{od:Operand}(hm:od ∈ o.op.operands){sz b off len cm m:Nat}(hd:ρ od=.sl sz b off len cm)(JJ:1<=sz)(JU:m<=len){afM:AV}{ahJ:Value}(Ew:∀ w I φ,RV w I φ afM ahJ)
  {nf:Nat->List AV} {Dn:List Nat} (x':BS)
  (hsrc:∀ (As:Nat->BS) (Aa:Operand->Value) (w:World) (φ:Ac) (I:Nat->Prop),(∀ b' ∈ b::Dn,As b'=rd b')->RH w I φ As->(∀ x ∈ o.op.operands,RV w I φ (ρ x) (Aa x)) ->
   ∃ vs:Array Value,Flat w I (HY φ x') sz m nf vs /\ ∀ a cap w',Aa od=.slice a len cap->(match (generalizing:=false) a with | some a=>storeCells a vs.toList | none=>pure ()).run P w=.ok () w'->(execOp Aa o).run P w=.ok (.value ahJ) w')
  (g1:PZ x'=true) (g2:AZ x'=true) (g3:PZ (rd b)=true) (g4:AZ (rd b)=true) (g5:So x'=So (rd b)) (g6:∀ φ,HY φ x'=HY φ (rd b)) (g7:1<=m -> ∃ cs,elemAt (rd b) (off+m - 1)=some cs)
  (g8:∀ i A3,elemAt x' i=some A3->(off<=i/\i<off+m/\A3=nf (i - off))\/(¬ (off<=i/\i<off+m)/\elemAt (rd b) i=some A3)) (g9:m=0->x'=rd b)
  (hk:k afM [(b,x')] (b::Dn)=some r):Good P o ρ rd k r:=by
 refine⟨_,_,_,hk,λAs Aa w φ I hrd _ hh hx=>?_⟩;obtain⟨vs,hf,hrun⟩:=hsrc As Aa w φ I hrd hh hx;have Aw:=hrd b (by simp);have hs:=hd ▸ hx od hm;by_cases Hm:m=0
 ·have hvs:vs = #[]:=by
   have:=hf.size;rw[Hm,JF]at this;exact TC this
  have he:Ee As [(b,x')]=As:=by
   funext b';show BU As b x' b'=As b';unfold BU;split
   ·rename_i e;rw[e,g9 Hm,Aw]
   ·rfl
  obtain⟨a,cap,hu⟩:∃ a cap,Aa od=.slice a len cap:=by generalize Aa od=u at hs;cases hs <;> exact⟨_,_,rfl⟩
  have:=hrun a cap w hu (by rw[hvs];cases a <;> rfl);exact⟨_,w,φ,I,.inl this,Ew _ _ _,by rw[he];exact hh,λbase=>by rw[he];exact Step.refl _ _ _ _ _,Ac.le_refl _⟩
 ·generalize hu:Aa od=u at hs;cases hs with
  | sl _ _ B Fs _ _ _ cap q AI hq hl hcc hs'=>
   obtain⟨w',hw1,hw2,hw3⟩:=aaA (P:=P) (p:=off) (m:=m) (nf:=nf) (vs:=vs) (x':=x') hh AI (by rw[Aw];exact g4) (by rw[Aw];exact g3) hf JJ (by omega)
    (by rw[Aw];exact g7 (by omega)) g1 g2 (by rw[Aw];exact g5) (by rw[Aw];exact g6 φ) (by rw[Aw];exact g8)
   have:=hrun _ cap w' hu (by simp only[];rw[hq];exact hw1);exact⟨_,w',φ,I,.inl this,Ew _ _ _,hw2,hw3,Ac.le_refl _⟩
  | sle=>omega
def ak5(A7:E8 P tt)(ho:o.op=.call c)(hc:c.callee=.builtin .copy){d x:AV}{t:TypeId}{tr:List TypeId}(FV:c.args.toList.map ρ=[d,x])
  (Ig:c.argTypes.toList=t::tr) (h:Oj tt rd nx .copy (t::tr) [d,x] k=some r):Good P o ρ rd k r:=by
 simp only[Oj]at h;obtain⟨ti,Cc,h⟩:=CE h;obtain⟨oa,ob,Gn,had,GR⟩:=aF FV;clear FV;have hm1:oa ∈ o.op.operands:=by simp[ho,Op.operands,Call.operands,hc,Gn]
 have hm2:ob ∈ o.op.operands:=by simp[ho,Op.operands,Call.operands,hc,Gn]
 have HJ:c.argTypes[0]? = some t:=by rw[<- HV,Ig];rfl
 split at h
 ·rename_i e sz b off len cm hd had;obtain⟨te,Eb,h1⟩:=CE h;clear h;obtain⟨Wb,h2⟩:=BG h1;clear h1;obtain⟨hsz,JJ⟩:=A4 Wb;have hsz:=BN hsz;have JJ:=DZ JJ;clear Wb;subst hsz;obtain⟨new,ER,h⟩:=lT h2;clear h2;have hsrc:∀ (x':BS),(∀ w I φ vn,Flat w I (Gl φ new) te.size (min new.len len) new.at vn->Flat w I (HY φ x') te.size (min new.len len) new.at vn) ->
    ∀ (As:Nat->BS) (Aa:Operand->Value) (w:World) (φ:Ac) (I:Nat->Prop),(∀ b' ∈ b::x.Fx,As b'=rd b')->RH w I φ As->(∀ x ∈ o.op.operands,RV w I φ (ρ x) (Aa x)) ->
     ∃ vs:Array Value,Flat w I (HY φ x') te.size (min new.len len) new.at vs /\ ∀ a cap w',Aa oa=.slice a len cap->(match (generalizing:=false) a with | some a=>storeCells a vs.toList | none=>pure ()).run P w=.ok () w'->(execOp Aa o).run P w=.ok (.value (.int .i64 (min new.len len:Nat))) w':=by
   intro x' Fb As Aa w φ I hrd hh hx;have EZ:=GR ▸ hx ob hm2;have Ih:x.view As te.size=some new:=by rw[KF λb hb=>hrd b (by simp[hb])];exact ER
   obtain⟨hl,_⟩:=tE (P:=P) hh Ih EZ;obtain⟨vs,h1,h2⟩:=ak4 (P:=P) hh Ih EZ (m:=min new.len len) (Nat.min_le_left _ _);refine⟨vs,Fb w I φ vs h2,λa cap w' ha hst=>?_⟩;obtain⟨cs,hex⟩:=ZB (P:=P) ho hc Aa w;rw[hex,Gn];have:(Builtin.copy_ c.argTypes o.type #[.slice a len cap,Aa ob]).run P w=.ok (.int .i64 (min new.len len:Nat)) w':=by
    have hnm:Nat.min new.len len=min new.len len:=rfl;cases a with
    | none=>simp only[CS]at hst;cases hst;simp[Builtin.copy_,HJ,run_underlying (A7 t ti Cc),hd,hl w,run_sizeOf (A7 e te Eb),hnm,h1 w rfl,goInt]
    | some a=>simp only at hst;simp[Builtin.copy_,HJ,run_underlying (A7 t ti Cc),hd,hl w,run_sizeOf (A7 e te Eb),hnm,h1 w rfl,hst,goInt]
   simp[builtin,ha,this]
  cases hb:rd b with
  | arr mu sz' es=>
   rw[hb]at h;cases mu with
   | false=>cases h
   | true=>
   cases new with
   | fn n f=>cases h
   | list ns=>
   obtain⟨hle,h⟩:=BG h;have hle:=DZ hle;have JU:min ns.length len<=len:=Nat.min_le_right _ _;have azx:min ns.length len<=ns.length:=Nat.min_le_left _ _;have pN:(ns.take (min ns.length len)).length=min ns.length len:=by simp
   refine mU (rd:=rd) hm1 had JJ (m:=min ns.length len) JU (λw I φ=>.int _ _) (.arr true sz' (es.take off++(ns.take (min ns.length len)++es.drop (off+min ns.length len)))) (hsrc _ λw I φ vn hf=>by exact hf) rfl rfl (by rw[hb];rfl) (by rw[hb];rfl) (by rw[hb];rfl) (λφ=>by rw[hb];rfl) ?_ ?_ ?_ h
   ·intro h1;rw[hb];exact mc (by omega)
   ·intro i A3 e';rw[hb];simp only[elemAt]at e' ⊢;have:=sY (es:=es) (ns:=ns.take (min ns.length len)) (p:=off) (by omega) i;rw[pN]at this;rw[this]at e';split at e'
    ·rename_i MN;refine .inl ⟨MN.1,MN.2,?_⟩;rw[KV,Ay (by omega)]at e';simp[View.at,List.getD,e']
    ·rename_i MN;exact .inr ⟨MN,e'⟩
   ·intro h0;rw[hb,h0];simp
  | seq mu sz' mm f=>
   rw[hb]at h;cases mu with
   | false=>cases h
   | true=>
   generalize pM:new=nv at h hsrc ER;have h:(bif IY nv&&Nat.ble (off+len) mm then k (.int .i64 (min nv.len len:Nat)) [(b,.seq true sz' mm λi=>bif Nat.blt i off then f i else bif Nat.blt i (off+min nv.len len)then nv.at (i - off)else f i)] (b::x.Fx)else none)=some r:=h;obtain⟨hcc,h⟩:=BG h;obtain⟨NX,hle⟩:=A4 hcc;have hle:=DZ hle;have JU:min nv.len len<=len:=Nat.min_le_right _ _;refine mU (rd:=rd) hm1 had JJ (m:=min nv.len len) JU (λw I φ=>.int _ _) (.seq true sz' mm λi=>bif Nat.blt i off then f i else bif Nat.blt i (off+min nv.len len)then nv.at (i - off)else f i) (hsrc _ λw I φ vn hf=>?_) rfl rfl (by rw[hb];rfl) (by rw[hb];rfl) (by rw[hb];rfl) (λφ=>by rw[hb];rfl) ?_ ?_ ?_ h
   ·refine⟨hf.size,hf.one,hf.len,λi q cc u hi Wa e'=>?_⟩;have:=hf.val i q cc u hi Wa e';cases nv with
    | fn=>exact this
    | list ns=>
     simp only[IY,HA]at NX;have hm:View.at (.list ns) i ∈ ns:=by simp only[View.at,List.getD,View.len]at hi ⊢;rw[BR (by omega)];exact R5 _
     exact this.free (NX _ hm _ (Dy Wa))
   ·intro h1;rw[hb];simp only[elemAt];rw[Ay (by omega)];exact⟨_,rfl⟩
   ·intro i A3 e';rw[hb];simp only[elemAt]at e' ⊢;split at e'
    ·rename_i hi;simp only[CU]at e';by_cases h1:i<off
     ·have:Nat.blt i off=true:=by rw[CW];exact h1
      rw[this,Ae]at e';exact .inr ⟨by omega,by rw[Ay hi,e']⟩
     ·have Wd:Nat.blt i off=false:=by
       cases hq:Nat.blt i off with
       | false=>rfl
       | true=>rw[CW]at hq;omega
      rw[Wd,Aj]at e';by_cases h2:i<off+min nv.len len
      ·have:Nat.blt i (off+min nv.len len)=true:=by rw[CW];exact h2
       rw[this,Ae]at e';exact .inl ⟨by omega,h2,e'.symm⟩
      ·have iv:Nat.blt i (off+min nv.len len)=false:=by
        cases hq:Nat.blt i (off+min nv.len len)with
        | false=>rfl
        | true=>rw[CW]at hq;omega
       rw[iv,Aj]at e';exact .inr ⟨by omega,by rw[Ay hi,e']⟩
    ·cases e'
   ·intro h0;rw[hb,h0];congr 1;funext i;by_cases h1:i<off
    ·rw[show Nat.blt i off=true by rw[CW];exact h1];rfl
    ·have Wd:Nat.blt i off=false:=by
      cases hq:Nat.blt i off with
      | false=>rfl
      | true=>rw[CW]at hq;omega
     rw[Wd,Aj,Iy,Wd];rfl
  | _=>rw[hb]at h;cases h
 ·cases h
def aj5(A7:E8 P tt)(ho:o.op=.call c)(hc:c.callee=.builtin .clear){x:AV}{t:TypeId}(FV:c.args.toList.map ρ=[x])
  (Ig:c.argTypes.toList=[t]) (h:Oj tt rd nx .clear [t] [x] k=some r):Good P o ρ rd k r:=by
 simp only[Oj]at h;obtain⟨ti,Cc,h⟩:=CE h;obtain⟨oa,Gn,GR⟩:=aD FV;clear FV;have hm1:oa ∈ o.op.operands:=by simp[ho,Op.operands,Call.operands,hc,Gn]
 have HJ:c.argTypes[0]? = some t:=by rw[<- HV,Ig];rfl
 have hex:∀ (Aa:Operand->Value) (w w':World) (u:Value),(Builtin.clear_ c.argTypes o.type #[Aa oa]).run P w=.ok u w'->(execOp Aa o).run P w=.ok (.value u) w':=by intro Aa w w' u hu;obtain⟨cs,e⟩:=ZB (P:=P) ho hc Aa w;rw[e,Gn];simp[builtin,hu]
 have KZ:∀ (w:World) (I:Nat->Prop) (φ:Ac),RV w I φ (.Am []) (.tuple #[]):=λw I φ=>.Am _ _ rfl λk c u e=>by simp at e
 have hu:=run_underlying (A7 t ti Cc);split at h
 ·rename_i e hd;refine Good.pure h λAa w φ I hx=>⟨_,hex Aa w w (.tuple #[]) ?_,KZ w I φ⟩
  have hp:=hx oa hm1;rw[GR]at hp;generalize Aa oa=u at hp;cases hp;simp[Builtin.clear_,HJ,hu,hd]
 ·rename_i e sz b off len cm hd GR;obtain⟨te,Eb,h1⟩:=CE h;clear h;obtain⟨z,hz,h2⟩:=CE h1;clear h1;cases h0:Nat.beq len 0 with
  | true=>
   rw[h0,Ae]at h2;have h0:=BN h0;refine Good.pure h2 λAa w φ I hx=>⟨_,hex Aa w w (.tuple #[]) ?_,KZ w I φ⟩
   have hp:=hx oa hm1;rw[GR,h0]at hp;generalize Aa oa=u at hp;obtain⟨a,cap,rfl⟩:∃ a cap,u=.slice a 0 cap:=by cases hp <;> exact⟨_,_,rfl⟩
   cases a <;> simp[Builtin.clear_,HJ,hu,hd]
  | false=>
   rw[h0,Aj]at h2;have hlen:1<=len:=by
    rcases LJ len with e | e
    ·subst e;simp at h0
    ·exact e
   obtain⟨Wb,h3⟩:=BG h2;clear h2;obtain⟨hsz,Wb⟩:=A4 Wb;obtain⟨Ji,JJ⟩:=A4 Wb;have JJ:=DZ JJ;have hsz:=BN hsz;have Ji:=BN Ji;subst hsz;revert h3;intro h;have hsrc:1<=te.size -> ∀ (x':BS),
     ∀ (As:Nat->BS) (Aa:Operand->Value) (w:World) (φ:Ac) (I:Nat->Prop),(∀ b' ∈ b::[],As b'=rd b')->RH w I φ As->(∀ x ∈ o.op.operands,RV w I φ (ρ x) (Aa x)) ->
      ∃ vs:Array Value,Flat w I (HY φ x') te.size len (λ_=>z) vs /\ ∀ a cap w',Aa oa=.slice a len cap->(match (generalizing:=false) a with | some a=>storeCells a vs.toList | none=>pure ()).run P w=.ok () w'->(execOp Aa o).run P w=.ok (.value (.tuple #[])) w':=by
    intro JJ x' As Aa w φ I hrd hh hx;obtain⟨v,hv,_,_,MK⟩:=Xg (A7 e te Eb) hz w I (HY φ x');have hzr:=MK.Tl (by omega) len;have hvs:z.length=v.cells.size:=MK.1;refine⟨Builtin.zeroCells v.cells len,⟨by simp[Builtin.zeroCells,<- hvs,Ji],hzr.2.1,λi _=>Ji,λi k c u hi hc e=>?_⟩,λa cap w' ha hst=>hex Aa w w' _ ?_⟩
    ·refine hzr.2.2 (i*te.size+k) c u ?_ e;have hk:k<te.size:=by
      have:=(GO.1 hc).1;omega
     have hp:=Oo hi hk;unfold AM.Tl;rw[EO,Mx (by rw[Ji];exact hp)];simp only[FX,CU];have:(i*te.size+k) % z.length=k:=by rw[Ji,Nat.mul_comm,Nat.mul_add_mod,Nat.mod_eq_of_lt hk]
     rw[this,List.getD,hc,LK]
    ·rw[ha];obtain⟨n,rfl⟩:∃ n,len=n+1:=⟨len - 1,by omega⟩
     cases a with
     | none=>simp only[CS]at hst;cases hst;simp[Builtin.clear_,HJ,hu,hd]
     | some a=>simp only at hst;simp[Builtin.clear_,HJ,hu,hd,hv,hst]
   split at h
   ·rename_i sz' es hb;obtain⟨hle,h⟩:=BG h;have hle:=DZ hle;have hrl:(List.replicate len z).length=len:=by simp
    ·refine mU (rd:=rd) hm1 GR JJ (m:=len) (Ar _) KZ (.arr true sz' (es.take off++(List.replicate len z++es.drop (off+len)))) (hsrc JJ _) rfl rfl (by rw[hb];rfl) (by rw[hb];rfl) (by rw[hb];rfl) (λφ=>by rw[hb];rfl) ?_ ?_ ?_ h
     ·intro h1;rw[hb];exact mc (by omega)
     ·intro i A3 e';rw[hb];simp only[elemAt]at e' ⊢;have:=sY (es:=es) (ns:=List.replicate len z) (p:=off) (by omega) i;rw[hrl]at this;rw[this]at e';split at e'
      ·rename_i MN;refine .inl ⟨MN.1,MN.2,?_⟩;rw[List.getElem?_replicate,Ay (by omega)]at e';cases e';rfl
      ·rename_i MN;exact .inr ⟨MN,e'⟩
     ·intro h0;omega
   ·rename_i sz' mm f hb;obtain⟨hle,h⟩:=BG h;have hle:=DZ hle
    ·refine mU (rd:=rd) hm1 GR JJ (m:=len) (Ar _) KZ (.seq true sz' mm λi=>bif Nat.blt i off then f i else bif Nat.blt i (off+len)then z else f i) (hsrc JJ _) rfl rfl (by rw[hb];rfl) (by rw[hb];rfl) (by rw[hb];rfl) (λφ=>by rw[hb];rfl) ?_ ?_ ?_ h
     ·intro h1;rw[hb];simp only[elemAt];rw[Ay (by omega)];exact⟨_,rfl⟩
     ·intro i A3 e';rw[hb];simp only[elemAt]at e' ⊢;split at e'
      ·rename_i hi;simp only[CU]at e';by_cases h1:i<off
       ·have:Nat.blt i off=true:=by rw[CW];exact h1
        rw[this,Ae]at e';exact .inr ⟨by omega,by rw[Ay hi,e']⟩
       ·have Wd:Nat.blt i off=false:=by
         cases hq:Nat.blt i off with
         | false=>rfl
         | true=>rw[CW]at hq;omega
        rw[Wd,Aj]at e';by_cases h2:i<off+len
        ·have:Nat.blt i (off+len)=true:=by rw[CW];exact h2
         rw[this,Ae]at e';exact .inl ⟨by omega,h2,e'.symm⟩
        ·have iv:Nat.blt i (off+len)=false:=by
          cases hq:Nat.blt i (off+len)with
          | false=>rfl
          | true=>rw[CW]at hq;omega
         rw[iv,Aj]at e';exact .inr ⟨by omega,by rw[Ay hi,e']⟩
      ·cases e'
     ·intro h0;omega
   ·cases h
 ·cases h
def fg(ho:o.op=.call c)(hc:c.callee=.builtin b){args:List AV}(FV:c.args.toList.map ρ=args){ts:List TypeId}(Ig:c.argTypes.toList=ts)
  (hb:b=.complex\/b=.real\/b=.imag\/b=.min\/b=.max) (h:Oj tt rd nx b ts args k=some r):Good P o ρ rd k r:=by
 have one:∀ {x v:AV},args=[x]->k v [] []=some r->(∀ (w:World) (I:Nat->Prop) (φ:Ac) (u:Value) cs,RV w I φ x u -> ∃ u',(builtin b c.argTypes o.type cs #[u]).run P w=.ok (.value u') w/\RV w I φ v u')->Good P o ρ rd k r:=by intro x v e hk hr;rw[e]at FV;obtain⟨oa,Gn,GR⟩:=aD FV;refine Good.pure hk λAa w φ I hx=>?_;obtain⟨cs,hex⟩:=ZB (P:=P) ho hc Aa w;have:=hx oa (by simp[ho,Op.operands,Call.operands,hc,Gn]);rw[GR]at this;obtain⟨u',h1,h2⟩:=hr w I φ _ cs this;exact⟨u',by rw[hex,Gn];simpa using h1,h2⟩
 have two:∀ {x y v:AV},args=[x,y]->k v [] []=some r->(∀ (w:World) (I:Nat->Prop) (φ:Ac) (u u2:Value) cs,RV w I φ x u->RV w I φ y u2 -> ∃ u',(builtin b c.argTypes o.type cs #[u,u2]).run P w=.ok (.value u') w/\RV w I φ v u')->Good P o ρ rd k r:=by intro x y v e hk hr;rw[e]at FV;obtain⟨oa,ob,Gn,GR,hbx⟩:=aF FV;refine Good.pure hk λAa w φ I hx=>?_;obtain⟨cs,hex⟩:=ZB (P:=P) ho hc Aa w;have g1:=hx oa (by simp[ho,Op.operands,Call.operands,hc,Gn]);have g2:=hx ob (by simp[ho,Op.operands,Call.operands,hc,Gn]);rw[GR]at g1;rw[hbx]at g2;obtain⟨u',h1,h2⟩:=hr w I φ _ _ cs g1 g2;exact⟨u',by rw[hex,Gn];simpa using h1,h2⟩
 rcases hb with rfl | rfl | rfl | rfl | rfl
 ·cases args with
  | nil=>cases h
  | cons x l=>cases l with
   | nil=>cases x <;> cases h
   | cons y l=>cases l with
    | cons z l=>cases x <;> cases y <;> cases h
    | nil=>
     cases x <;> try (cases h;done)
     cases y <;> try (cases h;done)
     rename_i kd a K9 a';have h:(bif UT kd K9 then k (.Al kd a a') [] []else none)=some r:=h;obtain⟨hkd,h2⟩:=BG h;have hkd:kd=K9:=El hkd;clear h;subst hkd;refine two rfl h2 λw I φ u u2 cs g1 g2=>?_;cases g1;cases g2;refine⟨.complex kd a a',?_,.Al _ _ _⟩;show(do let r<-((if kd=kd then pure (Value.complex kd a a')else stuck _:Sem Value));pure (Next.value r):Sem Next).run P w=_;rw[Ay rfl];rfl
 ·cases args with
  | nil=>cases h
  | cons x l=>cases l with
   | cons y l=>cases x <;> cases h
   | nil=>
    cases x <;> try (cases h;done)
    refine one rfl h λw I φ u cs g1=>?_;cases g1;exact⟨_,rfl,.DR _ _⟩
 ·cases args with
  | nil=>cases h
  | cons x l=>cases l with
   | cons y l=>cases x <;> cases h
   | nil=>
    cases x <;> try (cases h;done)
    refine one rfl h λw I φ u cs g1=>?_;cases g1;exact⟨_,rfl,.DR _ _⟩
 ·cases args with
  | nil=>cases h
  | cons x l=>cases l with
   | nil=>cases x <;> cases h
   | cons y l=>cases l with
    | cons z l=>cases x <;> cases y <;> cases h
    | nil=>
     cases x <;> try (cases h;done)
     cases y <;> try (cases h;done)
     rename_i kd a K9 a';refine two rfl h λw I φ u u2 cs g1 g2=>?_;cases g1;cases g2;refine⟨.int kd (if a'<a then a' else a),by simp[builtin,Builtin.min_,Builtin.min2],?_⟩;cases hd:decide (a'<a)with
     | true=>rw[Ay (El hd)];exact .int _ _
     | false=>rw[AE (Gk hd)];exact .int _ _
 ·cases args with
  | nil=>cases h
  | cons x l=>cases l with
   | nil=>cases x <;> cases h
   | cons y l=>cases l with
    | cons z l=>cases x <;> cases y <;> cases h
    | nil=>
     cases x <;> try (cases h;done)
     cases y <;> try (cases h;done)
     rename_i kd a K9 a';refine two rfl h λw I φ u u2 cs g1 g2=>?_;cases g1;cases g2;refine⟨.int kd (if a' > a then a' else a),by simp[builtin,Builtin.max_,Builtin.max2],?_⟩;cases hd:decide (a<a')with
     | true=>rw[Ay (show a' > a from El hd)];exact .int _ _
     | false=>rw[AE (show ¬ a' > a from Gk hd)];exact .int _ _
end
end
section
variable {R:Type}
section
variable {P:Program} {tt:TT} {ρ:Operand->AV} {rd:Nat->BS} {nx:Nat} {k:KW R} {r:R} {o:Oper} {c:Call} {b:Builtin}
def ak6(A7:E8 P tt)(hnx:rd nx=.none)(ho:o.op=.call c)(hc:c.callee=.builtin b)(h:Oj tt rd nx b c.argTypes.toList (c.args.toList.map ρ) k=some r):Good P o ρ rd k r:=by
 generalize FV:c.args.toList.map ρ=args at h;generalize Ig:c.argTypes.toList=ts at h;cases b with
 | len=>
  cases args with
  | nil=>cases h
  | cons x l=>cases l with
   | cons y l=>cases h
   | nil=>cases ts with
    | nil=>cases h
    | cons t tr=>cases tr with
     | cons t2 tr=>cases h
     | nil=>exact amI A7 ho hc FV Ig h
 | append=>
  cases args with
  | nil=>cases h
  | cons x l=>cases l with
   | nil=>cases h
   | cons y l=>cases l with
    | cons z l=>cases h
    | nil=>cases ts with
     | nil=>cases h
     | cons t tr=>exact ajD A7 hnx ho hc FV Ig h
 | copy=>
  cases args with
  | nil=>cases h
  | cons x l=>cases l with
   | nil=>cases h
   | cons y l=>cases l with
    | cons z l=>cases h
    | nil=>cases ts with
     | nil=>cases h
     | cons t tr=>exact ak5 A7 ho hc FV Ig h
 | clear=>
  cases args with
  | nil=>cases h
  | cons x l=>cases l with
   | cons y l=>cases h
   | nil=>cases ts with
    | nil=>cases h
    | cons t tr=>cases tr with
     | cons t2 tr=>cases h
     | nil=>exact aj5 A7 ho hc FV Ig h
 | complex=>exact fg ho hc FV Ig (.inl rfl) h
 | real=>exact fg ho hc FV Ig (.inr (.inl rfl)) h
 | imag=>exact fg ho hc FV Ig (.inr (.inr (.inl rfl))) h
 | min=>exact fg ho hc FV Ig (.inr (.inr (.inr (.inl rfl)))) h
 | max=>exact fg ho hc FV Ig (.inr (.inr (.inr (.inr rfl)))) h
 | _=>simp[Oj]at h
end
end
def Ft(φ:Ac)(l:List Nat)(B:Nat):Prop:=∃ b ∈ l,∃ o sz,φ b=some (B,o,sz)
section
variable {w:World} {I:Nat->Prop} {φ:Ac} {rd:Nat->BS}
def Hw(w:World)(I:Nat->Prop)(φ:Ac)(l:List Nat)(v v':AV):Prop:=
 ∀ I':Nat->Prop,(∀ B,I B->I' B)->(∀ B,Ft φ l B->I' B) -> ∀ u,RV w I φ v u->RV w I' Ac.no v' u
def Hw.more{l l':List Nat}{v v':AV}(h:Hw w I φ l v v')(hl:∀ b ∈ l,b ∈ l'):Hw w I φ l' v v':=
 λI' h1 h2 u hu=>h I' h1 (λB ⟨b,hb,r⟩=>h2 B ⟨b,hl b hb,r⟩) u hu
def Lw(w:World)(I:Nat->Prop)(φ:Ac)(l:List Nat)(cs A3:List AV):Prop:=
 A3.length=cs.length /\ ∀ (k:Nat) c',A3[k]? = some c' -> ∃ c,cs[k]? = some c/\Hw w I φ l c c'
def Lw.more{l l':List Nat}{v v':List AV}(h:Lw w I φ l v v')(hl:∀ b ∈ l,b ∈ l'):Lw w I φ l' v v':=
 ⟨h.1,λk c' e=>let ⟨c,e',s⟩:=h.2 k c' e;⟨c,e',s.more hl⟩⟩
def Lw.nil{l:List Nat}:Lw w I φ l [] []:=⟨rfl,λk c' e=>by simp at e⟩
def Lw.cons{l:List Nat}{v v':AV}{cs A3:List AV}(h:Hw w I φ l v v')(hs:Lw w I φ l cs A3):Lw w I φ l (v::cs) (v'::A3):=by
 refine⟨by simp[hs.1],λk c' e=>?_⟩;cases k with
 | zero=>simp at e;exact⟨v,rfl,e ▸ h⟩
 | succ k=>simp at e;obtain⟨c,e',s⟩:=hs.2 k c' e;exact⟨c,by simpa using e',s⟩
def Oq(w:World)(I:Nat->Prop)(φ:Ac)(l:List Nat)(es Ie:List (List AV)):Prop:=
 Ie.length=es.length /\ ∀ (k:Nat) c',Ie[k]? = some c' -> ∃ c,es[k]? = some c/\Lw w I φ l c c'
def Oq.nil{l:List Nat}:Oq w I φ l [] []:=⟨rfl,λk c' e=>by simp at e⟩
def Oq.cons{l:List Nat}{v v':List AV}{cs A3:List (List AV)}(h:Lw w I φ l v v')(hs:Oq w I φ l cs A3):Oq w I φ l (v::cs) (v'::A3):=by
 refine⟨by simp[hs.1],λk c' e=>?_⟩;cases k with
 | zero=>simp at e;exact⟨v,rfl,e ▸ h⟩
 | succ k=>simp at e;obtain⟨c,e',s⟩:=hs.2 k c' e;exact⟨c,by simpa using e',s⟩
def Oq.more{l l':List Nat}{v v':List (List AV)}(h:Oq w I φ l v v')(hl:∀ b ∈ l,b ∈ l'):Oq w I φ l' v v':=
 ⟨h.1,λk c' e=>let ⟨c,e',s⟩:=h.2 k c' e;⟨c,e',s.more hl⟩⟩
def Hw.self{l:List Nat}{v:AV}(h:Ed v=true):Hw w I φ l v v:=
 λI' h1 _ u hu=>(hu.free h).mono (λB hB=>⟨h1 B hB,rfl⟩) (λ_=>Ar _) (Ac.le_refl _)
def Hw.row{l:List Nat}{b B0 o0 Su:Nat}{sz off len cm n:Nat}{f:Nat->List AV}(hb:φ b=some (B0,o0,Su))(hl:b ∈ l)(Lv:0<len)
  (hn:n=len) (hlen:∀ i,i<len->(f i).length=sz)
  (Ka:∀ I':Nat->Prop,(∀ B,I B->I' B)->(∀ B,Ft φ l B->I' B)->Su=sz -> ∀ (i k:Nat) c,i<len->(f i)[k]? = some c -> ∃ u,w.cell? ⟨B0,o0+(off+i)*sz+k,none⟩=some u/\u.oneCell'=true/\RV w I' Ac.no c u) :
  Hw w I φ l (.sl sz b off len cm) (.tr sz n f):=by
 intro I' h1 h2 u hu;subst hn;cases hu with
 | sl _ _ B o _ _ _ cap q AI hq IG hc hs=>
  rw[hb]at AI;cases AI;have IE:=Ka I' h1 h2 rfl;refine .tr Su n f B0 q cap (λi k=>(w.cell? ⟨B0,o0+(off+i)*Su+k,none⟩).getD undef) (λ_=>h2 B0 ⟨b,hl,_,_,hb⟩) IG (λ_=>by rw[hq];have:=hs;rw[F0]at this;omega) hlen (λi k c hi e=>?_) (λi k c hi e=>?_) (λi k c hi e=>?_)
  ·obtain⟨u,e1,e2,e3⟩:=IE i k c hi e;rw[e1,hq,show o0+off*Su+i*Su+k=o0+(off+i)*Su+k by rw[F0];omega,e1];rfl
  ·obtain⟨u,e1,e2,e3⟩:=IE i k c hi e;rw[e1];exact e2
  ·obtain⟨u,e1,e2,e3⟩:=IE i k c hi e;rw[e1];exact e3
 | sle=>omega
def um(b:Nat):∀ l,HW b l=true ↔ b ∈ l
 | []=>by simp[HW]
 | x::r=>by
  rw[HW];cases h:Nat.beq x b with
  | true=>simp[BN h]
  | false=>
   have:x ≠ b:=λe=>by subst e;simp at h
   rw[Aj,um b r];simp[Ne.symm this]
def ZW{As:Nat->BS}(hh:RH w I φ As):∀ d,
  (∀ v v' l,NA d rd v=some (v',l,true)->(∀ b ∈ l,As b=rd b)->(∀ b ∈ l,live (As b)=true)/\Hw w I φ l v v') /\
  (∀ v v' l,FT d rd v=some (v',l,true)->(∀ b ∈ l,As b=rd b)->(∀ b ∈ l,live (As b)=true)/\Lw w I φ l v v') /\
  (∀ v v' l,UW d rd v=some (v',l,true)->(∀ b ∈ l,As b=rd b)->(∀ b ∈ l,live (As b)=true)/\Oq w I φ l v v'):=by
 intro d
 induction d with
 | zero=>exact⟨λv v' l h=>(by simp[NA]at h),λv v' l h=>(by simp[FT]at h),λv v' l h=>(by simp[UW]at h)⟩
 | succ d ih=>
  obtain⟨ih1,NZ,ih3⟩:=ih;refine⟨λv v' l h hr=>?_,λv v' l h hr=>?_,λv v' l h hr=>?_⟩
  ·unfold NA at h;cases v with
   | ptr b i j=>
    simp only at h;cases hb:rd b with
    | arr m s es=>
     rw[hb]at h;simp only at h;cases he:es[i]? with
     | none=>rw[he]at h;cases h
     | some cs=>
      rw[he]at h;simp only at h;cases hs:FT d rd cs with
      | none=>rw[hs]at h;cases h
      | some p=>
       obtain⟨A3,l',g⟩:=p;rw[hs]at h;cases h;obtain⟨hl,hlen,N0⟩:=NZ _ _ _ hs λb hb=>hr b (by simp[hb]);refine⟨λb' Aw=>?_,λI' h1 h2 u hu=>?_⟩
       ·rcases Dz.1 Aw with e | e
        ·rw[e,hr b (by simp),hb];rfl
        ·exact hl b' e
       ·cases hu with
        | ptr _ B o sz _ _ q AI hq=>
         obtain⟨B',o',sz',e',hrb⟩:=hh.JI AI (by rw[hr b (by simp),hb];rfl);rw[AI]at e';cases e';rw[hr b (by simp),hb]at hrb;obtain⟨rfl,_,hel,hcs⟩:=hrb;have key:∀ (k:Nat) c',A3[k]? = some c' -> ∃ u,w.cell? ⟨B,o+i*s+k,none⟩=some u/\u.oneCell'=true/\RV w I' Ac.no c' u:=by intro k c' e;obtain⟨c,e1,e2⟩:=N0 k c' e;obtain⟨u,a1,a2,a3⟩:=hcs i cs k c he e1;exact⟨u,a1,a2,e2 I' h1 (λB ⟨b',Aw,r⟩=>h2 B ⟨b',by simp[Aw],r⟩) u a3⟩
         refine .tp A3 j B (o+i*s) q (λk=>(w.cell? ⟨B,o+i*s+k,none⟩).getD undef) (h2 B ⟨b,by simp,_,_,AI⟩) hq (λk c e=>?_) (λk c e=>?_) (λk c e=>?_)
         all_goals
          obtain⟨u,a1,a2,a3⟩:=key k c e;rw[a1]
          first | rfl | exact a2 | exact a3
    | seq m s n f=>
     rw[hb]at h;simp only[CU,FZ]at h;obtain⟨rfl,rfl,hi⟩:=h;have hi:i<n:=by simpa [CW] using hi
     refine⟨λb' Aw=>?_,λI' h1 h2 u hu=>?_⟩
     ·simp at Aw;rw[Aw,hr b (by simp),hb];rfl
     ·cases hu with
      | ptr _ B o sz _ _ q AI hq=>
       obtain⟨B',o',sz',e',hrb⟩:=hh.JI AI (by rw[hr b (by simp),hb];rfl);rw[AI]at e';cases e';rw[hr b (by simp),hb]at hrb;obtain⟨rfl,_,hel,hcs⟩:=hrb;have key:∀ (k:Nat) c',(f i)[k]? = some c' -> ∃ u,w.cell? ⟨B,o+i*s+k,none⟩=some u/\u.oneCell'=true/\RV w I' Ac.no c' u:=by intro k c' e;obtain⟨u,a1,a2,a3⟩:=hcs i k c' hi e;exact⟨u,a1,a2,a3.mono (λB hB=>⟨h1 B hB,rfl⟩) (λ_=>Ar _) (Ac.le_refl _)⟩
       refine .tp (f i) j B (o+i*s) q (λk=>(w.cell? ⟨B,o+i*s+k,none⟩).getD undef) (h2 B ⟨b,by simp,_,_,AI⟩) hq (λk c e=>?_) (λk c e=>?_) (λk c e=>?_)
       all_goals
        obtain⟨u,a1,a2,a3⟩:=key k c e;rw[a1]
        first | rfl | exact a2 | exact a3
    | none=>rw[hb]at h;cases h
    | dead=>rw[hb]at h;cases h
    | map m es=>rw[hb]at h;cases h
    | iter m es st=>rw[hb]at h;cases h
    | Cb m s n f i0 c0 ks cur=>rw[hb]at h;cases h
    | pmap m ks val=>rw[hb]at h;cases h
    | Fz m ks val rem cur=>rw[hb]at h;cases h
   | sl sz b off len cm=>
    simp only at h;have empty:len=0->Hw w I φ [] (.sl sz b off len cm) (.A9 sz []):=by
     rintro rfl I' h1 h2 u hu;refine .A9 _ _ _ ?_ (by rintro rfl;cases hu);cases hu with
     | sl _ _ B o _ _ _ cap q AI hq IG hc hs=>exact .tr sz 0 _ B q cap (λ_ _=>undef) (λh0=>absurd h0 (DP 0)) (Bu _) (λh0=>absurd h0 (DP 0)) (λi hi=>by omega) (λi k c hi=>by omega) (λi k c hi=>by omega) (λi k c hi=>by omega)
     | sle _ _ _ a=>exact .Cq sz _ a
    cases hb:rd b with
    | arr m s es=>
     rw[hb]at h;simp only at h;cases hs:UW d rd ((es.drop off).take len)with
     | none=>rw[hs]at h;cases h
     | some p=>
      obtain⟨Ie,l',g⟩:=p;rw[hs]at h;simp only[CU,FZ]at h;obtain⟨rfl,rfl,hg⟩:=h;obtain⟨rfl,O0⟩:=A4 hg;obtain⟨hl,hlen,N0⟩:=ih3 _ _ _ hs λb hb=>hr b (by simp[hb]);refine⟨λb' Aw=>?_,?_⟩
      ·rcases Dz.1 Aw with e | e
       ·rw[e,hr b (by simp),hb];rfl
       ·exact hl b' e
      by_cases hz:len=0
      ·have:Ie=[]:=List.eq_nil_of_length_eq_zero (by rw[hlen,hz];simp);subst this;exact(empty hz).more λb' Aw=>by simp at Aw
      ·have hle:off+len<=es.length:=by
        rcases ff O0 with h' | h'
        ·exact absurd (BN h') hz
        ·have:=DZ h';omega
       have hz:0<len:=Nat.pos_of_ne_zero hz;obtain⟨B0,o0,Su,AI,hrb⟩:=hh.TH (b:=b) (by rw[hr b (by simp),hb];exact λh=>by first | exact h | (simp only[Gv]at h;omega)) (by rw[hr b (by simp),hb];rfl);rw[hr b (by simp),hb]at hrb;obtain⟨rfl,_,hel,hcs⟩:=hrb;have RN:Ie.length=len:=by rw[hlen];simp;omega
       have Ex:∀ i,i<len -> ∃ A3,Ie[i]? = some A3 /\ ∃ cs,es[off+i]? = some cs/\Lw w I φ l' cs A3:=by intro i hi;obtain⟨A3,e⟩:=mc (es:=Ie) (i:=i) (by omega);obtain⟨cs,e1,e2⟩:=N0 i A3 e;rw[KV,Ay hi,Qe]at e1;exact⟨A3,e,cs,e1,e2⟩
       intro I' h1 h2 u hu;refine .A9 _ _ _ ?_ (by rintro rfl;cases hu);rw[RN];by_cases Ss:s=sz
       ·subst Ss;refine Hw.row (l:=b::l') AI (by simp) hz rfl (λi hi=>?_) (λI' h1 h2 _ i k c hi e=>?_) I' h1 h2 u hu
        ·obtain⟨A3,e,cs,e1,e2⟩:=Ex i hi;simp only[List.getD,e,LK];rw[e2.1];exact hel _ _ e1
        ·obtain⟨A3,e',cs,e1,e2⟩:=Ex i hi;simp only[List.getD,e',LK]at e;obtain⟨c0,e3,e4⟩:=e2.2 k c e;obtain⟨u,a1,a2,a3⟩:=hcs _ cs k c0 e1 e3;exact⟨u,a1,a2,e4 I' h1 (λB ⟨b',Aw,r⟩=>h2 B ⟨b',by simp[Aw],r⟩) u a3⟩
       ·cases hu with
        | sl _ _ B o _ _ _ cap q Qk _ _ _ _=>rw[AI]at Qk;cases Qk;exact absurd rfl Ss
        | sle=>omega
    | seq m s n f=>
     rw[hb]at h;simp only[CU,FZ]at h;obtain⟨rfl,rfl,hg⟩:=h;refine⟨λb' Aw=>by simp at Aw;rw[Aw,hr b (by simp),hb];rfl,?_⟩;by_cases hz:len=0
     ·subst hz;intro I' h1 h2 u hu;cases hu with
      | sl _ _ B o _ _ _ cap q AI hq IG hc hs=>exact .tr sz 0 _ B q cap (λ_ _=>undef) (λh0=>absurd h0 (DP 0)) (Bu _) (λh0=>absurd h0 (DP 0)) (λi hi=>by omega) (λi k c hi=>by omega) (λi k c hi=>by omega) (λi k c hi=>by omega)
      | sle _ _ _ a=>exact .Cq sz _ a
     ·have hle:off+len<=n:=by
       rcases ff hg with h' | h'
       ·exact absurd (BN h') hz
       ·have:=DZ h';omega
      have hz:0<len:=Nat.pos_of_ne_zero hz;obtain⟨B0,o0,Su,AI,hrb⟩:=hh.TH (b:=b) (by rw[hr b (by simp),hb];exact λh=>by first | exact h | (simp only[Gv]at h;omega)) (by rw[hr b (by simp),hb];rfl);rw[hr b (by simp),hb]at hrb;obtain⟨rfl,_,hel,hcs⟩:=hrb;intro I' h1 h2 u hu;by_cases Ss:s=sz
      ·subst Ss;refine Hw.row (l:=[b]) AI (by simp) hz rfl (λi hi=>?_) (λI' h1 h2 _ i k c hi e=>?_) I' h1 h2 u hu
       ·exact hel _ (by omega)
       ·obtain⟨u,a1,a2,a3⟩:=hcs (i+off) k c (by omega) e;rw[Nat.add_comm i off]at a1;exact⟨u,a1,a2,a3.mono (λB hB=>⟨h1 B hB,rfl⟩) (λ_=>Ar _) (Ac.le_refl _)⟩
      ·cases hu with
       | sl _ _ B o _ _ _ cap q Qk _ _ _ _=>rw[AI]at Qk;cases Qk;exact absurd rfl Ss
       | sle=>omega
    | Cb m s n f i0 c0 ks cur=>
     rw[hb]at h;simp only[CU,FZ]at h;obtain⟨rfl,rfl,hg⟩:=h;have T7:∀ b' ∈ Iv rd ks,live (rd b')=true:=λb' Aw=>(Gz.1 Aw).2;refine⟨λb' Aw=>?_,?_⟩
     ·rcases Dz.1 Aw with e | e
      ·rw[e,hr b (by simp),hb];rfl
      ·rw[hr b' Aw];exact T7 b' e
     by_cases hz:len=0
     ·subst hz;intro I' h1 h2 u hu;cases hu with
      | sl _ _ B o _ _ _ cap q AI hq IG hc hs=>exact .tr sz 0 _ B q cap (λ_ _=>undef) (λh0=>absurd h0 (DP 0)) (Bu _) (λh0=>absurd h0 (DP 0)) (λi hi=>by omega) (λi k c hi=>by omega) (λi k c hi=>by omega) (λi k c hi=>by omega)
      | sle _ _ _ a=>exact .Cq sz _ a
     ·have hle:off+len<=n:=by
       rcases ff hg with h' | h'
       ·exact absurd (BN h') hz
       ·have:=DZ h';omega
      have hz:0<len:=Nat.pos_of_ne_zero hz;obtain⟨B0,o0,Su,AI,hrb⟩:=hh.TH (b:=b) (by rw[hr b (by simp),hb];exact λh=>by first | exact h | (simp only[Gv]at h;omega)) (by rw[hr b (by simp),hb];rfl);rw[hr b (by simp),hb]at hrb;obtain⟨rfl,_,hel,hcs⟩:=hrb;intro I' h1 h2 u hu;have hE:∀ cs,(VX (FT d rd cs) (Iv rd ks) cs).length=cs.length /\ ∀ (k:Nat) c',(VX (FT d rd cs) (Iv rd ks) cs)[k]? = some c' -> ∃ c,cs[k]? = some c/\Hw w I φ (b::Iv rd ks) c c':=by
       intro cs;have iw:(cs.map λ_=>AV.undef).length=cs.length /\ ∀ (k:Nat) c',(cs.map λ_=>AV.undef)[k]? = some c' -> ∃ c,cs[k]? = some c/\Hw w I φ (b::Iv rd ks) c c':=by
        refine⟨by simp,λk c' e=>?_⟩;rw[EO]at e;cases e0:cs[k]? with
        | none=>rw[e0]at e;cases e
        | some c=>rw[e0]at e;cases e;exact⟨c,rfl,λ_ _ _ u _=>.undef u⟩
       unfold VX;cases hs:FT d rd cs with
       | none=>exact iw
       | some p=>
        obtain⟨A3,l,g⟩:=p;simp only;cases Sv:g&&l.all (λb=>HW b (Iv rd ks))with
        | false=>rw[Aj];exact iw
        | true=>rw[Ae];obtain⟨rfl,OL⟩:=A4 Sv;have Fo:∀ b' ∈ l,b' ∈ Iv rd ks:=λb' Aw=>(um b' _).1 (HA.1 OL b' Aw);obtain⟨_,hlen,N0⟩:=NZ _ _ _ hs λb' Aw=>hr b' (by simp[Fo b' Aw]);exact⟨hlen,λk c' e=>let ⟨c,e1,e2⟩:=N0 k c' e;⟨c,e1,e2.more λb' Aw=>by simp[Fo b' Aw]⟩⟩
      by_cases Ss:s=sz
      ·subst Ss;refine Hw.row (l:=b::Iv rd ks) AI (by simp) hz rfl (λi hi=>?_) (λI' h1 h2 _ i k c hi e=>?_) I' h1 h2 u hu
       ·rw[(hE _).1];exact hel _ (by omega)
       ·obtain⟨c0,e1,e2⟩:=(hE _).2 k c e;obtain⟨u,a1,a2,a3⟩:=hcs (i+off) k c0 (by omega) e1;rw[Nat.add_comm i off]at a1;exact⟨u,a1,a2,e2 I' h1 h2 u a3⟩
      ·cases hu with
       | sl _ _ B o _ _ _ cap q Qk _ _ _ _=>rw[AI]at Qk;cases Qk;exact absurd rfl Ss
       | sle=>omega
    | _=>rw[hb]at h;simp only[CU,FZ]at h;obtain⟨rfl,rfl,hg⟩:=h;exact⟨λb' Aw=>by simp at Aw,empty (BN hg)⟩
   | sn sz b n=>
    simp only at h;have empty:n=0 -> ∀ f:Nat->List AV,Hw w I φ [] (.sn sz b n) (.tr sz n f):=by
     rintro rfl f I' h1 h2 u hu;cases hu with
     | DT _ _ a=>exact .Cq sz f a
     | sn _ _ _ B o cap AI hl hs=>exact .tr sz 0 f B o cap (λ_ _=>undef) (λh0=>absurd h0 (DP 0)) (Bu _) (λh0=>absurd h0 (DP 0)) (λi hi=>by omega) (λi k c hi=>by omega) (λi k c hi=>by omega) (λi k c hi=>by omega)
    have full:∀ (l':List Nat) (f:Nat->List AV),b ∈ l'->(∀ i,i<n->(f i).length=sz) ->
      (∀ B o,φ b=some (B,o,sz) -> ∀ I':Nat->Prop,(∀ B,I B->I' B)->(∀ B,Ft φ l' B->I' B) -> ∀ (i k:Nat) c,i<n->(f i)[k]? = some c -> ∃ u,w.cell? ⟨B,o+i*sz+k,none⟩=some u/\u.oneCell'=true/\RV w I' Ac.no c u) ->
      Hw w I φ l' (.sn sz b n) (.tr sz n f):=by
     intro l' f Aw hlen Ka I' h1 h2 u hu;cases hu with
     | DT _ _ a=>exact .Cq sz f a
     | sn _ _ _ B o cap AI hl hs=>
      have IE:=Ka B o AI I' h1 h2;refine .tr sz n f B o cap (λi k=>(w.cell? ⟨B,o+i*sz+k,none⟩).getD undef) (λ_=>h2 B ⟨b,Aw,_,_,AI⟩) hl (λ_=>hs) hlen (λi k c hi e=>?_) (λi k c hi e=>?_) (λi k c hi e=>?_)
      ·obtain⟨u,e1,e2,e3⟩:=IE i k c hi e;rw[e1];rfl
      ·obtain⟨u,e1,e2,e3⟩:=IE i k c hi e;rw[e1];exact e2
      ·obtain⟨u,e1,e2,e3⟩:=IE i k c hi e;rw[e1];exact e3
    split at h
    ·rename_i m s n' f hb;simp only[CU,FZ]at h;obtain⟨rfl,rfl,hg⟩:=h;have hle:=DZ hg;have IG:live (As b)=true:=by rw[hr b (by simp),hb];rfl
     refine⟨λb' Aw=>by simp at Aw;rw[Aw];exact IG,?_⟩;rcases LJ n with h0 | h0
     ·exact(empty h0 f).more λb' Aw=>by simp at Aw
     ·have Ex:∀ B o sz',φ b=some (B,o,sz')->RB w I φ B o sz' (.seq m s n' f):=λB o sz' e=>by
       have:=hh.at e IG;rwa [hr b (by simp),hb]at this
      by_cases Vt:∃ B o,φ b=some (B,o,sz)
      ·obtain⟨B1,o1,e1⟩:=Vt;obtain⟨rfl,_,hel,hcs⟩:=Ex B1 o1 sz e1;refine full [b] f (by simp) (λi hi=>hel i (He hi hle)) (λB o e I' h1 h2 i k c hi hc=>?_);rw[e1]at e;cases e;obtain⟨u,a1,a2,a3⟩:=hcs i k c (He hi hle) hc;exact⟨u,a1,a2,a3.mono (λB hB=>⟨h1 B hB,rfl⟩) (λ_=>Ar _) (Ac.le_refl _)⟩
      ·intro I' h1 h2 u hu;cases hu with
       | DT=>exact absurd h0 (DP 0)
       | sn _ _ _ B o cap AI hl hs=>exact absurd ⟨B,o,AI⟩ Vt
    ·rename_i m s n' f i0 c0 ks cur hb;simp only[CU,FZ]at h;obtain⟨rfl,rfl,hg⟩:=h;have hle:=DZ hg;have IG:live (As b)=true:=by rw[hr b (by simp),hb];rfl
     have T7:∀ b' ∈ Iv rd ks,live (rd b')=true:=λb' Aw=>(Gz.1 Aw).2;refine⟨λb' Aw=>?_,?_⟩
     ·rcases Dz.1 Aw with e | e
      ·rw[e];exact IG
      ·rw[hr b' Aw];exact T7 b' e
     have hE:∀ cs,(VX (FT d rd cs) (Iv rd ks) cs).length=cs.length /\ ∀ (k:Nat) c',(VX (FT d rd cs) (Iv rd ks) cs)[k]? = some c' -> ∃ c,cs[k]? = some c/\Hw w I φ (b::Iv rd ks) c c':=by
      intro cs;have iw:(cs.map λ_=>AV.undef).length=cs.length /\ ∀ (k:Nat) c',(cs.map λ_=>AV.undef)[k]? = some c' -> ∃ c,cs[k]? = some c/\Hw w I φ (b::Iv rd ks) c c':=by
       refine⟨by simp,λk c' e=>?_⟩;rw[EO]at e;cases e0:cs[k]? with
       | none=>rw[e0]at e;cases e
       | some c=>rw[e0]at e;cases e;exact⟨c,rfl,λ_ _ _ u _=>.undef u⟩
      unfold VX;cases hs:FT d rd cs with
      | none=>exact iw
      | some p=>
       obtain⟨A3,l,g⟩:=p;simp only;cases Sv:g&&l.all (λb=>HW b (Iv rd ks))with
       | false=>rw[Aj];exact iw
       | true=>rw[Ae];obtain⟨rfl,OL⟩:=A4 Sv;have Fo:∀ b' ∈ l,b' ∈ Iv rd ks:=λb' Aw=>(um b' _).1 (HA.1 OL b' Aw);obtain⟨_,hlen,N0⟩:=NZ _ _ _ hs λb' Aw=>hr b' (by simp[Fo b' Aw]);exact⟨hlen,λk c' e=>let ⟨c,e1,e2⟩:=N0 k c' e;⟨c,e1,e2.more λb' Aw=>by simp[Fo b' Aw]⟩⟩
     rcases LJ n with h0 | h0
     ·exact(empty h0 _).more λb' Aw=>by simp at Aw
     ·have Ex:∀ B o sz',φ b=some (B,o,sz')->RB w I φ B o sz' (.Cb m s n' f i0 c0 ks cur):=λB o sz' e=>by
       have:=hh.at e IG;rwa [hr b (by simp),hb]at this
      by_cases Vt:∃ B o,φ b=some (B,o,sz)
      ·obtain⟨B1,o1,e1⟩:=Vt;obtain⟨rfl,_,hel,hcs⟩:=Ex B1 o1 sz e1;refine full (b::Iv rd ks) _ (by simp) (λi hi=>by rw[(hE _).1];exact hel i (He hi hle)) (λB o e I' h1 h2 i k c hi hc=>?_);rw[e1]at e;cases e;obtain⟨c0,e2,e3⟩:=(hE _).2 k c hc;obtain⟨u,a1,a2,a3⟩:=hcs i k c0 (He hi hle) e2;exact⟨u,a1,a2,e3 I' h1 h2 u a3⟩
      ·intro I' h1 h2 u hu;cases hu with
       | DT=>exact absurd h0 (DP 0)
       | sn _ _ _ B o cap AI hl hs=>exact absurd ⟨B,o,AI⟩ Vt
    ·simp only[CU,FZ]at h;obtain⟨rfl,rfl,hg⟩:=h;exact⟨λb' Aw=>by simp at Aw,empty (BN hg) _⟩
   | agg cs=>
    simp only at h;cases hs:FT d rd cs with
    | none=>rw[hs]at h;cases h
    | some p=>
     obtain⟨A3,l',g⟩:=p;rw[hs]at h;cases h;obtain⟨hl,hlen,N0⟩:=NZ _ _ _ hs λb hb=>hr b (by simp[hb]);refine⟨hl,λI' h1 h2 u hu=>?_⟩;cases hu with
     | agg _ vs hl FG hr=>refine .agg _ _ (hlen.trans hl) FG λk c u e e'=>?_;obtain⟨c0,e1,e2⟩:=N0 k c e;exact e2 I' h1 h2 u (hr k c0 u e1 e')
   | Am cs=>
    simp only at h;cases hs:FT d rd cs with
    | none=>rw[hs]at h;cases h
    | some p=>
     obtain⟨A3,l',g⟩:=p;rw[hs]at h;cases h;obtain⟨hl,hlen,N0⟩:=NZ _ _ _ hs λb hb=>hr b (by simp[hb]);refine⟨hl,λI' h1 h2 u hu=>?_⟩;cases hu with
     | Am _ vs hl hr=>refine .Am _ _ (hlen.trans hl) λk c u e e'=>?_;obtain⟨c0,e1,e2⟩:=N0 k c e;exact e2 I' h1 h2 u (hr k c0 u e1 e')
   | fn f a c=>
    simp only at h;cases hs:FT d rd a with
    | none=>rw[hs]at h;cases h
    | some p=>
     obtain⟨a',l1,g1⟩:=p;cases Kx:FT d rd c with
     | none=>rw[hs,Kx]at h;cases h
     | some p=>
      obtain⟨c',l2,g2⟩:=p;rw[hs,Kx]at h;simp only[CU,FZ]at h;obtain⟨rfl,rfl,hg⟩:=h;obtain⟨rfl,rfl⟩:=A4 hg;obtain⟨JS,aui,axf⟩:=NZ _ _ _ hs λb hb=>hr b (by simp[hb]);obtain⟨pE,xr,axg⟩:=NZ _ _ _ Kx λb hb=>hr b (by simp[hb]);refine⟨λb hb=>(Cp.1 hb).elim (JS b) (pE b),λI' h1 h2 u hu=>?_⟩;cases hu with
      | fn _ _ _ va vc Jg Le ha hc=>
       refine .fn _ _ _ _ _ (aui.trans Jg) (xr.trans Le) (λk c u e e'=>?_) (λk c u e e'=>?_)
       ·obtain⟨c0,e1,e2⟩:=axf k c e;exact e2 I' h1 (λB ⟨b,hb,r⟩=>h2 B ⟨b,by simp[hb],r⟩) u (ha k c0 u e1 e')
       ·obtain⟨c0,e1,e2⟩:=axg k c e;exact e2 I' h1 (λB ⟨b,hb,r⟩=>h2 B ⟨b,by simp[hb],r⟩) u (hc k c0 u e1 e')
   | mp b=>cases h
   | _=>cases h;exact⟨λb hb=>by simp at hb,Hw.self rfl⟩
  ·unfold FT at h;cases v with
   | nil=>cases h;exact⟨λb hb=>by simp at hb,Lw.nil⟩
   | cons x r=>
    simp only at h;cases hs:NA d rd x with
    | none=>rw[hs]at h;cases h
    | some p=>
     obtain⟨x',l1,g1⟩:=p;cases Kx:FT d rd r with
     | none=>rw[hs,Kx]at h;cases h
     | some p=>obtain⟨r',l2,g2⟩:=p;rw[hs,Kx]at h;simp only[CU,FZ]at h;obtain⟨rfl,rfl,hg⟩:=h;obtain⟨rfl,rfl⟩:=A4 hg;obtain⟨a1,a2⟩:=ih1 _ _ _ hs λb hb=>hr b (by simp[hb]);obtain⟨b1,b2⟩:=NZ _ _ _ Kx λb hb=>hr b (by simp[hb]);exact⟨λb hb=>(Cp.1 hb).elim (a1 b) (b1 b),Lw.cons (a2.more λb hb=>JD _ hb) (b2.more λb hb=>Vo _ hb)⟩
  ·unfold UW at h;cases v with
   | nil=>cases h;exact⟨λb hb=>by simp at hb,Oq.nil⟩
   | cons x r=>
    simp only at h;cases hs:FT d rd x with
    | none=>rw[hs]at h;cases h
    | some p=>
     obtain⟨x',l1,g1⟩:=p;cases Kx:UW d rd r with
     | none=>rw[hs,Kx]at h;cases h
     | some p=>obtain⟨r',l2,g2⟩:=p;rw[hs,Kx]at h;simp only[CU,FZ]at h;obtain⟨rfl,rfl,hg⟩:=h;obtain⟨rfl,rfl⟩:=A4 hg;obtain⟨a1,a2⟩:=NZ _ _ _ hs λb hb=>hr b (by simp[hb]);obtain⟨b1,b2⟩:=ih3 _ _ _ Kx λb hb=>hr b (by simp[hb]);exact⟨λb hb=>(Cp.1 hb).elim (a1 b) (b1 b),Oq.cons (a2.more λb hb=>JD _ hb) (b2.more λb hb=>Vo _ hb)⟩
def UK{α:Type}{x:Option (α × List Nat × Bool)}{v:α}{l:List Nat}:aa x=some (v,l) ↔ x=some (v,l,true):=by
 cases x with
 | none=>simp[aa]
 | some p=>obtain⟨a,b,g⟩:=p;cases g <;> simp[aa]
def vg{w:World}{I:Nat->Prop}{φ:Ac}{rd:Nat->BS}(hh:RH w I φ rd)(d:Nat) :
  (∀ v v' l,snap d rd v=some (v',l)->(∀ b ∈ l,live (rd b)=true)/\Hw w I φ l v v') /\
  (∀ v v' l,xi d rd v=some (v',l)->(∀ b ∈ l,live (rd b)=true)/\Lw w I φ l v v') /\
  (∀ v v' l,arM d rd v=some (v',l)->(∀ b ∈ l,live (rd b)=true)/\Oq w I φ l v v'):=
 ⟨λv v' l h=>(ZW hh d).1 v v' l (UK.1 h) λ_ _=>rfl,λv v' l h=>(ZW hh d).2.1 v v' l (UK.1 h) λ_ _=>rfl,λv v' l h=>(ZW hh d).2.2 v v' l (UK.1 h) λ_ _=>rfl⟩
end
def PA(ρ:Nat->Option Nat):∀ cs,EX ρ cs=cs.map (BX ρ)
 | []=>by simp[EX]
 | v::r=>by rw[EX,PA ρ r];rfl
def S4{ρ:Nat->Option Nat}{cs:List AV}{k:Nat}{c':AV}(h:(EX ρ cs)[k]? = some c'):∃ c,cs[k]? = some c/\c'=BX ρ c:=by
 rw[PA,EO]at h;cases e:cs[k]? with
 | none=>rw[e]at h;cases h
 | some c=>rw[e]at h;cases h;exact⟨c,rfl,rfl⟩
section
variable {w:World} {I:Nat->Prop}
def RV.BX{φ:Ac}{v:AV}{u:Value}(h:RV w I φ v u):∀ {BO:Ac} {ρ:Nat->Option Nat},(∀ b b',ρ b=some b'->BO b'=φ b)->RV w I BO (BX ρ v) u:=by
 induction h with
 | undef v=>intros;simp only[AM.BX];exact .undef v
 | hd a n c=>intros;simp only[AM.BX];exact .hd a n c
 | mk k m v a n c h hk=>intros;simp only[AM.BX];exact .mk k m v a n c h hk
 | bool b=>intros;simp only[AM.BX];exact .bool b
 | int k n=>intros;simp only[AM.BX];exact .int k n
 | DR k n=>intros;simp only[AM.BX];exact .DR k n
 | Al k a b=>intros;simp only[AM.BX];exact .Al k a b
 | str s l h=>intros;simp only[AM.BX];exact .str s l h
 | HB=>intros;simp only[AM.BX];exact .HB
 | ptr b B o sz i j q h hq=>
  intro BO ρ FI;simp only[AM.BX];cases e:ρ b with
  | none=>exact .undef _
  | some b'=>exact .ptr b' B o sz i j q ((FI b b' e).trans h) hq
 | tp cs j B o q u hB hq hc h1 hr _=>intros;simp only[AM.BX];exact .tp cs j B o q u hB hq hc h1 hr
 | Ak=>intros;simp only[AM.BX];exact .Ak
 | sl sz b B o off len cm cap q h hq hl hc hs=>
  intro BO ρ FI;simp only[AM.BX];cases e:ρ b with
  | none=>exact .undef _
  | some b'=>exact .sl sz b' B o off len cm cap q ((FI b b' e).trans h) hq hl hc hs
 | sle sz b off a=>
  intro BO ρ FI;simp only[AM.BX];cases e:ρ b with
  | none=>exact .undef _
  | some b'=>exact .sle sz b' off a
 | tr sz n f B o cap u hB hn C6 hlen hc h1 hr _=>intros;simp only[AM.BX];exact .tr sz n f B o cap u hB hn C6 hlen hc h1 hr
 | Cq sz f a=>intros;simp only[AM.BX];exact .Cq sz f a
 | A9 sz es v h hz _=>intros;simp only[AM.BX];exact .A9 sz es v (h.free rfl) hz
 | agg cs vs hl h1 _ ih=>intro BO ρ FI;simp only[AM.BX];refine .agg _ vs (by rw[PA];simpa using hl) h1 λk c u e e'=>?_;obtain⟨c0,e1,rfl⟩:=S4 e;exact ih k c0 u e1 e' FI
 | Am cs vs hl _ ih=>intro BO ρ FI;simp only[AM.BX];refine .Am _ vs (by rw[PA];simpa using hl) λk c u e e'=>?_;obtain⟨c0,e1,rfl⟩:=S4 e;exact ih k c0 u e1 e' FI
 | fn f a c va vc Jg Le _ _ T3 Yh=>
  intro BO ρ FI;simp only[AM.BX];refine .fn f _ _ va vc (by rw[PA];simpa using Jg) (by rw[PA];simpa using Le) (λk c u e e'=>?_) (λk c u e e'=>?_)
  ·obtain⟨c0,e1,rfl⟩:=S4 e;exact T3 k c0 u e1 e' FI
  ·obtain⟨c0,e1,rfl⟩:=S4 e;exact Yh k c0 u e1 e' FI
 | I9=>intros;simp only[AM.BX];exact .I9
 | HC=>intros;simp only[AM.BX];exact .HC
 | mp b B h=>
  intro BO ρ FI;simp only[AM.BX];cases e:ρ b with
  | none=>exact .undef _
  | some b'=>exact .mp b' B ((FI b b' e).trans h)
 | DT sz b a=>
  intro BO ρ FI;simp only[AM.BX];cases e:ρ b with
  | none=>exact .undef _
  | some b'=>exact .DT sz b' a
 | sn sz b n B o cap h hl hs=>
  intro BO ρ FI;simp only[AM.BX];cases e:ρ b with
  | none=>exact .undef _
  | some b'=>exact .sn sz b' n B o cap ((FI b b' e).trans h) hl hs
 | tn sz n f v h ih=>intro BO ρ FI;have:=ih FI;simp only[AM.BX]at this ⊢;exact .tn sz n f v this
def RB.BX{φ BO:Ac}{ρ:Nat->Option Nat}{B o sz:Nat}{x:BS}(h:RB w I φ B o sz x)(FI:∀ b b',ρ b=some b'->BO b'=φ b):RB w I BO B o sz (Ch ρ x):=by
 cases x with
 | none=>exact h
 | dead=>exact h
 | arr m s es=>
  obtain⟨h0,h1,h2,h3⟩:=h;refine⟨h0,h1,λi cs e=>?_,λi cs k c e e'=>?_⟩
  ·rw[EO]at e;cases e0:es[i]? with
   | none=>rw[e0]at e;cases e
   | some c0=>rw[e0]at e;cases e;rw[PA];simpa using h2 i c0 e0
  ·rw[EO]at e;cases e0:es[i]? with
   | none=>rw[e0]at e;cases e
   | some c0=>rw[e0]at e;cases e;obtain⟨c1,e1,rfl⟩:=S4 e';obtain⟨u,a1,a2,a3⟩:=h3 i c0 k c1 e0 e1;exact⟨u,a1,a2,a3.BX FI⟩
 | seq m s n f=>exact h
 | Cb m s n f i0 c0 ks cur=>
  obtain⟨h0,h1,h2,h3⟩:=h;have hr:∀ i,DF (λi=>EX ρ (f i)) i0 (EX ρ c0) i=EX ρ (DF f i0 c0 i):=λi=>by unfold DF;cases Nat.beq i i0 <;> rfl
  refine⟨h0,h1,λi hi=>by rw[hr,PA];simpa using h2 i hi,λi k c hi e=>?_⟩;rw[hr]at e;obtain⟨c1,e1,rfl⟩:=S4 e;obtain⟨u,a1,a2,a3⟩:=h3 i k c1 hi e1;exact⟨u,a1,a2,a3.BX FI⟩
 | pmap m ks val=>exact h
 | Fz m ks val rem cur=>exact h
 | map m es=>
  simp only[Ch];cases hc:es.all (λp=>Ed p.1)with
  | false=>trivial
  | true=>
   rw[Ae];obtain⟨h0,h1,mes,clock,h2,h3,h4,Jh⟩:=h;refine⟨h0,h1,mes,clock,h2,by simpa using h3,λi kv e a b=>?_,Jh⟩;rw[EO]at a;cases e0:es[i]? with
   | none=>rw[e0]at a;cases a
   | some p=>rw[e0]at a;cases a;obtain⟨x,y,z⟩:=h4 i p e e0 b;exact⟨x.free (HA.1 hc _ (Dy e0)),y.BX FI,z⟩
 | iter m es st=>exact h
def UL(ρ:Nat->Option Nat){x:BS}(h:Gv x):Gv (Ch ρ x):=by cases x <;> first | exact h | exact h.elim
def DW(ρ:Nat->Option Nat)(x:BS):(live (Ch ρ x)=true->live x=true)/\(AZ (Ch ρ x)=true->AZ x=true)/\(Ch ρ x=.none->x=.none)/\(live (Ch ρ x)=true->AZ (Ch ρ x)=AZ x):=by
 cases x with
 | map m es=>simp only[Ch];cases es.all (λp=>Ed p.1) <;> simp[live,AZ]
 | _=>simp[Ch,live,AZ]
def ZC:∀ {cs:List AV} {k:Nat} {c:AV},UO cs=false->cs[k]? = some c->Jt c=false
 | [],k,c,_,e=>by simp at e
 | v::r,0,c,h,e=>by simp only[UO,Mw]at h;simp at e;exact e ▸ h.1
 | v::r,k+1,c,h,e=>by simp only[UO,Mw]at h;simp at e;exact ZC h.2 e
def RV.Xi{φ:Ac}{v:AV}{u:Value}(h:RV w I φ v u)(J:Nat->Prop):Jt v=false->RV w J φ v u:=by
 induction h with
 | hd a n c=>intros;exact .hd a n c
 | mk=>intro ht;simp[Jt]at ht
 | undef v=>intros;exact .undef v
 | bool b=>intros;exact .bool b
 | int k n=>intros;exact .int k n
 | DR k n=>intros;exact .DR k n
 | Al k a b=>intros;exact .Al k a b
 | str s l h=>intros;exact .str s l h
 | HB=>intros;exact .HB
 | ptr b B o sz i j q h hq=>intros;exact .ptr b B o sz i j q h hq
 | tp cs j B o q u hB hq hc h1 hr _=>intro ht;simp[Jt]at ht
 | Ak=>intros;exact .Ak
 | sl sz b B o off len cm cap q h hq hl hc hs=>intros;exact .sl sz b B o off len cm cap q h hq hl hc hs
 | sle sz b off a=>intros;exact .sle sz b off a
 | tr sz n f B o cap u hB hn C6 hlen hc h1 hr _=>intro ht;simp[Jt]at ht
 | Cq sz f a=>intros;exact .Cq sz f a
 | A9 sz es v h hz _=>
  intro ht;cases es with
  | cons e es=>simp[Jt]at ht
  | nil=>
   refine .A9 sz [] v ?_ hz;simp only[U8]at h ⊢;cases h with
   | tr _ _ _ B o cap u hB hn C6 hlen hc h1 hr=>exact .tr sz 0 _ B o cap u (λh=>absurd h (DP 0)) hn (λh=>absurd h (DP 0)) (λi hi=>by omega) (λi k c hi=>by omega) (λi k c hi=>by omega) (λi k c hi=>by omega)
   | Cq _ _ a=>exact .Cq sz _ a
 | agg cs vs hl h1 _ ih=>intro ht;exact .agg cs vs hl h1 λk c u e e'=>ih k c u e e' (ZC (by simpa [Jt] using ht) e)
 | Am cs vs hl _ ih=>intro ht;exact .Am cs vs hl λk c u e e'=>ih k c u e e' (ZC (by simpa [Jt] using ht) e)
 | fn f a c va vc Jg Le _ _ T3 Yh=>intro ht;simp only[Jt,Mw]at ht;exact .fn f a c va vc Jg Le (λk c u e e'=>T3 k c u e e' (ZC ht.1 e)) (λk c u e e'=>Yh k c u e e' (ZC ht.2 e))
 | I9=>intros;exact .I9
 | HC=>intros;exact .HC
 | mp b B h=>intros;exact .mp b B h
 | DT sz b a=>intros;exact .DT sz b a
 | sn sz b n B o cap h hl hs=>intros;exact .sn sz b n B o cap h hl hs
 | tn=>intro ht;simp[Jt]at ht
def ai9{x:BS}(h:Rk x=false)(hl:live x=true):AZ x=true:=by cases x <;> simp_all [Rk,live,AZ]
def RB.Xi{φ:Ac}{B o sz:Nat}{x:BS}(h:RB w I φ B o sz x)(J:Nat->Prop)(ht:Rk x=false):RB w J φ B o sz x:=by
 cases x with
 | none=>trivial
 | dead=>trivial
 | arr m s es=>obtain⟨h0,h1,h2,h3⟩:=h;simp only[Rk,Mw,List.any_eq_false]at ht;refine⟨h0,h1,h2,λi cs k c e e'=>?_⟩;obtain⟨u,a1,a2,a3⟩:=h3 i cs k c e e';exact⟨u,a1,a2,a3.Xi J (ZC (by simpa using ht.2 cs (Dy e)) e')⟩
 | seq m s n f=>simp[Rk]at ht
 | map m es=>obtain⟨h0,h1,mes,clock,h2,h3,h4,Jh⟩:=h;simp only[Rk,Mw,List.any_eq_false]at ht;refine⟨h0,h1,mes,clock,h2,h3,λi kv e a b=>?_,Jh⟩;obtain⟨x,y,z⟩:=h4 i kv e a b;have:=ht.2 kv (Dy a);simp only[Bool.not_eq_true,Mw]at this;exact⟨x.Xi J this.1,y.Xi J this.2,z⟩
 | iter m es st=>cases ht
 | Cb m s n f i0 c0 ks cur=>cases ht
 | pmap m ks val=>cases ht
 | Fz m ks val rem cur=>cases ht
def Ha(l:List Nat):Prop:=∀ (i j b:Nat),l[i]? = some b->l[j]? = some b->i=j
def fh(b:Nat):∀ l,HW b l=true ↔ b ∈ l
 | []=>by simp[HW]
 | x::r=>by
  rw[HW];cases h:Nat.beq x b with
  | true=>simp[BN h]
  | false=>
   have:x ≠ b:=λe=>by subst e;simp at h
   rw[Aj,fh b r];simp[Ne.symm this]
def Ha.snoc{l:List Nat}(h:Ha l){b:Nat}(hb:b ∉ l):Ha (l++[b]):=by
 intro i j c e e';rw[Vp]at e e';split at e
 ·split at e'
  ·exact h i j c e e'
  ·have hc:c ∈ l:=Dy e;have:c=b:=by
    have:=Dy e';simpa using this
   exact absurd (this ▸ hc) hb
 ·split at e'
  ·have hc:c ∈ l:=Dy e';have:c=b:=by
    have:=Dy e;simpa using this
   exact absurd (this ▸ hc) hb
  ·have h1:i - l.length=0:=by
    rcases LJ (i - l.length)with h0 | h0
    ·exact h0
    ·rw[CK (by simp;omega)]at e;cases e
   have h2:j - l.length=0:=by
    rcases LJ (j - l.length)with h0 | h0
    ·exact h0
    ·rw[CK (by simp;omega)]at e';cases e'
   omega
def ZX(rd:Nat->BS):∀ (d:Nat) (r acc:List Nat),Ha acc->Ha (reach d rd r acc) /\ ∃ t,reach d rd r acc=acc++t
 | 0,r,acc,h=>⟨h,[],by simp[reach]⟩
 | d+1,[],acc,h=>⟨h,[],by simp[reach]⟩
 | d+1,b::r,acc,h=>by
  rw[reach];cases hm:HW b acc with
  | true=>rw[Ae];exact ZX rd d r acc h
  | false=>
   rw[Aj];have hb:b ∉ acc:=λe=>by rw[(fh b acc).2 e]at hm;cases hm
   obtain⟨h1,t,h2⟩:=ZX rd d (kids (rd b)++r) (acc++[b]) (h.snoc hb);exact⟨h1,[b]++t,by rw[h2];simp⟩
def Ha.nil:Ha []:=λi j b e=>by simp at e
def abd{n i b:Nat}(e:(List.range n)[i]? = some b):i<n/\b=i:=by
 rcases Cj i n with h | h
 ·rw[Mx h]at e;cases e;exact⟨h,rfl⟩
 ·rw[CK (by simpa using h)]at e;cases e
def Ha.range(n:Nat):Ha (List.range n):=λi j b e e'=>(abd e).2.symm.trans (abd e').2
def Xa(b:Nat):∀ (l:List Nat) (n i:Nat),indexOf b l n=some i->n<=i/\l[i - n]? = some b
 | [],n,i,h=>by simp[indexOf]at h
 | x::r,n,i,h=>by
  rw[indexOf]at h;cases hx:Nat.beq x b with
  | true=>rw[hx,Ae]at h;cases h;exact⟨Ar _,by simp[BN hx]⟩
  | false=>
   rw[hx,Aj]at h;obtain⟨h1,h2⟩:=Xa b r (n+1) i h;refine⟨by omega,?_⟩;have:i - n=(i - (n+1))+1:=by omega
   rw[this];simpa using h2
def Ju(ids:List Nat)(rd:Nat->BS):Heap:=ids.map λb=>Ch (λb=>indexOf b ids 0) (rd b)
def Ke(ids:List Nat)(φ:Ac):Ac:=λi=>(ids[i]?).bind φ
def sZ(ids:List Nat)(rd:Nat->BS)(i:Nat):Ab (Ju ids rd) i=match ids[i]? with
  | some b=>Ch (λb=>indexOf b ids 0) (rd b)
  | .none=>.none:=by
 simp only[Ab,Ju,List.getD,EO];cases ids[i]? <;> rfl
def eY{ids:List Nat}{φ:Ac}(b b':Nat)(h:indexOf b ids 0=some b'):Ke ids φ b'=φ b:=by have:=(Xa b ids 0 b' h).2;simp only[PS]at this;simp[Ke,this]
def RH.aG{φ:Ac}{rd:Nat->BS}(h:RH w I φ rd){ids:List Nat}(hd:Ha ids):RH w I (Ke ids φ) (Ab (Ju ids rd)):=by
 have key:∀ i,live (Ab (Ju ids rd) i)=true -> ∃ b,ids[i]? = some b/\Ab (Ju ids rd) i=Ch (λb=>indexOf b ids 0) (rd b)/\live (rd b)=true/\Ke ids φ i=φ b/\AZ (Ab (Ju ids rd) i)=AZ (rd b):=by
  intro i hl;have e0:=sZ ids rd i;cases e:ids[i]? with
  | none=>rw[e]at e0;rw[e0]at hl;cases hl
  | some b=>rw[e]at e0;simp only at e0;rw[e0]at hl;exact⟨b,rfl,e0,(DW _ _).1 hl,by simp[Ke,e],by rw[e0];exact(DW _ _).2.2.2 hl⟩
 refine⟨λi e=>?_,λi hl=>?_,λi j B o sz o' sz' hm BW e e'=>?_,λi B o sz hm e=>?_,λi B o sz hl hm e=>?_,h.lt⟩
 ·have e0:=sZ ids rd i;cases e1:ids[i]? with
  | none=>simp[Ke,e1]
  | some b=>rw[e1]at e0;simp only at e0;rw[e0]at e;simp only[Ke,e1,U7];exact h.none b ((DW _ _).2.2.1 e)
 ·obtain⟨b,h1,h2,h3,h4,h5⟩:=key i hl;rcases h.CY b h3 with ⟨B,o,sz,e,r⟩ | ⟨e,hp⟩
  ·exact .inl ⟨B,o,sz,h4.trans e,by rw[h2];exact r.BX λb b'=>eY b b'⟩
  ·exact .inr ⟨h4.trans e,by rw[h2];exact UL _ hp⟩
 ·obtain⟨b,h1,h2,h3,h4,h5⟩:=key i (Fv hm);obtain⟨b',FG,E0,O5,Ub,Uc⟩:=key j (Fv BW);have:=h.inj b b' B o sz o' sz' (h5 ▸ hm) (Uc ▸ BW) (h4 ▸ e) (Ub ▸ e');subst this;exact hd i j b h1 FG
 ·obtain⟨b,h1,h2,h3,h4,h5⟩:=key i (Fv hm);exact h.CP b B o sz (h5 ▸ hm) (h4 ▸ e)
 ·obtain⟨b,h1,h2,h3,h4,h5⟩:=key i hl;exact h.Ea b B o sz h3 (h5 ▸ hm) (h4 ▸ e)
def ZU{φ:Ac}{rd:Nat->BS}{ids:List Nat}{B:Nat}(h:Ca (Ke ids φ) (Ab (Ju ids rd)) B):Ca φ rd B:=by
 obtain⟨i,o,sz,hm,e⟩:=h;have e0:=sZ ids rd i;cases e1:ids[i]? with
 | none=>rw[e1]at e0;rw[e0]at hm;cases hm
 | some b=>rw[e1]at e0;simp only at e0;rw[e0]at hm;exact⟨b,o,sz,(DW _ _).2.1 hm,by simpa [Ke,e1] using e⟩
end
def aak(rd:Nat->BS):∀ l l',Ee rd (l++l')=Ee (Ee rd l) l'
 | [],l'=>rfl
 | (b,x)::r,l'=>by rw[List.cons_append];exact aak (BU rd b x) r l'
def aaL(b:Nat):∀ (l:Wr) (rd:Nat->BS),(∀ p ∈ l,p.1 ≠ b)->Ee rd l b=rd b
 | [],rd,_=>rfl
 | (b',x)::r,rd,h=>by rw[Ee,aaL b r _ λp hp=>h p (by simp[hp]),C0 _ _ (λe=>h (b',x) (by simp) e.symm)]
def ajf(g rd:Nat->BS)(b:Nat):∀ (l:List Nat),Ee rd (l.map λb=>(b,frozen (g b))) b=if b ∈ l then frozen (g b)else rd b:=by
 intro l
 induction l generalizing rd with
 | nil=>simp[Ee]
 | cons x r ih=>
  simp only[NP,Ee,ih];by_cases h1:b ∈ r
  ·simp[h1]
  ·simp only[h1,Hg,Dz];by_cases h2:b=x
   ·subst h2;simp
   ·rw[C0 _ _ h2];simp[h2]
def aad(nx b:Nat):∀ (l:List BS) (i:Nat) (rd:Nat->BS),Ee rd (imports nx i l) b=if nx+i<=b/\b<nx+i+l.length then l.getD (b - (nx+i)) .none else rd b
 | [],i,rd=>by simp[imports,Ee];omega
 | x::r,i,rd=>by
  simp only[imports,Ee,aad nx b r (i+1)];by_cases h1:nx+(i+1)<=b/\b<nx+(i+1)+r.length
  ·rw[Ay h1,Ay (by simp;omega)];have:b - (nx+i)=(b - (nx+(i+1)))+1:=by omega
   rw[this];simp
  ·rw[AE h1];by_cases h2:b=nx+i
   ·subst h2;rw[DL,Ay (by simp)];simp
   ·rw[C0 _ _ h2,AE (by simp;omega)]
def aaB{nx:Nat}:∀ {l:List BS} {i j:Nat},j<l.length -> ∃ x,(nx+i+j,x) ∈ imports nx i l
 | [],i,j,h=>by simp at h
 | x::r,i,0,h=>⟨x,by simp[imports]⟩
 | x::r,i,j+1,h=>by obtain⟨y,hy⟩:=aaB (nx:=nx) (l:=r) (i:=i+1) (j:=j) (by simpa using h);exact⟨y,by simp only[imports,Dz];right;rw[show nx+i+(j+1)=nx+(i+1)+j by omega];exact hy⟩
def aae{x:BS}(h:Gv x):Gv (frozen x):=by cases x <;> first | exact h | exact h.elim
def ZH(x:BS):live (frozen x)=live x/\AZ (frozen x)=false/\(frozen x=.none->x=.none):=by cases x <;> simp[frozen,live,AZ]
def RB.frozen{w:World}{I:Nat->Prop}{φ:Ac}{B o sz:Nat}{x:BS}(h:RB w I φ B o sz x):RB w I φ B o sz (frozen x):=by
 cases x with
 | none=>trivial
 | dead=>trivial
 | arr m s es=>exact⟨h.1,let ⟨c,e,fz,hc,_⟩:=h.2.1;⟨c,e,fz,hc,λh=>by cases h⟩,h.2.2⟩
 | seq m s n f=>exact⟨h.1,let ⟨c,e,fz,hc,_⟩:=h.2.1;⟨c,e,fz,hc,λh=>by cases h⟩,h.2.2⟩
 | Cb m s n f i0 c0 ks cur=>exact⟨h.1,let ⟨c,e,fz,hc,_⟩:=h.2.1;⟨c,e,fz,hc,λh=>by cases h⟩,h.2.2⟩
 | map m es=>exact h
 | iter m es st=>exact h
 | pmap m ks val=>exact h
 | Fz m ks val rem cur=>exact h
def RB.lt{w:World}{I:Nat->Prop}{φ:Ac}{B o sz:Nat}{x:BS}(h:RB w I φ B o sz x)(hl:live x=true):B<w.heap.size:=by
 cases x with
 | arr m s es=>obtain⟨_,⟨c,e,fz,hc,_⟩,_⟩:=h;exact CQ hc
 | seq m s n f=>obtain⟨_,⟨c,e,fz,hc,_⟩,_⟩:=h;exact CQ hc
 | map m es=>obtain⟨_,_,mes,clock,hc,_⟩:=h;exact CQ hc
 | iter m es st=>obtain⟨_,_,mm,since,seen,mes,clock,hc,_⟩:=h;exact CQ hc
 | Cb m s n f i0 c0 ks cur=>obtain⟨_,⟨c,e,fz,hc,_⟩,_⟩:=h;exact CQ hc
 | pmap m ks val=>obtain⟨_,_,mes,clock,hc,_⟩:=h;exact CQ hc
 | Fz m ks val rem cur=>obtain⟨_,_,mm,since,seen,mes,clock,hc,_⟩:=h;exact CQ hc
 | none=>cases hl
 | dead=>cases hl
def RH.ab7{w:World}{I:Nat->Prop}{φ:Ac}{rd:Nat->BS}(h:RH w I φ rd){B:Nat}(hB:I B\/Ca φ rd B):B<w.heap.size:=by
 rcases hB with hB | ⟨b,o,sz,hm,e⟩
 ·exact h.lt B hB
 ·obtain⟨B',o',sz',e',r⟩:=h.JI e (Fv hm);rw[e]at e';cases e';exact r.lt (Fv hm)
def Ms(nx n:Nat)(φ φ':Ac):Ac:=λb=>if nx<=b/\b<nx+n then φ' (b - nx)else φ b
def RH.merge{w w':World}{I I2:Nat->Prop}{φ φ':Ac}{rd:Nat->BS}{bs:Heap}{nx:Nat}{t:Bool}{rch:List Nat}(hh:RH w I φ rd)(hr:∀ b ∈ rch,live (rd b)=true)
  (hn:∀ i,i<bs.length->rd (nx+i)=.none) (ext:Ext (λ_=>False) w w')
  (ha:∀ B,I B->I2 B) (hb:∀ B,I2 B->I B\/(t=true/\Ft φ rch B)\/w.heap.size<=B) (hd:t=true -> ∀ B,Ft φ rch B->I2 B)
  (hx:RH w' I2 φ' (Ab bs)) (ER:∀ B,Ca φ' (Ab bs) B->w.heap.size<=B) (A8:∀ B,w.heap.size<=B->(I2 B\/Ca φ' (Ab bs) B)->F7 w' B) (g:Nat->BS) (hg:∀ b ∈ rch,g b=rd b) :
  ∃ BO,(∀ b b',shift nx bs.length b=some b'->BO b'=φ' b)/\Ac.le φ BO /\
   RH w' I2 BO (Ee rd ((bif t then rch.map λb=>(b,frozen (g b))else [])++imports nx 0 (bs.map (Ch (shift nx bs.length))))) /\
   (∀ base,base<=nx->Step base rd φ I w (Ee rd ((bif t then rch.map λb=>(b,frozen (g b))else [])++imports nx 0 (bs.map (Ch (shift nx bs.length))))) BO I2 w'):=by
 have hsz:=ext.size;have hk:∀ B,B<w.heap.size->w'.heap[B]? = w.heap[B]? := λB h=>ext.keep B h λf=>f;have hcs:=ext.Bv;have hrd:∀ b,Ee rd ((bif t then rch.map λb=>(b,frozen (g b))else [])++imports nx 0 (bs.map (Ch (shift nx bs.length)))) b =
   if nx<=b/\b<nx+bs.length then Ch (shift nx bs.length) (Ab bs (b - nx))else if t=true/\b ∈ rch then frozen (rd b)else rd b:=by
  intro b;rw[aak,aad];simp only[Iy,OK];by_cases h1:nx<=b/\b<nx+bs.length
  ·rw[Ay h1,Ay h1];simp only[List.getD,EO,Ab];have:b - nx<bs.length:=by omega
   rw[BR this];rfl
  ·rw[AE h1,AE h1];cases t with
   | false=>simp[Ee]
   | true=>
    rw[Ae,ajf];by_cases h2:b ∈ rch
    ·simp[h2,hg b h2]
    ·simp[h2]
 generalize Ee rd ((bif t then rch.map λb=>(b,AM.frozen (g b))else [])++imports nx 0 (bs.map (Ch (shift nx bs.length))))=Ii at hrd ⊢;have MO:∀ b b',shift nx bs.length b=some b'->b<bs.length/\b'=nx+b:=by
  intro b b' e;unfold shift at e;cases h:Nat.blt b bs.length with
  | false=>rw[h]at e;cases e
  | true=>rw[h,Ae]at e;cases e;exact⟨by simpa [CW] using h,rfl⟩
 have Vt:∀ b b',shift nx bs.length b=some b'->Ms nx bs.length φ φ' b'=φ' b:=by intro b b' e;obtain⟨h1,rfl⟩:=MO b b' e;unfold Ms;rw[Ay (by omega),Nat.add_sub_cancel_left]
 have hle:Ac.le φ (Ms nx bs.length φ φ'):=by
  intro b p e;unfold Ms;by_cases h1:nx<=b/\b<nx+bs.length
  ·have:=hh.none b (by have:=hn (b - nx) (by omega);rwa [show nx+(b - nx)=b by omega]at this);rw[this]at e;cases e
  ·rw[AE h1];exact e
 have hI:∀ B,I B->I2 B/\w'.heap[B]? = w.heap[B]? := λB hB=>⟨ha B hB,hk B (hh.lt B hB)⟩
 have U5:∀ b,live (Ii b)=true->(∃ i,b=nx+i/\i<bs.length/\Ii b=Ch (shift nx bs.length) (Ab bs i)/\live (Ab bs i)=true/\AZ (Ii b)=AZ (Ab bs i)/\Ms nx bs.length φ φ' b=φ' i) \/
   (¬ (nx<=b/\b<nx+bs.length)/\live (rd b)=true/\(AZ (Ii b)=true->AZ (rd b)=true/\Ii b=rd b/\(t=true->b ∉ rch))/\(Ii b=rd b\/(Ii b=frozen (rd b)/\t=true/\b ∈ rch))/\Ms nx bs.length φ φ' b=φ b):=by
  intro b hl;have e:=hrd b;by_cases h1:nx<=b/\b<nx+bs.length
  ·rw[Ay h1]at e;rw[e]at hl;refine .inl ⟨b - nx,by omega,by omega,e,(DW _ _).1 hl,by rw[e];exact(DW _ _).2.2.2 hl,by unfold Ms;rw[Ay h1]⟩
  ·rw[AE h1]at e;have hp:Ms nx bs.length φ φ' b=φ b:=by unfold Ms;rw[AE h1]
   by_cases h2:t=true/\b ∈ rch
   ·rw[Ay h2]at e;rw[e]at hl;exact .inr ⟨h1,(ZH _).1 ▸ hl,λhm=>(by rw[e,(ZH _).2.1]at hm;cases hm),.inr ⟨e,h2.1,h2.2⟩,hp⟩
   ·rw[AE h2]at e;rw[e]at hl;exact .inr ⟨h1,hl,λhm=>⟨e ▸ hm,e,λht hb=>h2 ⟨ht,hb⟩⟩,.inl e,hp⟩
 have oF:∀ b B o sz,live (rd b)=true->φ b=some (B,o,sz)->B<w.heap.size:=by intro b B o sz hl e;have r:=hh.at e hl;exact r.lt hl
 have Dm:∀ B,Ca (Ms nx bs.length φ φ') Ii B->Ca φ rd B\/w.heap.size<=B:=by
  rintro B ⟨b,o,sz,hm,e⟩;rcases U5 b (Fv hm)with ⟨i,h1,h2,h3,h4,h5,h6⟩ | ⟨h1,h2,h3,h4,h5⟩
  ·exact .inr (ER B ⟨i,o,sz,h5 ▸ hm,h6 ▸ e⟩)
  ·exact .inl ⟨b,o,sz,(h3 hm).1,h5 ▸ e⟩
 have afN:∀ B,I2 B->I B\/Ca φ rd B\/w.heap.size<=B:=λB hB=>by
  rcases hb B hB with hB | ⟨ht,b1,hb1,o1,Kz,e1⟩ | hB
  ·exact .inl hB
  ·cases hm1:AZ (rd b1)with
   | true=>exact .inr (.inl ⟨b1,o1,Kz,hm1,e1⟩)
   | false=>exact .inl (hh.Ea b1 B o1 Kz (hr b1 hb1) hm1 e1)
  ·exact .inr (.inr hB)
 have Kf:∀ B,(I2 B\/Ca (Ms nx bs.length φ φ') Ii B)->((I B\/Ca φ rd B)->F7 w B)->F7 w' B:=λB hB hy=>by
  by_cases hlt:B<w.heap.size
  ·have jw:I B\/Ca φ rd B:=by
    rcases hB with hB | hB
    ·rcases afN B hB with x | x | x
     ·exact .inl x
     ·exact .inr x
     ·omega
    ·rcases Dm B hB with x | x
     ·exact .inr x
     ·omega
   exact λc e fz h=>hy jw c e fz ((hk B hlt).symm.trans h)
  ·rcases hB with hB | ⟨b,o,sz,hm,e⟩
   ·exact A8 B (by omega) (.inl hB)
   ·rcases U5 b (Fv hm)with ⟨i,h1,h2,h3,h4,h5,h6⟩ | ⟨h1,h2,h3,h4,h5⟩
    ·exact A8 B (by omega) (.inr ⟨i,o,sz,h5 ▸ hm,h6 ▸ e⟩)
    ·exact absurd (oF b B o sz h2 (h5 ▸ e)) hlt
 refine⟨Ms nx bs.length φ φ',Vt,hle,⟨λb e=>?_,λb hl=>?_,λb b' B o sz o' sz' hm BW e e'=>?_,λb B o sz hm e hB=>?_,λb B o sz hl hm e=>?_,hx.lt⟩,λbase afO=>
  ⟨λb p _ e=>hle b p e,ha,afN,Dm,ext.weaken λ_ f=>f.elim,Kf⟩⟩
 ·have e0:=hrd b;rw[e]at e0;by_cases h1:nx<=b/\b<nx+bs.length
  ·rw[Ay h1]at e0;unfold Ms;rw[Ay h1];exact hx.none _ ((DW _ _).2.2.1 e0.symm)
  ·rw[AE h1]at e0;unfold Ms;rw[AE h1];by_cases h2:t=true/\b ∈ rch
   ·rw[Ay h2]at e0;exact hh.none b ((ZH _).2.2 e0.symm)
   ·rw[AE h2]at e0;exact hh.none b e0.symm
 ·rcases U5 b hl with ⟨i,h1,h2,h3,h4,h5,h6⟩ | ⟨h1,h2,h3,h4,h5⟩
  ·rcases hx.CY i h4 with ⟨B,o,sz,e,r⟩ | ⟨e,hp⟩
   ·exact .inl ⟨B,o,sz,h6.trans e,by rw[h3];exact r.BX Vt⟩
   ·exact .inr ⟨h6.trans e,by rw[h3];exact UL _ hp⟩
  ·rcases hh.CY b h2 with ⟨B,o,sz,e,r⟩ | ⟨e,hp⟩
   ·have r':=r.mono (w':=w') hI hcs hle (hk B (r.lt h2));refine .inl ⟨B,o,sz,h5.trans e,?_⟩;rcases h4 with h4 | ⟨h4,_⟩
    ·rw[h4];exact r'
    ·rw[h4];exact r'.frozen
   ·refine .inr ⟨h5.trans e,?_⟩;rcases h4 with h4 | ⟨h4,_⟩
    ·rw[h4];exact hp
    ·rw[h4];exact aae hp
 ·rcases U5 b (Fv hm)with ⟨i,h1,h2,h3,h4,h5,h6⟩ | ⟨h1,h2,h3,h4,h5⟩
  ·rcases U5 b' (Fv BW)with ⟨i',FG,E0,O5,Ub,Uc,h6'⟩ | ⟨FG,E0,O5,Ub,Uc⟩
   ·have:=hx.inj i i' B o sz o' sz' (h5 ▸ hm) (Uc ▸ BW) (h6 ▸ e) (h6' ▸ e');rw[h1,FG,this]
   ·have a1:=ER B ⟨i,o,sz,h5 ▸ hm,h6 ▸ e⟩;have a2:=oF b' B o' sz' E0 (Uc ▸ e');omega
  ·rcases U5 b' (Fv BW)with ⟨i',FG,E0,O5,Ub,Uc,h6'⟩ | ⟨FG,E0,O5,Ub,Uc⟩
   ·have a1:=ER B ⟨i',o',sz',Uc ▸ BW,h6' ▸ e'⟩;have a2:=oF b B o sz h2 (h5 ▸ e);omega
   ·exact hh.inj b b' B o sz o' sz' (h3 hm).1 (O5 BW).1 (h5 ▸ e) (Uc ▸ e')
 ·rcases U5 b (Fv hm)with ⟨i,h1,h2,h3,h4,h5,h6⟩ | ⟨h1,h2,h3,h4,h5⟩
  ·exact hx.CP i B o sz (h5 ▸ hm) (h6 ▸ e) hB
  ·have Hm:=(h3 hm).1;have e0:φ b=some (B,o,sz):=h5 ▸ e;rcases hb B hB with hB | ⟨ht,b1,hb1,o1,Kz,e1⟩ | hB
   ·exact hh.CP b B o sz Hm e0 hB
   ·cases hm1:AZ (rd b1)with
    | true=>have:=hh.inj b b1 B o sz o1 Kz Hm hm1 e0 e1;subst this;exact(h3 hm).2.2 ht hb1
    | false=>exact hh.CP b B o sz Hm e0 (hh.Ea b1 B o1 Kz (hr b1 hb1) hm1 e1)
   ·have:=oF b B o sz h2 e0;omega
 ·rcases U5 b hl with ⟨i,h1,h2,h3,h4,h5,h6⟩ | ⟨h1,h2,h3,h4,h5⟩
  ·exact hx.Ea i B o sz h4 (h5 ▸ hm) (h6 ▸ e)
  ·have e0:φ b=some (B,o,sz):=h5 ▸ e;rcases h4 with h4 | ⟨h4,ht,hbr⟩
   ·exact ha B (hh.Ea b B o sz h2 (h4 ▸ hm) e0)
   ·exact hd ht B ⟨b,hbr,o,sz,e0⟩
def Yr(P:Program)(f:Nat)(ra:Array Value)(w:World)(K:Value->World->Prop):Prop:=
 ((callFunc f ra).run P w=.ok (.enter f ra) w/\Calls P f ra w λe w'=>∃ u,e=.returned u/\K u w') \/ ∃ u w',(callFunc f ra).run P w=.ok (.value u) w'/\K u w'
def Yr.mono{P:Program}{f:Nat}{ra:Array Value}{w:World}{K K':Value->World->Prop}(h:Yr P f ra w K)(hk:∀ u w',K u w'->K' u w'):Yr P f ra w K':=by
 rcases h with ⟨h1,h2⟩ | ⟨u,w',h1,h2⟩
 ·exact .inl ⟨h1,Calls.mono h2 λe w' ⟨u,he,hu⟩=>⟨u,he,hk u w' hu⟩⟩
 ·exact .inr ⟨u,w',h1,hk u w' h2⟩
def F9(w:World)(I:Nat->Prop)(φ:Ac)(l:List AV)(ra:Array Value):Prop:=l.length=ra.size /\ ∀ (k:Nat) x u,l[k]? = some x->ra[k]? = some u->RV w I φ x u
def At(P:Program)(f:Nat)(args:List AV)(hp:Heap)(res:AV)(hp':Heap):Prop:=
 ∀ (w:World) (I:Nat->Prop) (φ:Ac) (ra:Array Value),RH w I φ (Ab hp)->F9 w I φ args ra ->
  Yr P f ra w λu w'=>∃ φ' I',RV w' I' φ' res u/\RH w' I' φ' (Ab hp')/\Step hp.length (Ab hp) φ I w (Ab hp') φ' I' w'
def EN{R:Type}(P:Program)(run:Gh R):Prop:=∀ f args hp k r,run f args hp k=some r -> ∃ res hp',k res hp'=some r/\hp.length<=hp'.length/\At P f args hp res hp'
def UP(b:Nat):Ab [] b=.none:=by simp[Ab]
def RH.empty(w:World)(I:Nat->Prop)(h:∀ B,I B->B<w.heap.size):RH w I Ac.no (Ab []):=by
 refine⟨λ_ _=>rfl,λb hl=>?_,λb b' B o sz o' sz' hm=>?_,λb B o sz hm=>?_,λb B o sz hl=>?_,h⟩
 ·rw[UP]at hl;cases hl
 ·rw[UP]at hm;cases hm
 ·rw[UP]at hm;cases hm
 ·rw[UP]at hl;cases hl
def Fw{φ:Ac}{B:Nat}(h:Ca φ (Ab []) B):False:=by obtain⟨b,o,sz,hm,_⟩:=h;rw[UP]at hm;cases hm
def At.aG{P:Program}{f:Nat}{args:List AV}{res:AV}{hp':Heap}(h:At P f args [] res hp'){ids:List Nat}(hd:Ha ids) :
  At P f args [] (BX (λb=>indexOf b ids 0) res) (Ju ids (Ab hp')):=by
 intro w I φ ra hh hx;refine(h w I φ ra hh hx).mono λu w' ⟨φ',I',h1,h2,h3⟩=>⟨Ke ids φ',I',h1.BX λb b'=>eY b b',h2.aG hd,⟨λb p hb=>absurd hb (C5 b),h3.F8,h3.F3,λB hB=>h3.mt B (ZU hB),h3.ext,λB hB hy=>h3.ok B (hB.imp id ZU) hy⟩⟩
def Fa.rd(rd:Nat->BS):Fa->Nat->BS
 | .wr l=>Ee rd l
 | .full h=>Ab h
def Fa.mw(h:Heap)(e:Fa):Ab (e.apply h)=e.rd (Ab h):=by
 cases e with
 | wr l=>exact tj h l
 | full h'=>rfl
def Fa.fits(rd As:Nat->BS):Fa->Prop
 | .wr l=>∀ p ∈ l,As p.1=rd p.1
 | .full _=>As=rd
def mV(P:Program)(f:Nat)(args:List AV)(len:Nat)(rd:Nat->BS)(v:AV)(e:Fa)(Dn:List Nat):Prop:=
 ∀ (As:Nat->BS) (w:World) (I:Nat->Prop) (φ:Ac) (ra:Array Value),(∀ b ∈ Dn,As b=rd b)->e.fits rd As->RH w I φ As->F9 w I φ args ra ->
  Yr P f ra w λu w'=>∃ φ' I',RV w' I' φ' v u/\RH w' I' φ' (e.rd As)/\(∀ base,base<=len->Step base As φ I w (e.rd As) φ' I' w')/\Ac.le φ φ'
def ak7{w:World}{I:Nat->Prop}{φ:Ac}{rd As:Nat->BS}{args HU:List AV}{ra:Array Value}{l:List Nat}(hh:RH w I φ As)(hx:F9 w I φ args ra){d:Nat}(hs:xi d rd args=some (HU,l))(hr:∀ b ∈ l,As b=rd b) :
  (∀ b ∈ l,live (As b)=true)/\F9 w (λB=>I B\/Ft φ l B) Ac.no HU ra:=by
 obtain⟨h1,h2,h3⟩:=(ZW hh d).2.1 _ _ _ (UK.1 hs) hr;refine⟨h1,h2.trans hx.1,λk x u e e'=>?_⟩;obtain⟨c,e1,e2⟩:=h3 k x e;exact e2 _ (λB hB=>.inl hB) (λB hB=>.inr hB) u (hx.2 k c u e1 e')
def Xr{w:World}{I:Nat->Prop}{φ:Ac}{rd:Nat->BS}(hh:RH w I φ rd){l:List Nat}(hl:∀ b ∈ l,live (rd b)=true){B:Nat}(h:Ft φ l B):B<w.heap.size:=by obtain⟨b,hb,o,sz,e⟩:=h;have r:=hh.at e (hl b hb);exact r.lt (hl b hb)
def aet{R:Type}{P:Program}{f m:Nat}{args HU:List AV}{hp:Heap}{rch:List Nat}{r0:AV}{bs:Heap}{k:Tm R}{r:R}(hs:xi depth (Ab hp) args=some (HU,rch))
  (hc:At P f HU [] r0 bs) (hn:∀ b,hp.length<=b->Ab hp b=.none) (h:lR m (Ab hp) hp.length rch r0 bs k=some r) :
  ∃ v l,k v (.wr l) rch=some r/\mV P f args hp.length (Ab hp) v (.wr l) rch:=by
 obtain⟨t,ht⟩:∃ t,t=(Jt r0||bs.any Rk):=⟨_,rfl⟩
 have pI:(bif Jt r0||bs.any Rk then rch.map λb=>(b,frozen (Ab hp b))else []:Wr)=(bif t then rch.map λb=>(b,frozen (Ab hp b))else []):=by rw[ht]
 have leaves:∀ (As:Nat->BS) (w:World) (I:Nat->Prop) (φ:Ac) (ra:Array Value),(∀ b ∈ rch,As b=Ab hp b)->RH w I φ As->F9 w I φ args ra ->
   (∀ b ∈ rch,live (As b)=true)/\Yr P f ra w λu w'=>∃ φ' I3,RV w' I3 φ' r0 u/\RH w' I3 φ' (Ab bs)/\Ext (λ_=>False) w w'/\(∀ B,Ca φ' (Ab bs) B->w.heap.size<=B) /\
    (∀ B,I B->I3 B)/\(∀ B,I3 B->I B\/(t=true/\Ft φ rch B)\/w.heap.size<=B)/\(t=true -> ∀ B,Ft φ rch B->I3 B)/\(∀ B,w.heap.size<=B->(I3 B\/Ca φ' (Ab bs) B)->F7 w' B):=by
  intro As w I φ ra hrd hh hx;obtain⟨hl,Fb⟩:=ak7 hh hx hs hrd;refine⟨hl,(hc w (λB=>I B\/Ft φ rch B) Ac.no ra (RH.empty w _ λB hB=>hB.elim (hh.lt B) (Xr hh hl)) Fb).mono λu w' ⟨φ',I',h1,h2,h3⟩=>?_⟩;have ext:Ext (λ_=>False) w w':=h3.ext.weaken λB h=>Fw h;have ER:∀ B,Ca φ' (Ab bs) B->w.heap.size<=B:=λB hB=>(h3.mt B hB).elim (λh=>(Fw h).elim) id;have A8:∀ B,w.heap.size<=B->(I' B\/Ca φ' (Ab bs) B)->F7 w' B:=λB Ep hB=>h3.ok B hB λhk=>by
   rcases hk with (x | x) | x
   ·have:=hh.lt B x;omega
   ·have:=Xr hh hl x;omega
   ·exact(Fw x).elim
  cases hb:t with
  | true=>
   refine⟨φ',I',h1,h2,ext,ER,λB hB=>h3.F8 B (.inl hB),λB hB=>?_,λ_ B hB=>h3.F8 B (.inr hB),A8⟩;rcases h3.F3 B hB with (h | h) | h | h
   ·exact .inl h
   ·exact .inr (.inl ⟨rfl,h⟩)
   ·exact(Fw h).elim
   ·exact .inr (.inr h)
  | false=>
   rw[hb]at ht;obtain⟨ht1,ht2⟩:=Mw.1 ht.symm;have pN:∀ b,Rk (Ab bs b)=false:=by
    intro b;simp only[Ab,List.getD];cases e:bs[b]? with
    | none=>rfl
    | some x=>simpa using (List.any_eq_false.1 ht2) x (Dy e)
   refine⟨φ',I,h1.Xi I ht1,⟨h2.none,λb hb=>?_,h2.inj,λb B o sz hm e hB=>?_,λb B o sz hl hm e=>?_,λB hB=>He (hh.lt B hB) ext.size⟩,ext,ER,λB hB=>hB,λB hB=>.inl hB,λh=>(by cases h),λB Ep hB=>hB.elim (λx=>by have:=hh.lt B x;omega) λx=>A8 B Ep (.inr x)⟩
   ·rcases h2.CY b hb with ⟨B,o,sz,e,r⟩ | hp
    ·exact .inl ⟨B,o,sz,e,r.Xi I (pN b)⟩
    ·exact .inr hp
   ·have:=ER B ⟨b,o,sz,hm,e⟩;have:=hh.lt B hB;omega
   ·rw[ai9 (pN b) hl]at hm;cases hm
 unfold lR at h;rw[pI]at h;split at h
 ·
  refine⟨_,_,h,λAs w I φ ra hrd hfit hh hx=>?_⟩;obtain⟨hl,TM⟩:=leaves As w I φ ra hrd hh hx;refine TM.mono λu w' ⟨φ',I3,h1,h2,h3,h4,h5,h6,h7,h8⟩=>?_;have CZ:∀ i,i<bs.length->As (hp.length+i)=.none:=by intro i hi;obtain⟨x,Fb⟩:=aaB (nx:=hp.length) (l:=bs.map (Ch (shift hp.length bs.length))) (i:=0) (j:=i) (by simpa using hi);have:=hfit _ (Vo _ Fb);simp only[Iy]at this;rw[this];exact hn _ (Nat.le_add_right _ _)
  obtain⟨BO,g1,g2,g3,g4⟩:=hh.merge (t:=t) hl CZ h3 h5 h6 h7 h2 h4 h8 (Ab hp) (λb hb=>(hrd b hb).symm);exact⟨BO,I3,h1.BX g1,g3,g4,g2⟩
 ·
  split at h
  ·rename_i r1 l1 g1 QI;obtain⟨hg,h⟩:=BG h;subst hg;replace QI:=UK.2 QI;refine⟨_,_,h,λAs w I φ ra hrd hfit hh hx=>?_⟩;obtain⟨hl,TM⟩:=leaves As w I φ ra hrd hh hx;refine TM.mono λu w' ⟨φ',I3,h1,h2,h3,h4,h5,h6,h7,h8⟩=>?_;obtain⟨s1,s2⟩:=(vg h2 depth).1 _ _ _ QI;have hr:=s2 (λB=>I3 B\/Ft φ' l1 B) (λB hB=>.inl hB) (λB hB=>.inr hB) u h1;have hb:∀ B,(I3 B\/Ft φ' l1 B)->I B\/(t=true/\Ft φ rch B)\/w.heap.size<=B:=by
    rintro B (hB | ⟨b,hb,o,sz,e⟩)
    ·exact h6 B hB
    ·cases hm:AZ (Ab bs b)with
     | true=>exact .inr (.inr (h4 B ⟨b,o,sz,hm,e⟩))
     | false=>exact h6 B (h2.Ea b B o sz (s1 b hb) hm e)
   obtain⟨BO,g1,g2,g3,g4⟩:=hh.merge (t:=t) (bs:=[]) (I2:=λB=>I3 B\/Ft φ' l1 B) (φ':=Ac.no) hl (λi hi=>by simp at hi) h3 (λB hB=>.inl (h5 B hB))
    hb (λht B hB=>.inl (h7 ht B hB)) (RH.empty w' _ λB hB=>hB.elim (h2.lt B) (Xr h2 s1)) (λB hB=>(Fw hB).elim)
    (λB Ep hB=>by
     rcases hB with (x | ⟨b,hb,o,sz,e⟩) | x
     ·exact h8 B Ep (.inl x)
     ·cases hm:AZ (Ab bs b)with
      | true=>exact h8 B Ep (.inr ⟨b,o,sz,hm,e⟩)
      | false=>exact h8 B Ep (.inl (h2.Ea b B o sz (s1 b hb) hm e))
     ·exact(Fw x).elim) (Ab hp) (λb hb=>(hrd b hb).symm)
   simp only[List.map_nil,imports,FY]at g3 g4;exact⟨BO,_,hr.mono (λB hB=>⟨hB,rfl⟩) (λ_=>Ar _) (Ac.IZ _),g3,g4,g2⟩
  ·cases h
section
def Xb(h:Heap)(b:Nat)(x:BS):h.length<=(Fm h b x).length:=by
 induction b generalizing h with
 | zero=>cases h <;> simp[Fm]
 | succ b ih=>cases h with
  | nil=>simp
  | cons y h=>simp only[Fm,CR];have:=ih h;omega
def UI(l:Wr):∀ h:Heap,h.length<=(RI h l).length:=by
 induction l with
 | nil=>intro h;exact Ar _
 | cons p r ih=>intro h;obtain⟨b,x⟩:=p;exact CI (Xb h b x) (ih _)
def Gw{h:Heap}{b:Nat}(hb:h.length<=b):Ab h b=.none:=by simp[Ab,List.getD,CK hb]
def ajE(h:Heap)(ρ:Nat->Option Nat)(b:Nat):Ab (h.map λx=>frozen (Ch ρ x)) b=frozen (Ch ρ (Ab h b)):=by simp only[Ab,List.getD,EO];cases h[b]? <;> rfl
structure DH(P:Program)(env:Env):Prop where
 tt:E8 P env.tt
 Yg:∀ f args hp A,env.Yg f args hp=some A->A.g=true->At P f args hp (A.r A.a).1 (A.r A.a).2/\hp.length<=(A.r A.a).2.length
variable {R:Type}
def abe{l:List Nat}{b b':Nat}(h:C2 l b=some b'):b ∈ l/\b'=b:=by
 unfold C2 at h;cases hm:HW b l with
 | false=>rw[hm]at h;cases h
 | true=>rw[hm]at h;cases h;exact⟨(fh b l).1 hm,rfl⟩
def lK(l:List Nat):∀ (hp:Heap) (i:Nat),(keep l i hp).length=hp.length
 | [],i=>rfl
 | x::r,i=>by simp[keep,lK l r (i+1)]
def tH(l:List Nat):∀ (hp:Heap) (i b:Nat),Ab (keep l i hp) b=if b<hp.length/\i+b ∈ l then Ch (C2 l) (Ab hp b)else .none
 | [],i,b=>by simp[keep,Ab]
 | x::r,i,0=>by
  simp only[keep,Ab,List.getD_cons_zero,CR,Iy];cases hm:HW i l with
  | true=>rw[Ay ⟨by omega,(fh i l).1 hm⟩];rfl
  | false=>rw[AE (λh=>by rw[(fh i l).2 h.2]at hm;cases hm)];rfl
 | x::r,i,b+1=>by
  have:=tH l r (i+1) b;simp only[Ab,keep,List.getD_cons_succ,CR]at this ⊢;rw[this,show i+1+b=i+(b+1) by omega];by_cases h:b<r.length/\i+(b+1) ∈ l
  ·rw[Ay h,Ay ⟨by omega,h.2⟩]
  ·rw[AE h,AE (λh'=>h ⟨by omega,h'.2⟩)]
def aj6(F:Nat->BS)(b:Nat):∀ (l:List Nat) (rd:Nat->BS),Ee rd (l.map λb=>(b,F b)) b=if b ∈ l then F b else rd b:=by
 intro l
 induction l with
 | nil=>intro rd;simp[Ee]
 | cons x r ih=>
  intro rd;simp only[NP,Ee,ih];by_cases h:b ∈ r
  ·rw[Ay h,Ay (JC _ h)]
  ·rw[AE h];by_cases e:b=x
   ·subst e;rw[Ay (by simp),DL]
   ·rw[AE (by simp[e,h]),C0 _ _ e]
section
variable {P:Program} {env:Env} {run:Gh R} {hp:Heap} {r:R}
def ado{f:Nat}{args:List AV}{ids:List Nat}(LQ:∀ b ∈ ids,b<hp.length){res:AV}{h':Heap}(hlen:hp.length<=h'.length)
  (hc:At P f (EX (C2 ids) args) (keep ids 0 hp) res h') {S:List Nat} (hS:∀ b,b ∈ S ↔ b ∈ ids\/(hp.length<=b/\b<h'.length)) :
  mV P f args hp.length (Ab hp) (BX (C2 S) res) (.wr (S.map λb=>(b,Ch (C2 S) (Ab h' b)))) ids:=by
 intro As w I φ ra hrd hfit hh hx;have hfit:∀ b ∈ S,As b=Ab hp b:=λb hb=>hfit (b,Ch (C2 S) (Ab h' b)) (Mz.2 ⟨b,hb,rfl⟩)
 classical
 let Hn:Ac:=λb=>if b ∈ ids then φ b else none
 have iy:∀ b b',C2 ids b=some b'->Hn b'=φ b:=by intro b b' e;obtain⟨h1,rfl⟩:=abe e;simp only[Hn,Ay h1]
 have hrR:∀ b,Ab (keep ids 0 hp) b=if b ∈ ids then Ch (C2 ids) (As b)else .none:=by
  intro b;rw[tH,Ev];by_cases h:b ∈ ids
  ·rw[Ay ⟨LQ b h,h⟩,Ay h,hrd b h]
  ·rw[AE (λh'=>h h'.2),AE h]
 have Fb:F9 w I Hn (EX (C2 ids) args) ra:=by refine⟨by rw[PA];simpa using hx.1,λk x u e e'=>?_⟩;obtain⟨c,e1,rfl⟩:=S4 e;exact(hx.2 k c u e1 e').BX iy
 have hin:∀ b,live (Ab (keep ids 0 hp) b)=true->b ∈ ids/\live (As b)=true/\Ab (keep ids 0 hp) b=Ch (C2 ids) (As b):=by
  intro b hl;rw[hrR]at hl ⊢;by_cases h:b ∈ ids
  ·rw[Ay h]at hl ⊢;exact⟨h,(DW _ _).1 hl,rfl⟩
  ·rw[AE h]at hl;cases hl
 have oG:∀ b,AZ (Ab (keep ids 0 hp) b)=true->b ∈ ids/\AZ (As b)=true:=by
  intro b hl;rw[hrR]at hl;by_cases h:b ∈ ids
  ·rw[Ay h]at hl;exact⟨h,(DW _ _).2.1 hl⟩
  ·rw[AE h]at hl;cases hl
 have Tp:∀ b,b ∈ ids->Hn b=φ b:=λb h=>by simp only[Hn,Ay h]
 have hhR:RH w I Hn (Ab (keep ids 0 hp)):=by
  refine⟨λb e=>?_,λb hl=>?_,λb b' B o sz o' sz' hm BW e e'=>?_,λb B o sz hm e=>?_,λb B o sz hl hm e=>?_,hh.lt⟩
  ·by_cases h:b ∈ ids
   ·rw[hrR,Ay h]at e;rw[Tp b h];exact hh.none b ((DW _ _).2.2.1 e)
   ·simp only[Hn,AE h]
  ·obtain⟨h1,h2,h3⟩:=hin b hl;rcases hh.CY b h2 with ⟨B,o,sz,e,r⟩ | ⟨e,hp⟩
   ·exact .inl ⟨B,o,sz,by rw[Tp b h1];exact e,by rw[h3];exact r.BX iy⟩
   ·exact .inr ⟨by rw[Tp b h1];exact e,by rw[h3];exact UL _ hp⟩
  ·obtain⟨h1,h2⟩:=oG b hm;obtain⟨FG,E0⟩:=oG b' BW;rw[Tp b h1]at e;rw[Tp b' FG]at e';exact hh.inj b b' B o sz o' sz' h2 E0 e e'
  ·obtain⟨h1,h2⟩:=oG b hm;rw[Tp b h1]at e;exact hh.CP b B o sz h2 e
  ·obtain⟨h1,h2,h3⟩:=hin b hl;rw[Tp b h1]at e;refine hh.Ea b B o sz h2 ?_ e;rw[h3]at hm hl;rw[<- (DW _ _).2.2.2 hl];exact hm
 have yy:∀ B,Ca Hn (Ab (keep ids 0 hp)) B -> ∃ b o sz,b ∈ ids/\AZ (As b)=true/\φ b=some (B,o,sz):=by rintro B ⟨b,o,sz,hm,e⟩;obtain⟨h1,h2⟩:=oG b hm;rw[Tp b h1]at e;exact⟨b,o,sz,h1,h2,e⟩
 refine(hc w I Hn ra hhR Fb).mono λu w' ⟨Dd,I1,a1,a2,a3⟩=>?_;let BO:Ac:=λb=>if b ∈ S then Dd b else φ b
 have ahK:∀ b b',C2 S b=some b'->BO b'=Dd b:=by intro b b' e;obtain⟨h1,rfl⟩:=abe e;simp only[BO,Ay h1]
 have Ql:∀ b,b ∈ S->BO b=Dd b:=λb h=>by simp only[BO,Ay h]
 have Qm:∀ b,b ∉ S->BO b=φ b:=λb h=>by simp only[BO,AE h]
 have hle:Ac.le φ BO:=by
  intro b p e;by_cases h:b ∈ S
  ·rw[Ql b h];rcases(hS b).1 h with h1 | ⟨h1,_⟩
   ·exact a3.le b p (by rw[lK];exact LQ b h1) (by rw[Tp b h1];exact e)
   ·have:=hh.none b ((hfit b h).trans (Gw h1));rw[e]at this;cases this
  ·rw[Qm b h];exact e
 have hE:∀ b,(Fa.wr (S.map λb=>(b,Ch (C2 S) (Ab h' b)))).rd As b=if b ∈ S then Ch (C2 S) (Ab h' b)else As b:=λb=>aj6 _ b S As;have GP:∀ b,b ∈ ids->b ∈ S:=λb h=>(hS b).2 (.inl h);have RL:∀ b B o sz,b ∉ S->live (As b)=true->φ b=some (B,o,sz) -> ¬ Ca Hn (Ab (keep ids 0 hp)) B:=by
  intro b B o sz hb hl e hM;obtain⟨b1,o1,Kz,h1,h2,e1⟩:=yy B hM;cases hm:AZ (As b)with
  | true=>have:=hh.inj b b1 B o sz o1 Kz hm h2 e e1;subst this;exact hb (GP _ h1)
  | false=>exact hh.CP b1 B o1 Kz h2 e1 (hh.Ea b B o sz hl hm e)
 have cp:∀ B,I B->I1 B/\w'.heap[B]? = w.heap[B]? := λB hB=>⟨a3.F8 B hB,a3.ext.keep B (hh.lt B hB) λhM=>by obtain⟨b1,o1,Kz,_,h2,e1⟩:=yy B hM;exact hh.CP b1 B o1 Kz h2 e1 hB⟩
 have hlt:∀ b B o sz,live (As b)=true->φ b=some (B,o,sz)->B<w.heap.size:=by intro b B o sz hl e;have r:=hh.at e hl;exact r.lt hl
 have afP:∀ b b' B o sz o' sz',b ∈ S->b' ∉ S->AZ (Ab h' b)=true->AZ (As b')=true->Dd b=some (B,o,sz)->φ b'=some (B,o',sz')->False:=by
  intro b b' B o sz o' sz' hb Aw hm BW e e';rcases a3.mt B ⟨b,o,sz,hm,e⟩with hM | Ep
  ·exact RL b' B o' sz' Aw (Fv BW) e' hM
  ·have:=hlt b' B o' sz' (Fv BW) e';omega
 have ER:RH w' I1 BO ((Fa.wr (S.map λb=>(b,Ch (C2 S) (Ab h' b)))).rd As):=by
  refine⟨λb e=>?_,λb hl=>?_,λb b' B o sz o' sz' hm BW e e'=>?_,λb B o sz hm e=>?_,λb B o sz hl hm e=>?_,a2.lt⟩
  ·rw[hE]at e;by_cases h:b ∈ S
   ·rw[Ay h]at e;rw[Ql b h];exact a2.none b ((DW _ _).2.2.1 e)
   ·rw[AE h]at e;rw[Qm b h];exact hh.none b e
  ·rw[hE]at hl ⊢;by_cases h:b ∈ S
   ·rw[Ay h]at hl ⊢;rcases a2.CY b ((DW _ _).1 hl)with ⟨B,o,sz,e,r⟩ | ⟨e,hp⟩
    ·exact .inl ⟨B,o,sz,by rw[Ql b h];exact e,r.BX ahK⟩
    ·exact .inr ⟨by rw[Ql b h];exact e,UL _ hp⟩
   ·rw[AE h]at hl ⊢;rcases hh.CY b hl with ⟨B,o,sz,e,r⟩ | ⟨e,hp⟩
    rotate_left
    ·exact .inr ⟨by rw[Qm b h];exact e,hp⟩
    exact .inl ⟨B,o,sz,by rw[Qm b h];exact e,r.mono cp a3.ext.Bv hle (a3.ext.keep B (r.lt hl) (RL b B o sz h hl e))⟩
  ·rw[hE]at hm BW;by_cases h:b ∈ S
   ·rw[Ay h]at hm;rw[Ql b h]at e;by_cases h':b' ∈ S
    ·rw[Ay h']at BW;rw[Ql b' h']at e';exact a2.inj b b' B o sz o' sz' ((DW _ _).2.1 hm) ((DW _ _).2.1 BW) e e'
    ·rw[AE h']at BW;rw[Qm b' h']at e';exact(afP b b' B o sz o' sz' h h' ((DW _ _).2.1 hm) BW e e').elim
   ·rw[AE h]at hm;rw[Qm b h]at e;by_cases h':b' ∈ S
    ·rw[Ay h']at BW;rw[Ql b' h']at e';exact(afP b' b B o' sz' o sz h' h ((DW _ _).2.1 BW) hm e' e).elim
    ·rw[AE h']at BW;rw[Qm b' h']at e';exact hh.inj b b' B o sz o' sz' hm BW e e'
  ·rw[hE]at hm;by_cases h:b ∈ S
   ·rw[Ay h]at hm;rw[Ql b h]at e;exact a2.CP b B o sz ((DW _ _).2.1 hm) e
   ·rw[AE h]at hm;rw[Qm b h]at e;intro hB;rcases a3.F3 B hB with h1 | h1 | h1
    ·exact hh.CP b B o sz hm e h1
    ·exact RL b B o sz h (Fv hm) e h1
    ·have:=hlt b B o sz (Fv hm) e;omega
  ·rw[hE]at hl hm;by_cases h:b ∈ S
   ·rw[Ay h]at hl hm;rw[Ql b h]at e;exact a2.Ea b B o sz ((DW _ _).1 hl) (by rw[<- (DW _ _).2.2.2 hl];exact hm) e
   ·rw[AE h]at hl hm;rw[Qm b h]at e;exact a3.F8 B (hh.Ea b B o sz hl hm e)
 have pP:∀ B,Ca Hn (Ab (keep ids 0 hp)) B->Ca φ As B:=λB hM=>by obtain⟨b1,o1,Kz,_,h2,e1⟩:=yy B hM;exact⟨b1,o1,Kz,h2,e1⟩
 refine⟨BO,I1,a1.BX ahK,ER,λbase hb=>⟨λb p _ e=>hle b p e,a3.F8,λB hB=>(a3.F3 B hB).imp id (λh=>h.imp (pP B) id),λB hB=>?_,a3.ext.weaken pP,λB hB hy=>?_⟩,hle⟩;rotate_left 1
 ·have hk0:(I B\/Ca Hn (Ab (keep ids 0 hp)) B)->F7 w B:=λk=>hy (k.imp id (pP B));rcases hB with hB | ⟨b,o,sz,hm,e⟩
  ·exact a3.ok B (.inl hB) hk0
  ·rw[hE]at hm;by_cases h:b ∈ S
   ·rw[Ay h]at hm;rw[Ql b h]at e;exact a3.ok B (.inr ⟨b,o,sz,(DW _ _).2.1 hm,e⟩) hk0
   ·rw[AE h]at hm;rw[Qm b h]at e;have hM0:Ca φ As B:=⟨b,o,sz,hm,e⟩
    exact λc e' fz IE=>hy (.inr hM0) c e' fz ((a3.ext.keep B (hh.ab7 (.inr hM0)) (RL b B o sz h (Fv hm) e)).symm.trans IE)
 obtain⟨b,o,sz,hm,e⟩:=hB;rw[hE]at hm;by_cases h:b ∈ S
 ·rw[Ay h]at hm;rw[Ql b h]at e;exact(a3.mt B ⟨b,o,sz,(DW _ _).2.1 hm,e⟩).imp (pP B) id
 ·rw[AE h]at hm;rw[Qm b h]at e;exact .inl ⟨b,o,sz,hm,e⟩
def s7{b:Nat}:∀ {l:List Nat} {n:Nat},b ∈ l -> ∃ i,indexOf b l n=some i
 | [],n,h=>by cases h
 | x::r,n,h=>by
  unfold indexOf;cases hx:Nat.beq x b with
  | true=>exact⟨n,rfl⟩
  | false=>
   rcases Dz.1 h with e | h
   ·subst e;simp at hx
   ·exact s7 h
def ajF{n:Nat}{ids:List Nat}(hd:Ha ids)(LQ:∀ b ∈ ids,b<n){i b:Nat}(h:XG n ids i=some b):Lt n ids b=some i:=by
 unfold XG at h;unfold Lt;cases e:ids[i]? with
 | some b'=>rw[e]at h;cases h;obtain⟨i',hi⟩:=s7 (n:=0) (Dy e);have:=(Xa b ids 0 i' hi).2;rw[PS]at this;rw[hi,hd i' i b this e]
 | none=>
  rw[e]at h;cases h;have hi:ids.length<=i:=by
   rcases Cj i ids.length with h | h
   ·rw[BR h]at e;cases e
   ·exact h
  cases e2:indexOf (n+(i - ids.length)) ids 0 with
  | some j=>have:=(Xa _ ids 0 j e2).2;rw[PS]at this;have:=LQ _ (Dy this);omega
  | none=>
   have:Nat.ble n (n+(i - ids.length))=true:=by rw[Nat.ble_eq];omega
   rw[this];show some (ids.length+(n+(i - ids.length) - n))=some i;congr 1;omega
def ak8{n:Nat}{ids:List Nat}(LQ:∀ b ∈ ids,b<n){b b' i:Nat}(h:Lt n ids b=some i)(h':Lt n ids b'=some i):b=b':=by
 have key:∀ b,Lt n ids b=some i->(ids[i]? = some b)\/(ids.length<=i/\n<=b/\i=ids.length+(b - n)):=by
  intro b h;unfold Lt at h;cases e:indexOf b ids 0 with
  | some j=>rw[e]at h;cases h;have:=(Xa b ids 0 i e).2;rw[PS]at this;exact .inl this
  | none=>rw[e]at h;simp only at h;obtain⟨h1,h2⟩:=BG h;cases h2;exact .inr ⟨Nat.le_add_right _ _,DZ h1,rfl⟩
 rcases key b h with h1 | ⟨h1,h2,h3⟩
 ·rcases key b' h' with g1 | ⟨g1,g2,g3⟩
  ·rw[h1]at g1;exact Option.some.inj g1
  ·have:=(GO.1 h1).1;omega
 ·rcases key b' h' with g1 | ⟨g1,g2,g3⟩
  ·have:=(GO.1 g1).1;omega
  ·omega
def At.move{f:Nat}{args:List AV}{hk:Heap}{ids:List Nat}{n:Nat}(hd:Ha ids)(LQ:∀ b ∈ ids,b<n)(hn:hk.length=n)(CZ:∀ b,b ∉ ids->Ab hk b=.none){res:AV}{h5:Heap}(hlen:ids.length<=h5.length)
  (hc:At P f (EX (λb=>indexOf b ids 0) args) (Ju ids (Ab hk)) res h5) {h':Heap} (cr:∀ b,Ab h' b=Vb n ids h5 b):At P f args hk (BX (XG n ids) res) h':=by
 intro w I φ ra hh hx;have hx5:F9 w I (Ke ids φ) (EX (λb=>indexOf b ids 0) args) ra:=by refine⟨by rw[PA];simpa using hx.1,λk x u e e'=>?_⟩;obtain⟨c,e1,rfl⟩:=S4 e;exact(hx.2 k c u e1 e').BX λb b'=>eY b b'
 refine(hc w I (Ke ids φ) ra (hh.aG hd) hx5).mono λu w' ⟨pQ,I5,a1,a2,a3⟩=>?_;have hlr:(Ju ids (Ab hk)).length=ids.length:=by simp[Ju]
 let φ':Ac:=λb=>(Lt n ids b).bind pQ
 have Qk:∀ i b,XG n ids i=some b->φ' b=pQ i:=λi b e=>by simp only[φ',ajF hd LQ e,U7]
 have xt:∀ b,live (Ab h' b)=true -> ∃ i,Lt n ids b=some i/\Ab h' b=Ch (XG n ids) (Ab h5 i)/\live (Ab h5 i)=true/\φ' b=pQ i:=by
  intro b hl;rw[cr]at hl ⊢;unfold Vb at hl ⊢;cases e:Lt n ids b with
  | none=>rw[e]at hl;cases hl
  | some i=>rw[e]at hl;exact⟨i,rfl,rfl,(DW _ _).1 hl,by simp only[φ',e,U7]⟩
 have Dm:∀ b,AZ (Ab h' b)=true -> ∃ i,Lt n ids b=some i/\AZ (Ab h5 i)=true/\φ' b=pQ i:=by intro b hm;obtain⟨i,h1,h2,_,h4⟩:=xt b (Fv hm);rw[h2]at hm;exact⟨i,h1,(DW _ _).2.1 hm,h4⟩
 have hM:∀ B,Ca (Ke ids φ) (Ab (Ju ids (Ab hk))) B->Ca φ (Ab hk) B:=λB=>ZU;refine⟨φ',I5,a1.BX Qk,⟨λb e=>?_,λb hl=>?_,λb b' B o sz o' sz' hm BW e e'=>?_,λb B o sz hm e=>?_,λb B o sz hl hm e=>?_,a2.lt⟩,⟨λb p hb e=>?_,a3.F8,λB hB=>(a3.F3 B hB).imp id (λh=>h.imp (hM B) id),λB hB=>?_,a3.ext.weaken hM,λB hB hy=>a3.ok B (hB.imp id λ⟨b,o,sz,hm,e⟩=>by obtain⟨i,_,h2,h4⟩:=Dm b hm;exact⟨i,o,sz,h2,h4 ▸ e⟩) λk=>hy (k.imp id (hM B))⟩⟩
 ·rw[cr]at e;unfold Vb at e;simp only[φ'];cases e1:Lt n ids b with
  | none=>rfl
  | some i=>rw[e1]at e;exact a2.none i ((DW _ _).2.2.1 e)
 ·obtain⟨i,h1,h2,h3,h4⟩:=xt b hl;rcases a2.CY i h3 with ⟨B,o,sz,e,r⟩ | ⟨e,hp⟩
  ·exact .inl ⟨B,o,sz,h4.trans e,by rw[h2];exact r.BX Qk⟩
  ·exact .inr ⟨h4.trans e,by rw[h2];exact UL _ hp⟩
 ·obtain⟨i,h1,h2,h3⟩:=Dm b hm;obtain⟨i',FG,E0,O5⟩:=Dm b' BW;have:=a2.inj i i' B o sz o' sz' h2 E0 (h3 ▸ e) (O5 ▸ e');subst this;exact ak8 LQ h1 FG
 ·obtain⟨i,h1,h2,h3⟩:=Dm b hm;exact a2.CP i B o sz h2 (h3 ▸ e)
 ·obtain⟨i,h1,h2,h3,h4⟩:=xt b hl;refine a2.Ea i B o sz h3 ?_ (h4 ▸ e);rw[h2]at hl hm;rw[<- (DW _ _).2.2.2 hl];exact hm
 ·have V9:b ∈ ids:=by
   refine Classical.byContradiction λAw=>?_;have:=hh.none b (CZ b Aw);rw[e]at this;cases this
  obtain⟨i,hi⟩:=s7 (n:=0) V9;have h1:=(Xa b ids 0 i hi).2;rw[PS]at h1;have h2:Lt n ids b=some i:=by unfold Lt;rw[hi]
  simp only[φ',h2,U7];refine a3.le i p (by rw[hlr];exact(GO.1 h1).1) ?_;simp[Ke,h1,e]
 ·obtain⟨b,o,sz,hm,e⟩:=hB;obtain⟨i,h1,h2,h3⟩:=Dm b hm;exact(a3.mt B ⟨i,o,sz,h2,h3 ▸ e⟩).imp (hM B) id
def Ha.filter{l:List Nat}(h:Ha l)(p:Nat->Bool):Ha (l.filter p):=by
 have nd:l.Pairwise (· ≠ ·):=XX.2 λi j hi hj DC he=>by have:=h i j l[i] (BR hi) (by rw[he,BR hj]);omega
 have nf:(l.filter p).Pairwise (· ≠ ·):=nd.filter p;intro i j b e e';obtain⟨hi,ei⟩:=GO.1 e;obtain⟨hj,ej⟩:=GO.1 e';rcases Qg i j with hlt | heq | V3
 ·exact absurd (ei.trans ej.symm) (XX.1 nf i j hi hj hlt)
 ·exact heq
 ·exact absurd (ej.trans ei.symm) (XX.1 nf j i hj hi V3)
def apa(n m:Nat)(F:Nat->BS)(h:∀ b,n+m<=b->F b=.none):∃ H:Heap,H.length=n+m /\ ∀ b,Ab H b=F b:=by
 refine⟨(List.range (n+m)).map F,by simp,λb=>?_⟩;simp only[Ab,List.getD,EO];rcases Cj b (n+m)with hb | hb
 ·rw[Mx hb];rfl
 ·rw[CK (by simpa using hb),h b hb];rfl
def adp{f:Nat}{args:List AV}{ids:List Nat}(hd:Ha ids)(LQ:∀ b ∈ ids,b<hp.length){res:AV}{h5:Heap}(hlen:ids.length<=h5.length)
  (hc:At P f (EX (λb=>indexOf b ids 0) (EX (C2 ids) args)) (ids.map λb=>Ch (λb=>indexOf b ids 0) (Ab (keep ids 0 hp) b)) res h5) {k:Tm R} (h:back hp.length ids res h5 k=some r) :
  ∃ v e Dn,k v e Dn=some r/\hp.length<=(e.apply hp).length/\mV P f args hp.length (Ab hp) v e Dn:=by
 have axh:∀ b,hp.length+(h5.length - ids.length)<=b->Vb hp.length ids h5 b=.none:=by
  intro b hb;unfold Vb Lt;cases e:indexOf b ids 0 with
  | some i=>have:=(Xa b ids 0 i e).2;rw[PS]at this;have:=LQ _ (Dy this);omega
  | none=>
   have:Nat.ble hp.length b=true:=by rw[Nat.ble_eq];omega
   rw[this];simp only[Ae];rw[Gw (by omega)];rfl
 obtain⟨H,hl,hH⟩:=apa hp.length (h5.length - ids.length) (Vb hp.length ids h5) axh;have hm:=At.move (n:=hp.length) hd LQ (lK ids hp 0) (λb hb=>by rw[tH,Ev,AE (λh=>hb h.2)]) hlen hc hH;unfold back at h;have hS:∀ b,b ∈ ids++(List.range (h5.length - ids.length)).map (λi=>hp.length+i) ↔ b ∈ ids\/(hp.length<=b/\b<H.length):=by intro b;simp only[Cp,Mz,List.mem_range];refine or_congr Iff.rfl ⟨λ⟨i,h1,h2⟩=>by omega,λh=>⟨b - hp.length,by omega,by omega⟩⟩
 have hk:=ado (P:=P) (hp:=hp) LQ (by omega) hm hS;have axi:(λb=>(b,Ch (C2 (ids++(List.range (h5.length - ids.length)).map λi=>hp.length+i)) (Ab H b)))=λb=>(b,Ch (C2 (ids++(List.range (h5.length - ids.length)).map λi=>hp.length+i)) (Vb hp.length ids h5 b)):=by funext b;rw[hH]
 rw[axi]at hk;exact⟨_,_,_,h,UI _ hp,hk⟩
def mW(Bh:DH P env)(hrun:EN P run){f:Nat}{args:List AV}{k:Tm R}(h:xj env run hp hp.length f args k=some r) :
  ∃ v e Dn,k v e Dn=some r/\hp.length<=(e.apply hp).length/\mV P f args hp.length (Ab hp) v e Dn:=by
 unfold xj at h;split at h
 ·
  obtain⟨res,hp',h1,h2,hc⟩:=hrun _ _ _ _ _ h;refine⟨_,_,_,h1,h2,λAs w I φ ra _ hfit hh hx=>?_⟩;have hfit:As=Ab hp:=hfit;subst hfit;refine(hc w I φ ra hh hx).mono λu w' ⟨φ',I',a1,a2,a3⟩=>⟨φ',I',a1,a2,λbase hb=>a3.mono hb,λb p e=>?_⟩
  refine a3.le b p ?_ e;rcases Cj b hp.length with hb | hb
  ·exact hb
  ·rw[hh.none b (Gw hb)]at e;cases e
 ·
  obtain⟨res,hp',h1,h2,hc⟩:=hrun _ _ _ _ _ h;obtain⟨P2,h1⟩:=BG h1;obtain⟨hf,ht⟩:=A4 P2;have ht:Jt res=false:=by simpa using ht
  refine⟨_,_,_,h1,Ar _,λAs w I φ ra hrd _ hh hx=>?_⟩;have hrd:∀ b,b<hp.length->As b=Ab hp b:=λb hb=>hrd b (by simpa using hb);have hbl:∀ b b',below hp.length b=some b'->b<hp.length/\b'=b:=by
   intro b b' e;unfold below at e;cases hb:Nat.blt b hp.length with
   | false=>rw[hb]at e;cases e
   | true=>rw[hb]at e;cases e;exact⟨by simpa [CW] using hb,rfl⟩
  let Hn:Ac:=λb=>if b<hp.length then φ b else none
  have iy:∀ b b',below hp.length b=some b'->Hn b'=φ b:=by intro b b' e;obtain⟨h1,rfl⟩:=hbl b b' e;simp only[Hn,Ay h1]
  have Fb:F9 w I Hn (EX (below hp.length) args) ra:=by refine⟨by rw[PA];simpa using hx.1,λk x u e e'=>?_⟩;obtain⟨c,e1,rfl⟩:=S4 e;exact(hx.2 k c u e1 e').BX iy
  generalize hpf:(hp.map λx=>frozen (Ch (below hp.length) x))=jx at hc;have hzf:∀ b,Ab jx b=frozen (Ch (below hp.length) (Ab hp b)):=λb=>by rw[<- hpf];exact ajE hp _ b
  have Lv:∀ b,live (Ab jx b)=true->b<hp.length/\live (As b)=true/\Ab jx b=frozen (Ch (below hp.length) (As b)):=by
   intro b hl;rw[hzf]at hl ⊢;rw[(ZH _).1]at hl;have hl:=(DW _ _).1 hl;have hb:b<hp.length:=by
    rcases Cj b hp.length with hb | hb
    ·exact hb
    ·rw[Gw hb]at hl;cases hl
   exact⟨hb,by rw[hrd b hb];exact hl,by rw[hrd b hb]⟩
  let I3:Nat->Prop:=λB=>I B \/ ∃ b o sz,live (As b)=true/\φ b=some (B,o,sz)
  have hI3:∀ B,I3 B->B<w.heap.size:=by
   rintro B (hB | ⟨b,o,sz,hl,e⟩)
   ·exact hh.lt B hB
   ·have r:=hh.at e hl;exact r.lt hl
  have hmt:∀ b,AZ (Ab jx b)=false:=λb=>by rw[hzf];exact(ZH _).2.1
  have hh3:RH w I3 Hn (Ab jx):=by
   refine⟨λb e=>?_,λb hl=>?_,λb b' B o sz o' sz' hm=>?_,λb B o sz hm=>?_,λb B o sz hl _ e=>?_,hI3⟩
   ·rw[hzf]at e;have e:=(DW _ _).2.2.1 ((ZH _).2.2 e);simp only[Hn];split
    ·rename_i hb;exact hh.none b ((hrd b hb).trans e)
    ·rfl
   ·obtain⟨hb,IG,he⟩:=Lv b hl;rcases hh.CY b IG with ⟨B,o,sz,e,r⟩ | ⟨e,hp⟩
    rotate_left
    ·exact .inr ⟨by simp only[Hn,Ay hb,e],by rw[he];exact aae (UL _ hp)⟩
    have r1:=r.mono (w':=w) (I':=I3) (φ':=φ) (λB hB=>⟨.inl hB,rfl⟩) (λ_=>Ar _) (Ac.le_refl _) rfl;have r2:=r1.BX iy;exact .inl ⟨B,o,sz,by simp only[Hn,Ay hb,e],by rw[he];exact r2.frozen⟩
   ·rw[hmt]at hm;cases hm
   ·rw[hmt]at hm;cases hm
   ·obtain⟨hb,IG,he⟩:=Lv b hl;simp only[Hn,Ay hb]at e;exact .inr ⟨b,o,sz,IG,e⟩
  have hx3:F9 w I3 Hn (EX (below hp.length) args) ra:=⟨Fb.1,λk x u e e'=>(Fb.2 k x u e e').mono (λB hB=>⟨.inl hB,rfl⟩) (λ_=>Ar _) (Ac.le_refl _)⟩
  refine(hc w I3 Hn ra hh3 hx3).mono λu w' ⟨φ',I',a1,a2,a3⟩=>?_;have ext:Ext (λ_=>False) w w':=a3.ext.weaken λB ⟨b,o,sz,hm,_⟩=>by rw[hmt]at hm;cases hm
  have hk:∀ B,B<w.heap.size->w'.heap[B]? = w.heap[B]? := λB h=>ext.keep B h λf=>f;refine⟨φ,I,(a1.flat hf).Xi I ht,?_,λbase hb=>⟨λ_ _ _ e=>e,λ_ hB=>hB,λ_ hB=>.inl hB,λ_ hB=>.inl hB,ext.weaken λ_ f=>f.elim,λB hB hy c e fz h=>hy hB c e fz ((hk B (hh.ab7 hB)).symm.trans h)⟩,Ac.le_refl _⟩;refine⟨hh.none,λb hl=>?_,hh.inj,hh.CP,hh.Ea,λB hB=>He (hh.lt B hB) ext.size⟩;rcases hh.CY b hl with ⟨B,o,sz,e,r⟩ | hp
  ·exact .inl ⟨B,o,sz,e,r.mono (λB hB=>⟨hB,hk B (hh.lt B hB)⟩) ext.Bv (Ac.le_refl _) (hk B (r.lt hl))⟩
  ·exact .inr hp
 ·
  obtain⟨res,h',h1,h2,hc⟩:=hrun _ _ _ _ _ h;rw[lK]at h2;refine⟨_,_,_,h1,UI _ hp,ado (λb hb=>?_) h2 hc λb=>?_⟩
  ·have:=(Gz.1 hb).2;simpa [CW] using this
  ·simp only[Cp,Mz,List.mem_range];refine or_congr Iff.rfl ⟨λ⟨i,h1,h2⟩=>by omega,λh=>⟨b - hp.length,by omega,by omega⟩⟩
 ·
  have LQ:∀ b ∈ (reach MH (Ab hp) (Hb args) []).filter (λb=>Nat.blt b hp.length),b<hp.length:=λb hb=>by have:=(Gz.1 hb).2;simpa [CW] using this
  have hd:Ha ((reach MH (Ab hp) (Hb args) []).filter λb=>Nat.blt b hp.length):=(ZX (Ab hp) MH (Hb args) [] Ha.nil).1.filter _;simp only at h;split at h
  ·rename_i A ho;obtain⟨hg,h⟩:=BG h;obtain⟨h1,h2⟩:=Bh.Yg _ _ _ _ ho hg;exact adp hd LQ (by simpa using h2) h1 h
  ·obtain⟨res,h5,h1,h2,hc⟩:=hrun _ _ _ _ _ h;exact adp hd LQ (by simpa using h2) hc h1
 ·
  split at h
  ·cases h
  ·rename_i HU rch g hs;have MJ:=BG h;clear h;obtain⟨hg0,h⟩:=MJ;subst hg0;replace hs:=UK.2 hs;split at h
   ·rename_i A ho;obtain⟨hg1,h⟩:=BG h;obtain⟨v,l,h1,h2⟩:=aet hs (Bh.Yg _ _ _ _ ho hg1).1 (λb=>Gw) h;exact⟨v,.wr l,rch,h1,UI l hp,h2⟩
   ·obtain⟨res,hp',h1,_,hc⟩:=hrun _ _ _ _ _ h;obtain⟨v,l,h1,h2⟩:=aet hs (hc.aG (ZX (Ab hp') MH (roots res) [] Ha.nil).1) (λb=>Gw) h1;exact⟨v,.wr l,rch,h1,UI l hp,h2⟩
def nY(P:Program)(o:Oper)(fr:Nat->AV)(len:Nat)(rd:Nat->BS)(v:AV)(e:Fa)(Dn:List Nat):Prop:=
 ∀ (As:Nat->BS) (a:Act) (w:World) (φ:Ac) (I:Nat->Prop),(∀ b ∈ Dn,As b=rd b)->e.fits rd As->RH w I φ As->(∀ x ∈ o.op.operands,RV w I φ (KK fr x) (a.eval x)) ->
  ∀ (K:Act->World->Prop) (Q:Exit->Act->World->Prop),(∀ u w' φ' I',RV w' I' φ' v u->RH w' I' φ' (e.rd As)->(∀ base,base<=len->Step base As φ I w (e.rd As) φ' I' w')->Ac.le φ φ'->K (a.put o.dst u) w') ->
   o.wp P a w K Q
def Good.afQ{o:Oper}{fr:Nat->AV}{k:Tm R}{len:Nat}{rd:Nat->BS}(h:Good P o (KK fr) rd (λv wr rd=>k v (.wr wr) rd) r) :
  ∃ v wr Dn,k v (.wr wr) Dn=some r/\nY P o fr len rd v (.wr wr) Dn:=by
 obtain⟨v,wr,Dn,h1,h2⟩:=h;refine⟨v,wr,Dn,h1,λAs a w φ I hrd hfit hh hx K Q hK=>?_⟩;obtain⟨u,w',φ',I',hrun,hv,cr,hst,hle⟩:=h2 As a.eval w φ I hrd hfit hh hx;have:=hK u w' φ' I' hv cr (λbase _=>hst base) hle;unfold Oper.wp;rcases hrun with hrun | ⟨hrun,rfl⟩
 ·rw[hrun];exact this
 ·rw[hrun];exact this
def adq{α β:Type}{f:α->β}{l:List α}{i:Nat}{y:β}(h:(l.map f)[i]? = some y):∃ x,l[i]? = some x/\y=f x:=by
 rw[EO]at h;cases e:l[i]? with
 | none=>rw[e]at h;cases h
 | some x=>rw[e]at h;cases h;exact⟨x,rfl,rfl⟩
def F9.append{w:World}{I:Nat->Prop}{φ:Ac}{l l':List AV}{a a':Array Value}(h:F9 w I φ l a)(h':F9 w I φ l' a'):F9 w I φ (l++l') (a++a'):=by
 refine⟨by simp[h.1,h'.1],λk x u e e'=>?_⟩;rw[Vp]at e;rw[au]at e';rw[h.1]at e;split at e
 ·rename_i hk;rw[Ay hk]at e';exact h.2 k x u e e'
 ·rename_i hk;rw[AE hk]at e';exact h'.2 _ x u e e'
def abf{l:List Nat}:∀ {cs:List AV} {i k:Nat} {c:AV},(Va l i cs)[k]? = some c -> ∃ c0,cs[k]? = some c0/\(c=c0\/c=.undef)
 | [],_,_,_,e=>by simp[Va]at e
 | c0::r,i,0,c,e=>by
  simp only[Va,TF,CU]at e;refine⟨c0,rfl,?_⟩;cases hm:HW i l with
  | true=>rw[hm]at e;exact .inr e.symm
  | false=>rw[hm]at e;exact .inl e.symm
 | c0::r,i,k+1,c,e=>by simp only[Va,Vn]at e ⊢;exact abf e
def aar{l:List Nat}:∀ {cs:List AV} {i:Nat},(Va l i cs).length=cs.length
 | [],_=>rfl
 | c::r,i=>by simp only[Va,CR,aar]
def aj7{l:List Nat}{w:World}{I:Nat->Prop}{φ:Ac}{args:List AV}{ra:Array Value}(h:F9 w I φ args ra):F9 w I φ (uY l args) ra:=by
 unfold uY;split
 ·exact h
 ·split
  ·rename_i cs r;refine⟨by rw[<- h.1];simp,λk x u e e'=>?_⟩;cases k with
   | succ k=>exact h.2 (k+1) x u (by simpa using e) e'
   | zero=>
    simp at e;subst e;have hv:=h.2 0 (.agg cs) u (by simp) e';cases hv with
    | agg _ vs hl h1 hr=>
     refine .agg _ vs (aar.trans hl) h1 λk c u e e'=>?_;obtain⟨c0,e0,hc⟩:=abf e;rcases hc with rfl | rfl
     ·exact hr k _ u e0 e'
     ·exact .undef u
  ·exact h
def adr(Bh:DH P env)(hrun:EN P run){fr:Nat->AV}{o:Oper}{k:Tm R}(h:xk env run fr hp hp.length o k=some r) :
  ∃ v e Dn,k v e Dn=some r/\hp.length<=(e.apply hp).length/\nY P o fr hp.length (Ab hp) v e Dn:=by
 have hnx:Ab hp hp.length=.none:=Gw (Ar _);unfold xk at h;split at h
 ·rename_i c hc;split at h
  ·rename_i b hb;obtain⟨v,wr,Dn,h1,h2⟩:=(ak6 Bh.tt hnx hc hb h).afQ (len:=hp.length);exact⟨v,.wr wr,Dn,h1,UI wr hp,h2⟩
  ·cases h
  ·rename_i f hf;split at h
   ·rename_i g first cap hfn
    obtain⟨v,e,Dn,h1,h2,h3⟩:=mW Bh hrun h;refine⟨v,e,Dn,h1,h2,λAs a w φ I hrd hfit hh hx K Q hK=>?_⟩;have hv:=hx f (by simp[hc,Op.operands,Call.operands,hf]);rw[hfn]at hv;generalize hu:a.eval f=u at hv;cases hv with
    | fn _ _ _ va vc Jg Le ha hcc=>
     have hxa:F9 w I φ (c.args.toList.map (KK fr)) (c.args.map a.eval):=by refine⟨by simp,λi x u e e'=>?_⟩;obtain⟨y,e1,rfl⟩:=adq e;rw[Qf]at e';rw[HV]at e1;rw[e1]at e';cases e';exact hx y (by simp[hc,Op.operands,Call.operands,hf];exact .inr (Array.mem_of_getElem? e1))
     have NW:F9 w I φ (first++(c.args.toList.map (KK fr)++cap)) (va++c.args.map a.eval++vc):=by rw[Array.append_assoc];exact F9.append ⟨Jg,ha⟩ (hxa.append ⟨Le,hcc⟩)
     have TM:=h3 As w I φ _ hrd hfit hh (aj7 NW);have hex:(execOp a.eval o).run P w=(callFunc g (va++c.args.map a.eval++vc)).run P w:=by simp[execOp,hc,resolve,hf,hu,Deferred.ofValue,invoke]
     unfold Oper.wp;rw[hex];rcases TM with ⟨e1,e2⟩ | ⟨u,w',e1,φ',I',b1,b2,b3,b4⟩
     ·rw[e1,Oper.upon_enter];refine Calls.mono e2 λe w' ⟨u,he,φ',I',b1,b2,b3,b4⟩=>?_;subst he;exact hK u w' φ' I' b1 b2 b3 b4
     ·rw[e1,Oper.upon_value];exact hK u w' φ' I' b1 b2 b3 b4
   ·cases h
 ·obtain⟨v,wr,Dn,h1,h2⟩:=(arQ Bh.tt hnx h).afQ (len:=hp.length);exact⟨v,.wr wr,Dn,h1,UI wr hp,h2⟩
end
end
section
variable {R:Type}
def Fp(w:World)(I:Nat->Prop)(φ:Ac)(fr:Nat->AV)(a:Act):Prop:=∀ t,RV w I φ (fr t) (a.eval (.tmp t))
structure BC(w:World)(I:Nat->Prop)(φ:Ac)(s:St)(a:Act):Prop where
 hh:RH w I φ (Ab s.hp)
 fr:Fp w I φ (Bb s.fr) a
def Fp.eval{w:World}{I:Nat->Prop}{φ:Ac}{fr:Nat->AV}{a:Act}(h:Fp w I φ fr a)(x:Operand):RV w I φ (KK fr x) (a.eval x):=by
 cases x with
 | tmp t=>exact h t
 | const v=>exact uh w I φ v
 | global g=>exact .undef _
 | func f=>exact .fn _ [] [] #[] #[] rfl rfl (λk x u e=>by simp at e) (λk x u e=>by simp at e)
def Fp.step{w w':World}{I I':Nat->Prop}{φ φ':Ac}{rd As:Nat->BS}{base:Nat}{fr:Nat->AV}{a:Act}(h:Fp w I φ fr a)(hh:RH w I φ rd)(s:Step base rd φ I w As φ' I' w')(le:Ac.le φ φ') :
  Fp w' I' φ' fr a:=λt=>(h t).step hh s le
def Fp.put{w:World}{I:Nat->Prop}{φ:Ac}{fr:Fr}{a:Act}{d:Option Nat}{v:AV}{u:Value}(h:Fp w I φ (Bb fr) a)(hv:RV w I φ v u)(hd:PU a.tmps.size d=true) :
  Fp w I φ (Bb (KX fr d v)) (a.put d u):=by
 intro t;cases d with
 | none=>exact h t
 | some d=>
  have hd:d<a.tmps.size:=by simpa [PU,CW] using hd
  simp only[KX,Bb,Act.put,Act.eval,NM];cases e:Nat.beq d t with
  | true=>have e:=BN e;subst e;rw[Ae,oz hd];exact hv
  | false=>
   have hne:d ≠ t:=λe'=>by subst e';simp at e
   rw[Aj,bg hne];have:=h t;simp only[Act.eval,NM]at this;exact this
def my{n m:Nat}{d:Option Nat}(h:PU n d=true)(hl:n<=m):PU m d=true:=by
 cases d with
 | none=>rfl
 | some d=>simp only[PU,CW]at h ⊢;omega
@[simp] theorem azj(a:Act)(d:Option Nat)(u:Value):(a.put d u).tmps.size=a.tmps.size:=by cases d <;> simp[Act.put]
@[simp] theorem azg(a:Act)(d:Option Nat)(u:Value):(a.put d u).defers=a.defers:=by cases d <;> simp[Act.put]
def RV.skip(w:World)(I:Nat->Prop)(φ:Ac):RV w I φ (.Am []) Go.undef:=.Am _ _ rfl λk c u e=>by simp at e
def mz{w:World}{I:Nat->Prop}{φ:Ac}{fr:Nat->AV}{a:Act}(h:Fp w I φ fr a){ops:Array Oper}{o:Oper}{b:Bool}(hg:Tb ops fr o=some b) :
  Region.wanted o (yielded ops a.tmps)=b:=by
 unfold Tb at hg;unfold Region.wanted;cases ho:o.guard with
 | none=>rw[ho]at hg;cases hg;rfl
 | some p=>
  obtain⟨j,want⟩:=p;rw[ho]at hg;simp only at hg ⊢;unfold yielded;cases hj:(ops[j]?).bind (·.dst)with
  | none=>rw[hj]at hg;cases hg
  | some d=>
   rw[hj]at hg;simp only at hg;have hd:=h d;generalize fr d=v at hg hd;cases v <;> simp only at hg <;> try cases hg
   case Am.refl=>
    simp only[Act.eval,NM]at hd;simp only[U7];cases ht:a.tmps[d]? with
    | none=>rfl
    | some u=>rw[ht]at hd;simp only[LK]at hd;cases hd;rfl
   rename_i c;simp only[Act.eval,NM]at hd;simp only[U7];cases ht:a.tmps[d]? with
   | none=>rw[ht]at hd;simp[undef]at hd;cases hd
   | some u=>rw[ht]at hd;simp only[LK]at hd;cases hd;cases c <;> cases want <;> rfl
def tu{R:Type}{ops:Array Oper}{o:Oper}{fr:Fr}{k:Bool->Fr->Option R}{r:R}(h:np ops o fr k=some r) :
  ∃ g Jk,k g Jk=some r/\Tb ops (Bb fr) o=some g/\Bb Jk=Bb fr:=by
 unfold np at h;unfold Tb;cases ho:o.guard with
 | none=>rw[ho]at h;exact⟨true,fr,h,rfl,rfl⟩
 | some p=>
  obtain⟨j,want⟩:=p;rw[ho]at h;simp only at h ⊢;cases hj:(ops[j]?).bind (·.dst)with
  | none=>rw[hj]at h;cases h
  | some d=>
   rw[hj]at h;simp only at h ⊢;have same:∀ b,Bb fr d=.bool b->Bb ((d,.bool b)::fr)=Bb fr:=by
    intro b e;funext t;simp only[Bb];cases ht:Nat.beq d t with
    | false=>rfl
    | true=>have:=BN ht;subst this;rw[Ae,e]
   cases hd:Bb fr d <;> rw[hd]at h <;> simp only at h <;> try cases h
   case Am=>exact⟨false,fr,h,rfl,rfl⟩
   case bool b=>
    cases b with
    | true=>exact⟨want,_,h,by cases want <;> rfl,same true hd⟩
    | false=>exact⟨!want,_,h,by cases want <;> rfl,same false hd⟩
def Fa.ak9{rd:Nat->BS}(e:Fa):e.fits rd rd:=by
 cases e with
 | wr l=>exact λ_ _=>rfl
 | full h=>exact rfl
section
variable {P:Program} {env:Env} {run:Gh R} {r:R}
def abg(Bh:DH P env)(hrun:EN P run){nt:Nat}{ops:Array Oper}:∀ (l:List Oper) (i:Nat) (DA:List Rec) (s:St) (k:St->Option R),KY env run nt ops false l i DA s k=some r ->
  ∃ s',k s'=some r/\s.hp.length<=s'.hp.length /\ ∀ (w:World) (I:Nat->Prop) (φ:Ac) (a:Act),BC w I φ s a->nt<=a.tmps.size -> ∀ Q:Exit->Act->World->Prop,
   (∀ a' w' φ' I',nt<=a'.tmps.size->a'.defers=a.defers->BC w' I' φ' s' a'->(∀ base,base<=s.hp.length->Step base (Ab s.hp) φ I w (Ab s'.hp) φ' I' w')->Q .normal a' w')->wpList P ops Q l a w:=by
 intro l
 induction l with
 | nil=>intro i DA s k h;refine⟨s,h,Ar _,λw I φ a hs ha Q hQ=>hQ a w φ I ha rfl hs λbase _=>Step.refl _ _ _ _ _⟩
 | cons o rest ih=>
  intro i DA s k h;unfold KY at h;obtain⟨hd,h⟩:=BG h;obtain⟨g,Jk,h,hg,Ij⟩:=tu h;cases g with
  | true=>
   obtain⟨v,e,Dn,h1,h2,h3⟩:=adr Bh hrun h;obtain⟨s',g1,g2,g3⟩:=ih _ _ _ _ h1;refine⟨s',g1,CI h2 g2,λw I φ a hs ha Q hQ=>?_⟩;unfold wpList;rw[Ay (mz hs.fr hg)];have Vu:Fp w I φ (Bb Jk) a:=by rw[Ij];exact hs.fr
   refine .inl (h3 (Ab s.hp) a w φ I (λ_ _=>rfl) (Fa.ak9 e) hs.hh (λx _=>Vu.eval x) _ _ λu w' φ' I' b1 b2 b3 b4=>?_);have hs':BC w' I' φ' {fr:=KX Jk o.dst v,hp:=e.apply s.hp} (a.put o.dst u):=
    ⟨by rw[Fa.mw];exact b2,(Vu.step hs.hh (b3 0 (Bu _)) b4).put b1 (my hd ha)⟩
   refine g3 w' I' φ' (a.put o.dst u) hs' (by simpa using ha) Q λa' Qz Vs VZ c1 c2 c3 c4=>hQ a' Qz Vs VZ c1 (by simpa using c2) c3 λbase hb=>?_;have:=b3 base hb;rw[<- Fa.mw]at this;exact this.trans (c4 base (CI hb h2))
  | false=>
   obtain⟨s',g1,g2,g3⟩:=ih _ _ _ _ h;refine⟨s',g1,g2,λw I φ a hs ha Q hQ=>?_⟩;unfold wpList;rw[AE (by rw[mz hs.fr hg];simp)];have Vu:Fp w I φ (Bb Jk) a:=by rw[Ij];exact hs.fr
   refine g3 w I φ (a.put o.dst undef) ⟨hs.hh,Vu.put (RV.skip _ _ _) (my hd ha)⟩ (by simpa using ha) Q λa' Qz Vs VZ c1 c2 c3 c4=>hQ a' Qz Vs VZ c1 (by simpa using c2) c3 c4
end
end
section
variable {R:Type}
structure Me(β:Type) where
 u:(Nat->β)->Nat->β
 T:Nat->Prop
structure Me.We{β:Type}(x:Me β):Prop where
 off:∀ f b,¬ x.T b->x.u f b=f b
 loc:∀ f g b,f b=g b->x.u f b=x.u g b
def Gx{β:Type}(L:Nat->Bool):Nat->List (Me β)->(Nat->β)->Nat->β
 | _,[],f=>f
 | i,x::xs,f=>Gx L (i+1) xs (bif L i then x.u f else f)
section
variable {β:Type} {L L':Nat->Bool}
def lL{b:Nat}:∀ (xs:List (Me β)) (i:Nat) (f f':Nat->β),(∀ x ∈ xs,x.We)->(∀ (j:Nat) x,xs[j]? = some x->x.T b->L (i+j)=L' (i+j))->f b=f' b->Gx L i xs f b=Gx L' i xs f' b
 | [],i,f,f',_,_,h=>h
 | x::xs,i,f,f',hl,ht,h=>by
  simp only[Gx];refine lL xs (i+1) _ _ (λy hy=>hl y (by simp[hy])) (λj y e hy=>?_) ?_
  ·have:=ht (j+1) y (by simpa using e) hy;rwa [show i+(j+1)=i+1+j by omega]at this
  ·by_cases hx:x.T b
   ·have:=ht 0 x rfl hx;simp only[Iy]at this;rw[this];cases L' i with
    | true=>exact(hl x (by simp)).loc f f' b h
    | false=>exact h
   ·have e1:(bif L i then x.u f else f) b=f b:=by
     cases L i with
     | true=>exact(hl x (by simp)).off f b hx
     | false=>rfl
    have e2:(bif L' i then x.u f' else f') b=f' b:=by
     cases L' i with
     | true=>exact(hl x (by simp)).off f' b hx
     | false=>rfl
    rw[e1,e2,h]
def tv{b:Nat}:∀ (xs:List (Me β)) (i:Nat) (f:Nat->β),(∀ x ∈ xs,x.We)->(∀ (j:Nat) x,xs[j]? = some x->x.T b->L (i+j)=false)->Gx L i xs f b=f b
 | [],i,f,_,_=>rfl
 | x::xs,i,f,hl,ht=>by
  simp only[Gx];rw[tv xs (i+1) _ (λy hy=>hl y (by simp[hy])) λj y e hy=>?_]
  ·by_cases hx:x.T b
   ·have:=ht 0 x rfl hx;simp only[Iy]at this;rw[this];rfl
   ·cases L i with
    | true=>exact(hl x (by simp)).off f b hx
    | false=>rfl
  ·have:=ht (j+1) y (by simpa using e) hy;rwa [show i+(j+1)=i+1+j by omega]at this
def lM:∀ (xs:List (Me β)) (i:Nat) (f:Nat->β),(∀ j,L (i+j)=false)->Gx L i xs f=f
 | [],i,f,_=>rfl
 | x::xs,i,f,h=>by have h0:L i=false:=h 0;simp only[Gx,h0,Aj];exact lM xs (i+1) f λj=>by rw[show i+1+j=i+(j+1) by omega];exact h (j+1)
def tI{b:Nat}{x:Me β}:∀ (xs:List (Me β)) (i m:Nat) (f:Nat->β),(∀ y ∈ xs,y.We)->xs[m]? = some x->L (i+m)=false->(∀ j,L' j=(L j||decide (j=i+m))) ->
  (x.T b -> ∀ (j:Nat) y,xs[j]? = some y->m<j->y.T b->L (i+j)=false)->Gx L' i xs f b=x.u (Gx L i xs f) b
 | [],i,m,f,_,hm,_,_,_=>by simp at hm
 | y::xs,i,0,f,hl,hm,hL,QJ,ht=>by
  simp at hm;subst hm;simp only[Iy]at hL QJ;have QF:∀ z ∈ xs,z.We:=λz hz=>hl z (by simp[hz]);have e0:L' i=true:=by rw[QJ];simp
  simp only[Gx,hL,e0,Ae,Aj];have hne:∀ j,L' (i+1+j)=L (i+1+j):=λj=>by
   rw[QJ];have:¬ (i+1+j=i):=by omega
   simp[this]
  by_cases hx:y.T b
  ·have hz:∀ (j:Nat) z,xs[j]? = some z->z.T b->L (i+1+j)=false:=by
    intro j z e hz;have:=ht hx (j+1) z (by simpa using e) (by omega) hz;rwa [show i+(j+1)=i+1+j by omega]at this
   rw[tv xs (i+1) _ QF λj z e hzT=>(hne j).trans (hz j z e hzT)];exact(hl y (by simp)).loc _ _ b (tv xs (i+1) _ QF hz).symm
  ·rw[(hl y (by simp)).off _ b hx];exact lL xs (i+1) _ _ QF (λj z e _=>hne j) ((hl y (by simp)).off f b hx)
 | y::xs,i,m+1,f,hl,hm,hL,QJ,ht=>by
  have Wf:L' i=L i:=by
   rw[QJ];have:¬ (i=i+(m+1)):=by omega
   simp[this]
  simp only[Gx,Wf];refine tI xs (i+1) m _ (λz hz=>hl z (by simp[hz])) (by simpa using hm) (by rwa [show i+1+m=i+(m+1) by omega]) (λj=>by rw[QJ,show i+1+m=i+(m+1) by omega]) λhx j z e hj hz=>?_;have:=ht hx (j+1) z (by simpa using e) (by omega) hz;rwa [show i+(j+1)=i+1+j by omega]at this
end
structure Cg where
 Jl:Bool
 v:AV
 e:Fa
 Dn:List Nat
def Cg.Z7:Cg:=⟨false,.Am [],.wr [],[]⟩
def Fa.P3:Fa->Nat->Prop
 | .wr l,b=>∃ p ∈ l,p.1=b
 | .full _,_=>True
def Cg.mem(x:Cg):Me BS:=⟨x.e.rd,x.e.P3⟩
def R6(d:Option Nat)(v:AV)(fr:Nat->AV):Nat->AV:=λt=>if d=some t then v else fr t
def Cg.tmp(o:Oper)(x:Cg):Me AV:=⟨R6 o.dst x.v,λt=>o.dst=some t⟩
def aas(b:Nat):∀ (l:Wr) (f g:Nat->BS),f b=g b->Ee f l b=Ee g l b
 | [],f,g,h=>h
 | (b',x)::r,f,g,h=>by
  refine aas b r _ _ ?_;unfold BU;split
  ·rfl
  ·exact h
def Cg.apb(x:Cg):x.mem.We:=by
 refine⟨λf b h=>?_,λf g b h=>?_⟩
 ·cases he:x.e with
  | wr l=>simp only[Cg.mem,he,Fa.rd,Fa.P3]at h ⊢;exact aaL b l f λp hp e=>h ⟨p,hp,e⟩
  | full h'=>simp only[Cg.mem,he,Fa.P3]at h;exact(h trivial).elim
 ·cases he:x.e with
  | wr l=>simp only[Cg.mem,he,Fa.rd];exact aas b l f g h
  | full h'=>simp only[Cg.mem,he,Fa.rd]
def Cg.apc(o:Oper)(x:Cg):(x.tmp o).We:=by
 refine⟨λf b h=>?_,λf g b h=>?_⟩
 ·simp only[Cg.tmp]at h ⊢;simp only[R6,AE h]
 ·simp only[Cg.tmp,R6];split <;> first | rfl | exact h
def mf(fr:Fr)(d:Option Nat)(v:AV):Bb (KX fr d v)=R6 d v (Bb fr):=by
 funext t;cases d with
 | none=>simp[KX,R6]
 | some d=>
  simp only[KX,Bb,R6,CU];cases h:Nat.beq d t with
  | true=>rw[Ae,Ay (BN h)]
  | false=>rw[Aj,AE (λe=>by subst e;simp at h)]
def Cg.null(x:Cg):Prop:=x.e=.wr []/\x.Dn=[]
def Cg.meet(x:Cg)(b:Nat):Prop:=x.e.P3 b\/b ∈ x.Dn
def we(A:List Nat)(i:Nat)(x:Cg)(j:Nat)(y:Cg):Prop:=
 (∀ b,(x.e.P3 b/\y.meet b)\/(y.e.P3 b/\x.meet b)->behind A j i=true)/\(∀ h,x.e=.full h -> ¬ y.null->behind A j i=true)/\(∀ h,y.e=.full h -> ¬ x.null->behind A j i=true)
def Tf:Nat->List Cg->List Rec->List Rec
 | _,[],DA=>DA
 | i,x::xs,DA=>Tf (i+1) xs (bif x.Jl then XH i x.e x.Dn DA else DA)
def OF(P:Program)(nt:Nat)(ops:Array Oper):List Oper->List Cg->St->St->Prop
 | [],[],s,s'=>s=s'
 | o::os,x::xs,s,s'=>PU nt o.dst=true/\Tb ops (Bb s.fr) o=some x.Jl/\(x.Jl=true->nY P o (Bb s.fr) s.hp.length (Ab s.hp) x.v x.e x.Dn)/\(x.Jl=false->x=.Z7) /\
   s.hp.length<=(x.e.apply s.hp).length/\OF P nt ops os xs {fr:=KX s.fr o.dst x.v,hp:=x.e.apply s.hp} s'
 | _,_,_,_=>False
section
variable {P:Program} {env:Env} {run:Gh R} {r:R}
def ala(Bh:DH P env)(hrun:EN P run){nt:Nat}{ops:Array Oper}:∀ (l:List Oper) (i:Nat) (DA:List Rec) (s1 s:St) (k:St->Option R),Bb s1.fr=Bb s.fr->s1.hp=s.hp->KY env run nt ops true l i DA s1 k=some r ->
  ∃ xs s' s2,k s2=some r/\Bb s2.fr=Bb s'.fr/\s2.hp=s'.hp/\OF P nt ops l xs s s'/\Pz (HS ops.toList []) (Tf i xs DA)=true:=by
 intro l
 induction l with
 | nil=>intro i DA s1 s k hf hh h;unfold KY at h;obtain⟨h1,h2⟩:=BG h;exact⟨[],s,s1,h2,hf,hh,rfl,h1⟩
 | cons o rest ih=>
  intro i DA s1 s k hf hh h;unfold KY at h;obtain⟨hd,h⟩:=BG h;obtain⟨g,Jk,h,hg,Ij⟩:=tu h;rw[hf]at hg Ij;cases g with
  | true=>obtain⟨v,e,Dn,h1,h2,h3⟩:=adr Bh hrun h;rw[Ij,hh]at h3;rw[hh]at h2 h1;obtain⟨xs,s',s2,g1,g2,g3,g4,g5⟩:=ih _ _ {fr:=KX Jk o.dst v,hp:=e.apply s.hp} {fr:=KX s.fr o.dst v,hp:=e.apply s.hp} _ (by simp only[mf,Ij]) rfl h1;exact⟨⟨true,v,e,Dn⟩::xs,s',s2,g1,g2,g3,⟨hd,hg,λ_=>h3,λh=>(by cases h),h2,g4⟩,g5⟩
  | false=>obtain⟨xs,s',s2,g1,g2,g3,g4,g5⟩:=ih _ _ {fr:=KX Jk o.dst (.Am []),hp:=s1.hp} {fr:=KX s.fr o.dst (.Am []),hp:=s.hp} _ (by simp only[mf,Ij]) hh h;exact⟨Cg.Z7::xs,s',s2,g1,g2,g3,⟨hd,hg,λh=>(by cases h),λ_=>rfl,Ar _,g4⟩,g5⟩
def OF.length{nt:Nat}{ops:Array Oper}:∀ {os:List Oper} {xs:List Cg} {s s':St},OF P nt ops os xs s s'->xs.length=os.length/\s.hp.length<=s'.hp.length
 | [],[],s,s',h=>⟨rfl,by cases h;exact Ar _⟩
 | o::os,x::xs,s,s',h=>by obtain⟨_,_,_,_,h1,h2⟩:=h;have:=OF.length h2;exact⟨by simp[this.1],CI h1 this.2⟩
 | [],_::_,s,s',h=>h.elim
 | _::_,[],s,s',h=>h.elim
def R7(xs:List Cg):List (Me BS):=xs.map Cg.mem
def Kg:List Oper->List Cg->List (Me AV)
 | o::os,x::xs=>x.tmp o::Kg os xs
 | _,_=>[]
def OF.nth{nt:Nat}{ops:Array Oper}:∀ {os:List Oper} {xs:List Cg} {s s':St} {i0:Nat},OF P nt ops os xs s s' -> ∀ (i:Nat) o x,os[i]? = some o->xs[i]? = some x ->
  PU nt o.dst=true /\ ∃ fr len,s.hp.length<=len/\Tb ops fr o=some x.Jl/\(x.Jl=true->nY P o fr len (Gx (λj=>decide (j<i0+i)) i0 (R7 xs) (Ab s.hp)) x.v x.e x.Dn)/\(x.Jl=false->x=.Z7) /\
   fr=Gx (λj=>decide (j<i0+i)) i0 (Kg os xs) (Bb s.fr)
 | [],_,s,s',i0,h,i,o,x,e,_=>by simp at e
 | o'::os,[],s,s',i0,h,i,o,x,e,_=>h.elim
 | o'::os,y::xs,s,s',i0,h,0,o,x,e,e'=>by
  obtain⟨h1,h2,h3,h4,h5,h6⟩:=h;simp at e e';subst e;subst e';have hf:∀ {β:Type} (us:List (Me β)) (f:Nat->β),Gx (λj=>decide (j<i0+0)) i0 us f=f:=by intro β us f;exact lM us i0 f λj=>by simp
  refine⟨h1,Bb s.fr,s.hp.length,Ar _,h2,λhr=>?_,h4,(hf _ _).symm⟩;rw[hf];exact h3 hr
 | o'::os,y::xs,s,s',i0,h,i+1,o,x,e,e'=>by
  obtain⟨h1,h2,h3,h4,h5,h6⟩:=h;obtain⟨g1,fr,len,g2,g3,g4,g5,g6⟩:=OF.nth (i0:=i0+1) h6 i o x (by simpa using e) (by simpa using e');have hlt:decide (i0<i0+(i+1))=true:=by simp
  refine⟨g1,fr,len,CI h5 g2,g3,λhr=>?_,g5,?_⟩
  ·have:=g4 hr;simp only[R7,NP,Gx,hlt,Ae];rw[Fa.mw,show i0+1+i=i0+(i+1) by omega]at this;exact this
  ·simp only[Kg,Gx,hlt,Ae];rw[g6,mf,show i0+1+i=i0+(i+1) by omega];rfl
end
end
section
variable {R:Type}
def Rw(ops:Array Oper)(o:Oper):List Nat:=
 o.dst.toList++((o.op.operands.toList.filterMap fun | .tmp t=>some t | _=>none)++(match o.guard with | some (j,_)=>((ops[j]?).bind (·.dst)).toList | none=>[]))
def ordered(A:List Nat)(i j:Nat):Bool:=bif Nat.blt i j then behind A j i else behind A i j
def ft(A:List Nat)(ns:List Nat)(i:Nat):List Oper->Nat->Bool
 | [],_=>true
 | o::r,j=>(match o.dst with | some d=>!(HW d ns)||(Nat.beq i j||ordered A i j) | none=>true)&&ft A ns i r (j+1)
def fu(A:List Nat)(ops:Array Oper)(all:List Oper):List Oper->Nat->Bool
 | [],_=>true
 | o::r,i=>(o.after.toList.all λe=>!Lm e||Nat.blt e.on i)&&(ft A (Rw ops o) i all 0&&fu A ops all r (i+1))
def vh(ops:Array Oper):Bool:=fu (HS ops.toList []) ops ops.toList ops.toList 0
def AD:Code->Bool
 | .region _ ops draw=>!draw||vh ops
 | .seq a b=>AD a&&AD b
 | .cond _ a b=>AD a&&AD b
 | .block _ a=>AD a
 | .loop a=>AD a
 | .scope a=>AD a
 | _=>true
def abh{b:Nat}:∀ {l:List Nat},b ∈ l->HW b l=true
 | x::r,h=>by
  unfold HW;cases hx:Nat.beq x b with
  | true=>rfl
  | false=>
   rw[Aj];rcases Dz.1 h with e | h
   ·subst e;simp at hx
   ·exact abh h
def aat{A ns:List Nat}{i:Nat}:∀ {l:List Oper} {j0:Nat},ft A ns i l j0=true -> ∀ (j:Nat) o d,l[j]? = some o->o.dst=some d->d ∈ ns->i ≠ j0+j->ordered A i (j0+j)=true
 | [],_,_,j,o,d,e,_,_,_=>by simp at e
 | o'::r,j0,h,0,o,d,e,hd,hn,hne=>by unfold ft at h;obtain⟨h1,_⟩:=A4 h;simp at e;subst e;rw[hd]at h1;simp only[abh hn,Dr,Bool.false_or,Bool.or_eq_true]at h1;exact h1.resolve_left λe=>hne (by simpa using BN e)
 | o'::r,j0,h,j+1,o,d,e,hd,hn,hne=>by unfold ft at h;obtain⟨_,h2⟩:=A4 h;have:=aat h2 j o d (by simpa using e) hd hn (by omega);rwa [show j0+1+j=j0+(j+1) by omega]at this
def aau{A:List Nat}{ops:Array Oper}{all:List Oper}:∀ {l:List Oper} {i0:Nat},fu A ops all l i0=true -> ∀ (i:Nat) o,l[i]? = some o ->
  (∀ e ∈ o.after.toList,Lm e=true->e.on<i0+i) /\ ∀ (j:Nat) o' d,all[j]? = some o'->o'.dst=some d->d ∈ Rw ops o->i0+i ≠ j->ordered A (i0+i) j=true
 | [],_,_,i,o,e=>by simp at e
 | o'::r,i0,h,0,o,e=>by
  unfold fu at h;obtain⟨h1,h2⟩:=A4 h;obtain⟨h2,_⟩:=A4 h2;simp at e;subst e;refine⟨λe he hb=>?_,λj jd d e1 e2 e3 e4=>?_⟩
  ·have:=HA.1 h1 e he;rw[hb]at this;simpa [CW] using this
  ·have:=aat h2 j jd d e1 e2 e3 (by omega);simpa using this
 | o'::r,i0,h,i+1,o,e=>by unfold fu at h;obtain⟨_,h2⟩:=A4 h;obtain⟨_,h2⟩:=A4 h2;have:=aau h2 i o (by simpa using e);rwa [show i0+1+i=i0+(i+1) by omega]at this
def aaC(e:Edge):Lm e=Region.binds .any e:=by unfold Lm Region.binds;cases e.ground <;> rfl
def aaM(acc:List Nat)(j:Nat):∀ (es:List Edge) (s:Nat),Nat.testBit (es.foldl (λs e=>bif Lm e then s ||| 2 ^ e.on ||| acc.getD e.on 0 else s) s) j=true ->
  Nat.testBit s j=true \/ ∃ e ∈ es,Lm e=true/\(e.on=j\/Nat.testBit (acc.getD e.on 0) j=true)
 | [],s,h=>.inl h
 | e::r,s,h=>by
  rw[RF]at h;rcases aaM acc j r _ h with h | ⟨e',he,hb⟩
  ·cases hb:Lm e with
   | false=>rw[hb]at h;exact .inl (by simpa using h)
   | true=>
    rw[hb,Ae,Nat.testBit_or,Nat.testBit_or,Nat.testBit_two_pow]at h;simp only[Bool.or_eq_true,decide_eq_true_eq]at h;rcases h with (h | h) | h
    ·exact .inl h
    ·exact .inr ⟨e,by simp,hb,.inl h⟩
    ·exact .inr ⟨e,by simp,hb,.inr h⟩
  ·exact .inr ⟨e',by simp[he],hb⟩
def uo:∀ (l:List Oper) (acc:List Nat) (k:Nat),k<acc.length->(HS l acc).getD k 0=acc.getD k 0
 | [],acc,k,_=>rfl
 | o::r,acc,k,h=>by unfold HS;rw[uo r _ k (by simp;omega)];simp only[List.getD];rw[DY h]
def abi(j:Nat):∀ (l:List Oper) (acc:List Nat) (i:Nat) (o:Oper),l[i]? = some o->Nat.testBit ((HS l acc).getD (acc.length+i) 0) j=true ->
  ∃ e ∈ o.after.toList,Lm e=true/\(e.on=j\/(e.on<acc.length+i/\Nat.testBit ((HS l acc).getD e.on 0) j=true))
 | [],acc,i,o,e,_=>by simp at e
 | o'::r,acc,0,o,e,h=>by
  simp at e;subst e;unfold HS at h ⊢;rw[uo r _ _ (by simp)]at h;rw[show(acc++[o'.after.toList.foldl (λs e=>bif Lm e then s ||| 2 ^ e.on ||| acc.getD e.on 0 else s) 0]).getD (acc.length+0) 0=o'.after.toList.foldl (λs e=>bif Lm e then s ||| 2 ^ e.on ||| acc.getD e.on 0 else s) 0 by simp]at h;rcases aaM acc j _ _ h with h | ⟨e,he,hb,h⟩
  ·simp at h
  ·refine⟨e,he,hb,h.imp id λh=>?_⟩;have hlt:e.on<acc.length:=by
    rcases Cj e.on acc.length with h' | h'
    ·exact h'
    ·simp[List.getD,CK h']at h
   refine⟨by omega,?_⟩;rw[uo r _ _ (by simp;omega)];simp only[List.getD]at h ⊢;rw[DY hlt];exact h
 | o'::r,acc,i+1,o,e,h=>by
  unfold HS at h ⊢;have:=abi j r (acc++[o'.after.toList.foldl (λs e=>bif Lm e then s ||| 2 ^ e.on ||| acc.getD e.on 0 else s) 0]) i o (by simpa using e)
   (by rwa [CB,FD,show acc.length+1+i=acc.length+(i+1) by omega])
  rwa [CB,FD,show acc.length+1+i=acc.length+(i+1) by omega]at this
def wg(l:List Oper)(L:Nat->Bool):Prop:=∀ (i:Nat) o,l[i]? = some o->L i=true -> ∀ e ∈ o.after.toList,Lm e=true->L e.on=true
def aal{l:List Oper}{L:Nat->Bool}(hc:wg l L){j:Nat}:∀ (i:Nat) o,l[i]? = some o->(∀ e ∈ o.after.toList,Lm e=true->L e.on=true)->behind (HS l []) i j=true->L j=true:=by
 intro i
 induction i using Nat.strongRecOn with
 | ind i ih=>
  intro o ho hr hb;unfold behind at hb;obtain⟨e,he,ct,h⟩:=abi j l [] i o ho (by simpa using hb);rcases h with h | ⟨h1,h2⟩
  ·rw[<- h];exact hr e he ct
  ·simp only[U8,Ev]at h1;have hlt:e.on<l.length:=by
    have:=(GO.1 ho).1;omega
   exact ih e.on h1 l[e.on] (BR hlt) (hc e.on l[e.on] (BR hlt) (hr e he ct)) h2
def X4(x:Cg)(i:Nat):List Rec:=bif x.Jl then XH i x.e x.Dn []else []
def ajp(i:Nat)(e:Fa)(rd:List Nat)(DA:List Rec):XH i e rd DA=XH i e rd []++DA:=by
 unfold XH;cases e with
 | wr l=>cases l with
  | nil=>cases rd <;> rfl
  | cons p l=>rfl
 | full h=>rfl
def s8(i:Nat)(x:Cg)(xs:List Cg)(DA:List Rec):Tf i (x::xs) DA=Tf (i+1) xs (X4 x i++DA):=by
 unfold X4;rw[Tf];cases x.Jl with
 | true=>simp only[Ae];rw[ajp]
 | false=>rfl
def aav{A:List Nat}:∀ {l l':List Rec},Pz A (l++l')=true->Pz A l'=true /\ ∀ r ∈ l,∀ s ∈ l',fJ A r s=true
 | [],l',h=>⟨h,λr hr=>by simp at hr⟩
 | x::l,l',h=>by
  rw[List.cons_append]at h;unfold Pz at h;obtain⟨h1,h2⟩:=A4 h;obtain⟨g1,g2⟩:=aav h2;refine⟨g1,λr hr s hs=>?_⟩;rcases Dz.1 hr with e | hr
  ·subst e;exact HA.1 h1 s (by simp[hs])
  ·exact g2 r hr s hs
def afR{A:List Nat}:∀ {xs:List Cg} {i0:Nat} {DA:List Rec},Pz A (Tf i0 xs DA)=true ->
  Pz A DA=true /\ ∀ (j:Nat) y,xs[j]? = some y -> ∀ r ∈ X4 y (i0+j),∀ s ∈ DA,fJ A r s=true
 | [],i0,DA,h=>⟨h,λj y e=>by simp at e⟩
 | x::xs,i0,DA,h=>by
  rw[s8]at h;obtain⟨h1,h2⟩:=afR h;obtain⟨h3,h4⟩:=aav h1;refine⟨h3,λj y e r hr s hs=>?_⟩;cases j with
  | zero=>simp at e;subst e;exact h4 r hr s hs
  | succ j=>refine h2 j y (by simpa using e) r ?_ s (by simp[hs]);rwa [show i0+1+j=i0+(j+1) by omega]
def afS{A:List Nat}:∀ {xs:List Cg} {i0:Nat} {DA:List Rec},Pz A (Tf i0 xs DA)=true ->
  ∀ (i j:Nat) x y,i<j->xs[i]? = some x->xs[j]? = some y -> ∀ r ∈ X4 y (i0+j),∀ s ∈ X4 x (i0+i),fJ A r s=true
 | [],i0,DA,h,i,j,x,y,_,e,_=>by simp at e
 | x'::xs,i0,DA,h,i,0,x,y,DC,e,e'=>by omega
 | x'::xs,i0,DA,h,0,j+1,x,y,DC,e,e'=>by rw[s8]at h;simp at e;subst e;intro r hr s hs;refine(afR h).2 j y (by simpa using e') r ?_ s (by simp;exact .inl hs);rwa [show i0+1+j=i0+(j+1) by omega]
 | x'::xs,i0,DA,h,i+1,j+1,x,y,DC,e,e'=>by rw[s8]at h;have:=afS h i j x y (by omega) (by simpa using e) (by simpa using e');rwa [show i0+1+j=i0+(j+1) by omega,show i0+1+i=i0+(i+1) by omega]at this
def tz{a b:List Nat}{x:Nat}(ha:x ∈ a)(hb:x ∈ b):meets a b=true:=by unfold meets;exact List.any_eq_true.2 ⟨x,ha,List.any_eq_true.2 ⟨x,hb,by simp⟩⟩
def Cg.jy(x:Cg):List Nat:=match x.e with | .wr l=>l.map (·.1) | .full _=>[]
def Cg.isFull(x:Cg):Bool:=match x.e with | .wr _=>false | .full _=>true
def ads{x:Cg}{i:Nat}(hr:x.Jl=true)(hn:¬ x.null):X4 x i=[{i:=i,rd:=x.Dn,wr:=x.jy,all:=x.isFull}]:=by
 unfold X4 Cg.jy Cg.isFull;rw[hr,Ae];unfold XH;cases he:x.e with
 | wr l=>
  cases l with
  | nil=>
   cases hd:x.Dn with
   | nil=>exact(hn ⟨he,hd⟩).elim
   | cons b r=>rfl
  | cons p l=>rfl
 | full h=>rfl
def Cg.lV{x:Cg}(h:x.null)(b:Nat):¬ x.e.P3 b /\ ¬ x.meet b:=by
 obtain⟨h1,h2⟩:=h;have:¬ x.e.P3 b:=by rw[h1];rintro⟨p,hp,_⟩;simp at hp
 exact⟨this,λhm=>hm.elim this λhm=>by rw[h2]at hm;simp at hm⟩
def aeu{A:List Nat}{xs:List Cg}(h:Pz A (Tf 0 xs [])=true){i j:Nat}{x y:Cg}(DC:i<j)(ex:xs[i]? = some x)(ey:xs[j]? = some y)
  (hx:x.Jl=false->x=.Z7) (hy:y.Jl=false->y=.Z7):we A i x j y:=by
 by_cases nx:x.null
 ·refine⟨λb hb=>?_,λh' e _=>?_,λh' e n=>(n nx).elim⟩
  ·rcases hb with ⟨h1,_⟩ | ⟨_,h2⟩
   ·exact((Cg.lV nx b).1 h1).elim
   ·exact((Cg.lV nx b).2 h2).elim
  ·rw[nx.1]at e;cases e
 by_cases ny:y.null
 ·refine⟨λb hb=>?_,λh' e n=>(n ny).elim,λh' e _=>?_⟩
  ·rcases hb with ⟨_,h2⟩ | ⟨h1,_⟩
   ·exact((Cg.lV ny b).2 h2).elim
   ·exact((Cg.lV ny b).1 h1).elim
  ·rw[ny.1]at e;cases e
 have rx:x.Jl=true:=by
  cases e:x.Jl with
  | true=>rfl
  | false=>rw[hx e]at nx;exact(nx ⟨rfl,rfl⟩).elim
 have ry:y.Jl=true:=by
  cases e:y.Jl with
  | true=>rfl
  | false=>rw[hy e]at ny;exact(ny ⟨rfl,rfl⟩).elim
 have hq:=afS h i j x y DC ex ey;rw[ads rx nx,ads ry ny]at hq;have hq:=hq _ (List.mem_singleton_self _) _ (List.mem_singleton_self _);unfold fJ at hq;simp only[Ev,Bool.or_eq_true,Bool.not_eq_true',Mw]at hq;have afT:∀ {z:Cg} {h'},z.e=.full h'->z.isFull=true:=λ{z} {h'} e=>by unfold Cg.isFull;rw[e]
 refine⟨λb hb=>hq.elim id λ⟨q1,q2,q3,q4⟩=>?_,λh' e _=>hq.elim id λ⟨q1,q2,q3,q4⟩=>?_,λh' e _=>hq.elim id λ⟨q1,q2,q3,q4⟩=>?_⟩
 ·have tw:∀ {z:Cg} {b:Nat},z.isFull=false->z.e.P3 b->b ∈ z.jy:=by
   intro z b hf ht;unfold Cg.jy;unfold Cg.isFull at hf;cases he:z.e with
   | wr l=>rw[he]at ht;obtain⟨p,hp,e⟩:=ht;exact Mz.2 ⟨p,hp,e⟩
   | full h'=>rw[he]at hf;cases hf
  have tm:∀ {z:Cg} {b:Nat},z.isFull=false->z.meet b->b ∈ z.Dn++z.jy:=λhf hm=>by
   rcases hm with hm | hm
   ·exact Cp.2 (.inr (tw hf hm))
   ·exact Cp.2 (.inl hm)
  rcases hb with ⟨h1,h2⟩ | ⟨h1,h2⟩
  ·rcases h2 with h2 | h2
   ·rw[tz (tw q1 h2) (Cp.2 (.inr (tw q2 h1)))]at q3;cases q3
   ·rw[tz h2 (tw q2 h1)]at q4;cases q4
  ·rw[tz (tw q1 h1) (tm q2 h2)]at q3;cases q3
 ·rw[afT e]at q2;cases q2
 ·rw[afT e]at q1;cases q1
def ab8{xs:List Cg}{j:Nat}{u:Me BS}(h:(R7 xs)[j]? = some u):∃ x,xs[j]? = some x/\u=x.mem:=adq h
def ab9(xs:List Cg):∀ u ∈ R7 xs,u.We:=by intro u hu;obtain⟨x,_,rfl⟩:=Mz.1 hu;exact x.apb
def tJ:∀ {os:List Oper} {xs:List Cg} {j:Nat} {u:Me AV},(Kg os xs)[j]? = some u -> ∃ o x,os[j]? = some o/\xs[j]? = some x/\u=x.tmp o
 | [],xs,j,u,h=>by simp[Kg]at h
 | o::os,[],j,u,h=>by simp[Kg]at h
 | o::os,x::xs,0,u,h=>by simp[Kg]at h;exact⟨o,x,rfl,rfl,h.symm⟩
 | o::os,x::xs,j+1,u,h=>by simp only[Kg,Vn]at h;obtain⟨o',x',e1,e2,e3⟩:=tJ h;exact⟨o',x',by simpa using e1,by simpa using e2,e3⟩
def aaN:∀ {os:List Oper} {xs:List Cg} {j:Nat} {o:Oper} {x:Cg},os[j]? = some o->xs[j]? = some x->(Kg os xs)[j]? = some (x.tmp o)
 | [],xs,j,o,x,h,_=>by simp at h
 | o'::os,[],j,o,x,_,h=>by simp at h
 | o'::os,x'::xs,0,o,x,h,h'=>by simp at h h';subst h;subst h';rfl
 | o'::os,x'::xs,j+1,o,x,h,h'=>by simp only[Kg,Vn];exact aaN (by simpa using h) (by simpa using h')
def tK:∀ (os:List Oper) (xs:List Cg),∀ u ∈ Kg os xs,u.We
 | [],xs,u,h=>by simp[Kg]at h
 | o::os,[],u,h=>by simp[Kg]at h
 | o::os,x::xs,u,h=>by
  simp only[Kg]at h;rcases Dz.1 h with e | h
  ·subst e;exact Cg.apc o x
  ·exact tK os xs u h
def OF.fin{P:Program}{nt:Nat}{ops:Array Oper}{L:Nat->Bool}:∀ {os:List Oper} {xs:List Cg} {s s':St} {i0:Nat},OF P nt ops os xs s s'->(∀ j,j<os.length->L (i0+j)=true) ->
  Gx L i0 (R7 xs) (Ab s.hp)=Ab s'.hp/\Gx L i0 (Kg os xs) (Bb s.fr)=Bb s'.fr
 | [],[],s,s',i0,h,_=>by cases h;exact⟨rfl,rfl⟩
 | o::os,x::xs,s,s',i0,h,hL=>by
  obtain⟨_,_,_,_,_,h6⟩:=h;have h0:L i0=true:=hL 0 (by simp);have ih:=OF.fin (i0:=i0+1) h6 λj hj=>by have:=hL (j+1) (by simpa using hj);rwa [show i0+(j+1)=i0+1+j by omega]at this
  refine⟨?_,?_⟩
  ·simp only[R7,NP,Gx,h0,Ae];rw[<- ih.1,Fa.mw];rfl
  ·simp only[Kg,Gx,h0,Ae];rw[<- ih.2,mf];rfl
 | [],_::_,s,s',i0,h,_=>h.elim
 | _::_,[],s,s',i0,h,_=>h.elim
def Fp.ahL{w:World}{I:Nat->Prop}{φ:Ac}{fr:Nat->AV}{a:Act}{d:Option Nat}{v:AV}{u:Value}(h:Fp w I φ fr a)(hv:RV w I φ v u)(hd:PU a.tmps.size d=true) :
  Fp w I φ (R6 d v fr) (a.put d u):=by
 intro t;cases d with
 | none=>simpa [R6,Act.put] using h t
 | some d=>
  have hd:d<a.tmps.size:=by simpa [PU,CW] using hd
  simp only[R6,Act.put,Act.eval,NM,CU];by_cases e:d=t
  ·subst e;rw[Ay rfl,oz hd];exact hv
  ·rw[AE e,bg e];have:=h t;simp only[Act.eval,NM]at this;exact this
def ajq{ops:Array Oper}{fr Jk:Nat->AV}{o:Oper}(h:∀ t ∈ Rw ops o,fr t=Jk t):Tb ops fr o=Tb ops Jk o:=by
 unfold Tb;cases hg:o.guard with
 | none=>rfl
 | some p=>
  obtain⟨j,want⟩:=p;simp only;cases hj:(ops[j]?).bind (·.dst)with
  | none=>rfl
  | some d=>simp only;rw[h d (by unfold Rw;rw[hg];simp[hj])]
def ajG{ops:Array Oper}{fr Jk:Nat->AV}{o:Oper}(h:∀ t ∈ Rw ops o,fr t=Jk t){x:Operand}(hx:x ∈ o.op.operands):KK fr x=KK Jk x:=by
 cases x with
 | tmp t=>refine h t ?_;unfold Rw;refine Cp.2 (.inr (Cp.2 (.inl (List.mem_filterMap.2 ⟨.tmp t,by simpa using hx,rfl⟩))))
 | _=>rfl
section
variable {P:Program} {env:Env} {run:Gh R} {r:R} {nt:Nat} {ops:Array Oper} {xs:List Cg} {s s':St} {Q:Exit->Act->World->Prop} {a0:Act} {w0:World} {pR:Ac} {I0:Nat->Prop}
abbrev LR(xs:List Cg)(s:St)(L:Nat->Bool):Nat->BS:=Gx L 0 (R7 xs) (Ab s.hp)
abbrev X5(ops:Array Oper)(xs:List Cg)(s:St)(L:Nat->Bool):Nat->AV:=Gx L 0 (Kg ops.toList xs) (Bb s.fr)
def amJ(ht:vh ops=true)(O3:OF P nt ops ops.toList xs s s')(hq:Pz (HS ops.toList []) (Tf 0 xs [])=true)
  (hQ:∀ a' w' φ' I',nt<=a'.tmps.size->a'.defers=a0.defers->BC w' I' φ' s' a'->(∀ base,base<=s.hp.length->Step base (Ab s.hp) pR I0 w0 (Ab s'.hp) φ' I' w')->Q .normal a' w') :
  ∀ (fuel:Nat) (CN:Array Bool) (U:List Nat) (a:Act) (w:World) (φ:Ac) (I:Nat->Prop),CN.size=ops.size->(∀ j,j<ops.size->CN.getD j false=false->j ∈ U)->U.length<=fuel ->
   wg ops.toList (λj=>CN.getD j false)->RH w I φ (LR xs s λj=>CN.getD j false)->Fp w I φ (X5 ops xs s λj=>CN.getD j false) a->nt<=a.tmps.size->a.defers=a0.defers ->
   (∀ base,base<=s.hp.length->Step base (Ab s.hp) pR I0 w0 (LR xs s λj=>CN.getD j false) φ I w)->wpAny P .any ops Q fuel CN a w:=by
 have O6:xs.length=ops.toList.length:=O3.length.1;have pS:∀ (j:Nat) x,xs[j]? = some x->x.Jl=false->x=.Z7:=by
  intro j x e;have hj:j<ops.toList.length:=by rw[<- O6];exact(GO.1 e).1
  obtain⟨_,_,_,_,_,_,h,_⟩:=O3.nth (i0:=0) j _ x (BR hj) e;exact h
 have hto:=λ(i:Nat) (o:Oper) (e:ops.toList[i]? = some o)=>aau (l:=ops.toList) (i0:=0) ht i o e;have ON:∀ (CN:Array Bool) (a:Act) (w:World) (φ:Ac) (I:Nat->Prop),(∀ j,j<ops.size->CN.getD j false=true) ->
   RH w I φ (LR xs s λj=>CN.getD j false)->Fp w I φ (X5 ops xs s λj=>CN.getD j false) a->nt<=a.tmps.size->a.defers=a0.defers ->
   (∀ base,base<=s.hp.length->Step base (Ab s.hp) pR I0 w0 (LR xs s λj=>CN.getD j false) φ I w)->Q .normal a w:=by
  intro CN a w φ I OL hr hf hn hd hs;obtain⟨e1,e2⟩:=O3.fin (L:=λj=>CN.getD j false) (i0:=0) λj hj=>by simpa using OL j (by simpa using hj)
  unfold LR at hr hs;unfold X5 at hf;rw[e1]at hr hs;rw[e2]at hf;exact hQ a w φ I hn hd ⟨hr,hf⟩ hs
 have arS:∀ (CN:Array Bool),CN.size=ops.size->Region.ready .any ops CN=[] -> ∀ j,j<ops.size->CN.getD j false=true:=by
  intro CN hsz hr j
  induction j using Nat.strongRecOn with
  | ind j ih=>
   intro hj;cases hl:CN.getD j false with
   | true=>rfl
   | false=>
    have hjt:ops.toList[j]? = some ops[j]:=by simp[hj]
    have:j ∈ Region.ready .any ops CN:=by
     refine mem_ready.2 ⟨?_,ops[j],by simp[hj],λe he hb=>?_⟩
     ·rw[<- hl];simp[NM,hsz,hj]
     ·have:=(hto j _ hjt).1 e (by simpa using he) (by rw[aaC];exact hb);exact ih e.on (by omega) (by omega)
    rw[hr]at this;simp at this
 intro fuel
 induction fuel with
 | zero=>
  intro CN U a w φ I hsz hU hlen hc hr hf hn hd hs;have OL:∀ j,j<ops.size->CN.getD j false=true:=by
   intro j hj;cases hl:CN.getD j false with
   | true=>rfl
   | false=>have:=hU j hj hl;rw[aq.1 (Nat.le_zero.1 hlen)]at this;simp at this
  refine⟨?_,ON CN a w φ I OL hr hf hn hd hs⟩;rw[List.eq_nil_iff_forall_not_mem];intro j hj;obtain⟨h0,o,ho,_⟩:=mem_ready.1 hj;have hjl:j<ops.size:=(Vm.1 ho).1;have:=OL j hjl;simp[NM,hsz,hjl]at this h0;rw[this]at h0;cases h0
 | succ fuel ih=>
  intro CN U a w φ I hsz hU hlen hc hr hf hn hd hs;refine⟨λhe=>ON CN a w φ I (arS CN hsz he) hr hf hn hd hs,λi hi=>?_⟩;obtain⟨h0,o,ho,OL⟩:=mem_ready.1 hi;have hil:i<ops.size:=(Vm.1 ho).1;have jz:ops.toList[i]? = some o:=by rw[HV];exact ho
  have Wf:CN.getD i false=false:=by rw[<- h0];simp[NM,hsz,hil]
  have ahM:∀ e ∈ o.after.toList,Lm e=true->CN.getD e.on false=true:=λe he hb=>OL e (by simpa using he) (by rw[<- aaC];exact hb);obtain⟨x,hx⟩:∃ x,xs[i]? = some x:=⟨xs[i]'(by rw[O6];simpa using hil),BR _⟩
  obtain⟨R8,fr,len,xr,hg,ahN,auj,Ij⟩:=O3.nth (i0:=0) i o x jz hx;simp only[Ev]at ahN Ij;have back:∀ j,behind (HS ops.toList []) i j=true->CN.getD j false=true:=λj hb=>aal (L:=λj=>CN.getD j false) hc i o jz ahM hb;have yz:∀ j,j<ops.toList.length->behind (HS ops.toList []) j i=true->CN.getD j false=false:=by
   intro j hj hb;cases hl:CN.getD j false with
   | false=>rfl
   | true=>have:=aal (L:=λj=>CN.getD j false) hc j ops.toList[j] (BR hj) (hc j _ (BR hj) hl) hb;rw[Wf]at this;cases this
  have agree:∀ j,j<ops.toList.length->(i<j->behind (HS ops.toList []) j i=true)->(j<i->behind (HS ops.toList []) i j=true)->CN.getD j false=decide (j<i):=by
   intro j hj h1 h2;rcases Qg j i with h | h | h
   ·rw[back j (h2 h),Ax h]
   ·subst h;rw[Wf];simp
   ·rw[yz j hj (h1 h)];simp;omega
  have ahO:∀ t ∈ Rw ops o,∀ (j:Nat) o',ops.toList[j]? = some o'->o'.dst=some t->i ≠ j->(i<j->behind (HS ops.toList []) j i=true)/\(j<i->behind (HS ops.toList []) i j=true):=by
   intro t htn j o' e1 e2 hne;have:=(hto i o jz).2 j o' t e1 e2 htn (by omega);simp only[Ev,ordered]at this;refine⟨λh=>?_,λh=>?_⟩
   ·rwa [show Nat.blt i j=true by simpa [CW] using h]at this
   ·rwa [show Nat.blt i j=false by rw[Bool.eq_false_iff];intro e;rw[CW]at e;omega]at this
  have ahP:∀ t ∈ Rw ops o,fr t=X5 ops xs s (λj=>CN.getD j false) t:=by
   intro t htn;rw[Ij];refine(lL _ 0 _ _ (tK _ _) (λj u e hT=>?_) rfl).symm;obtain⟨o',x',e1,e2,rfl⟩:=tJ e;simp only[Ev];by_cases hne:i=j
   ·subst hne;rw[Wf];simp
   ·obtain⟨h1,h2⟩:=ahO t htn j o' e1 hT hne;exact agree j (GO.1 e1).1 h1 h2
  have QJ:∀ j,(CN.setIfInBounds i true).getD j false=(CN.getD j false||decide (j=0+i)):=by
   intro j;by_cases hj:i=j
   ·subst hj;simp[NM,hsz,hil]
   ·rw[getD_set_ne false hj,AN (show ¬ (j=0+i) by omega),Bool.or_false]
  have ahQ:(CN.setIfInBounds i true).size=ops.size:=by simpa using hsz
  have IE:wg ops.toList (λj=>(CN.setIfInBounds i true).getD j false):=by
   intro j oj ej hj e he hb;simp only[QJ]at hj ⊢;rw[Bool.or_eq_true]at hj;rcases hj with hj | hj
   ·have:=hc j oj ej hj e he hb;simp only at this;rw[this];rfl
   ·have:j=i:=by simpa using hj
    subst this;rw[jz]at ej;cases ej;rw[ahM e he hb];rfl
  have hiU:i ∈ U:=hU i hil Wf;have hU':∀ j,j<ops.size->(CN.setIfInBounds i true).getD j false=false->j ∈ U.filter (· ≠ i):=by intro j hj hl;rw[QJ,Mw]at hl;refine Gz.2 ⟨hU j hj hl.1,?_⟩;have:=hl.2;simpa using this
  have RN:(U.filter (· ≠ i)).length<=fuel:=by
   have:(U.filter (· ≠ i)).length<U.length:=by rw[List.length_filter_lt_length_iff_exists];exact⟨i,hiU,by simp⟩
   omega
  have afU:∀ t,X5 ops xs s (λj=>(CN.setIfInBounds i true).getD j false) t=R6 o.dst x.v (X5 ops xs s λj=>CN.getD j false) t:=by
   intro t;refine tI (L:=λj=>CN.getD j false) (x:=x.tmp o) _ 0 i _ (tK _ _) (aaN jz hx) (by simpa using Wf) QJ λhT j u e DC hT'=>?_;obtain⟨o',x',e1,e2,rfl⟩:=tJ e;simp only[Ev];have hn:t ∈ Rw ops o:=by have:o.dst=some t:=hT;unfold Rw;rw[this];simp
   exact yz j (GO.1 e1).1 ((ahO t hn j o' e1 hT' (by omega)).1 DC)
  have afV:(∀ b,x.e.P3 b -> ∀ (j:Nat) y,xs[j]? = some y->i<j->y.e.P3 b->behind (HS ops.toList []) j i=true) ->
    ∀ b,LR xs s (λj=>(CN.setIfInBounds i true).getD j false) b=x.e.rd (LR xs s λj=>CN.getD j false) b:=by
   intro hb b;refine tI (L:=λj=>CN.getD j false) (x:=x.mem) _ 0 i _ (ab9 _) (by simp only[R7,EO,hx,FX]) (by simpa using Wf) QJ λhT j u e DC hT'=>?_;obtain⟨y,e1,rfl⟩:=ab8 e;simp only[Ev];exact yz j (by rw[<- O6];exact(GO.1 e1).1) (hb b hT j y e1 DC hT')
  have auk:Region.wanted o (yielded ops a.tmps)=x.Jl:=mz hf (by rw[<- hg];exact ajq λt ht=>(ahP t ht).symm);have afW:=my R8 hn;unfold wpOp;rw[ho];simp only[auk];cases ahR:x.Jl with
  | false=>
   simp only[I8,Hg];have NW:=auj ahR;have hM:=afV λb hb=>by rw[NW]at hb;obtain⟨p,hp,_⟩:=hb;simp at hp
   have jA:LR xs s (λj=>(CN.setIfInBounds i true).getD j false)=LR xs s λj=>CN.getD j false:=by funext b;rw[hM b,NW];rfl
   refine ih _ _ (a.put o.dst undef) w φ I ahQ hU' RN IE (by rw[jA];exact hr) (λt=>?_) (by simpa using hn) (by simpa using hd) (by rw[jA];exact hs);rw[afU t];refine hf.ahL ?_ afW t;rw[NW];exact RV.skip _ _ _
  | true=>
   simp only[IW];refine .inl ?_;have ahS:∀ (j:Nat) y,xs[j]? = some y->i<j->we (HS ops.toList []) i x j y:=λj y e DC=>aeu hq DC hx e (pS i x hx) (pS j y e);have axj:∀ (j:Nat) y,xs[j]? = some y->j<i->we (HS ops.toList []) j y i x:=λj y e DC=>aeu hq DC e hx (pS j y e) (pS i x hx);have hM:=afV λb hb j y e DC ht=>(ahS j y e DC).1 b (.inl ⟨hb,.inl ht⟩);have Fo:∀ b,x.meet b->LR xs s (λj=>CN.getD j false) b=Gx (λj=>decide (j<i)) 0 (R7 xs) (Ab s.hp) b:=by intro b hb;refine lL _ 0 _ _ (ab9 _) (λj u e hT=>?_) rfl;obtain⟨y,e1,rfl⟩:=ab8 e;simp only[Ev];exact agree j (by rw[<- O6];exact(GO.1 e1).1) (λh=>(ahS j y e1 h).1 b (.inr ⟨hT,hb⟩)) (λh=>(axj j y e1 h).1 b (.inl ⟨hT,hb⟩))
   have hfit:x.e.fits (Gx (λj=>decide (j<i)) 0 (R7 xs) (Ab s.hp)) (LR xs s λj=>CN.getD j false):=by
    cases he:x.e with
    | wr l=>exact λp hp=>Fo p.1 (.inl (by rw[he];exact⟨p,hp,rfl⟩))
    | full h'=>show LR xs s _=_;funext b;exact Fo b (.inl (by rw[he];exact trivial))
   refine ahN ahR _ a w φ I (λb hb=>Fo b (.inr hb)) hfit hr (λy hy=>?_) _ Q λu w' φ' I' b1 b2 b3 b4=>?_
   ·rw[ajG (λt ht=>ahP t ht) hy];exact hf.eval y
   ·have jA:LR xs s (λj=>(CN.setIfInBounds i true).getD j false)=x.e.rd (LR xs s λj=>CN.getD j false):=funext hM;refine ih _ _ (a.put o.dst u) w' φ' I' ahQ hU' RN IE (by rw[jA];exact b2) (λt=>?_) (by simpa using hn) (by simpa using hd) (λbase hb=>by rw[jA];exact(hs base hb).trans (b3 base (CI hb xr)));rw[afU t];exact(hf.step hr (b3 0 (Bu _)) b4).ahL b1 afW t
def abj(Bh:DH P env)(hrun:EN P run)(hm:P.follows .mixedOrders=true){id:Nat}{draw:Bool}{k:St->Option R}(A8:AD (.region id ops draw)=true)
  (h:KY env run nt ops draw ops.toList 0 [] s k=some r) :
  ∃ s',k s'=some r/\s.hp.length<=s'.hp.length /\ ∀ (w:World) (I:Nat->Prop) (φ:Ac) (a:Act),BC w I φ s a->nt<=a.tmps.size -> ∀ Q:Exit->Act->World->Prop,
   (∀ a' w' φ' I',nt<=a'.tmps.size->a'.defers=a.defers->BC w' I' φ' s' a'->(∀ base,base<=s.hp.length->Step base (Ab s.hp) φ I w (Ab s'.hp) φ' I' w')->Q .normal a' w')->(Code.region id ops draw).wp P Q a w:=by
 cases draw with
 | false=>obtain⟨s',h1,h2,h3⟩:=abg Bh hrun _ _ _ _ _ h;exact⟨s',h1,h2,λw I φ a hs ha Q hQ=>wp_region_list (h3 w I φ a hs ha Q hQ)⟩
 | true=>
  have ht:vh ops=true:=by simpa [AD] using A8
  obtain⟨xs,s',s2,h1,hf2,ji,h2,h3⟩:=ala Bh hrun _ _ _ _ s _ rfl rfl h;refine⟨s2,h1,by rw[ji];exact h2.length.2,λw I φ a hs ha Q hQ2=>wp_region_any hm ?_⟩;have hQ:∀ a' w' φ' I',nt<=a'.tmps.size->a'.defers=a.defers->BC w' I' φ' s' a'->(∀ base,base<=s.hp.length->Step base (Ab s.hp) φ I w (Ab s'.hp) φ' I' w')->Q .normal a' w':=
   λa' w' φ' I' c1 c2 c3 c4=>hQ2 a' w' φ' I' c1 c2 ⟨by rw[ji];exact c3.hh,by rw[hf2];exact c3.fr⟩ (by rw[ji];exact c4)
  have hdr:=hs.hh.drew (base:=0);have hL:∀ j,(Array.replicate ops.size false).getD j false=false:=λj=>by simp only[NM,Array.getElem?_replicate];split <;> rfl
  have e1:LR xs s (λj=>(Array.replicate ops.size false).getD j false)=Ab s.hp:=lM _ 0 _ λj=>hL _;have e2:X5 ops xs s (λj=>(Array.replicate ops.size false).getD j false)=Bb s.fr:=lM _ 0 _ λj=>hL _;refine amJ (a0:=a) (w0:=w) (pR:=φ) (I0:=I) ht h2 h3 hQ ops.size _ (List.range ops.size) a w.drew φ I (by simp) (λj hj _=>by simpa using hj) (by simp) (λj o _ hj=>by have hj:(Array.replicate ops.size false).getD j false=true:=hj;rw[hL]at hj;cases hj) (by rw[e1];exact hdr.1) (λt=>?_) ha rfl λbase _=>by rw[e1];exact(hs.hh.drew base).2
  rw[e2];exact hs.fr.step hs.hh hdr.2 (Ac.le_refl _) t
end
end
section
variable {R:Type}
def apd{w:World}{I:Nat->Prop}{φ:Ac}{s:St}{a:Act}{t:Nat}{v:AV}{l:List Nat}(hs:BC w I φ s a)(h:NA depth (Ab s.hp) (Bb s.fr t)=some (v,l,true)) :
  ∃ I' φ',BC w I' φ' {fr:=(t,v)::s.fr,hp:=RI s.hp (l.map λb=>(b,frozen (Ab s.hp b)))} a /\
   ∀ base,base<=s.hp.length->Step base (Ab s.hp) φ I w (Ab (RI s.hp (l.map λb=>(b,frozen (Ab s.hp b))))) φ' I' w:=by
 obtain⟨hl,hv⟩:=(ZW hs.hh depth).1 _ _ _ h λ_ _=>rfl;have hlt:∀ B,(I B\/Ft φ l B)->B<w.heap.size:=λB hB=>hB.elim (hs.hh.lt B) (Xr hs.hh hl);obtain⟨BO,_,le,Jj,st⟩:=hs.hh.merge (w':=w) (I2:=λB=>I B\/Ft φ l B) (φ':=Ac.no) (bs:=[]) (nx:=s.hp.length) (t:=true) (rch:=l) hl (λi hi=>by simp at hi) (Ext.refl _ _)
  (λB hB=>.inl hB) (λB hB=>hB.elim .inl λh=>.inr (.inl ⟨rfl,h⟩)) (λ_ B hB=>.inr hB) (RH.empty w _ hlt) (λB hB=>(Fw hB).elim) (λB Ep hB=>hB.elim (λx=>by have:=hlt B x;omega) λx=>(Fw x).elim) (Ab s.hp) (λ_ _=>rfl)
 have e:Ee (Ab s.hp) ((bif true then l.map λb=>(b,frozen (Ab s.hp b))else [])++imports s.hp.length 0 (([]:Heap).map (Ch (shift s.hp.length ([]:Heap).length))))=Ab (RI s.hp (l.map λb=>(b,frozen (Ab s.hp b)))):=by rw[tj];show Ee (Ab s.hp) ((l.map λb=>(b,frozen (Ab s.hp b)))++[])=_;rw[FY]
 rw[e]at Jj;refine⟨_,BO,⟨Jj,λt'=>?_⟩,λbase hb=>by have:=st base hb;rw[e]at this;exact this⟩;have Kf:=st 0 (Bu _);rw[e]at Kf;have Bc:Fp w (λB=>I B\/Ft φ l B) BO (Bb s.fr) a:=hs.fr.step hs.hh Kf le;by_cases ht:t'=t
 ·subst ht;have:=hv (λB=>I B\/Ft φ l B) (λB hB=>.inl hB) (λB hB=>.inr hB) _ (hs.fr t');have e2:Bb ((t',v)::s.fr) t'=v:=by simp[Bb]
  rw[e2];exact this.mono (λB hB=>⟨hB,rfl⟩) (λ_=>Ar _) (Ac.IZ _)
 ·have hbq:Nat.beq t t'=false:=by
   cases hq:Nat.beq t t' with
   | false=>rfl
   | true=>exact absurd (BN hq).symm ht
  have e2:Bb ((t,v)::s.fr) t'=Bb s.fr t':=by simp only[Bb,hbq,Aj]
  show RV _ _ _ (Bb ((t,v)::s.fr) t') _;rw[e2];exact Bc t'
def RH.aev{w:World}{I:Nat->Prop}{φ:Ac}{rd:Nat->BS}(h:RH w I φ rd){b:Nat}{x:BS}(hl:live (rd b)=true)(QF:live x=true)(hm:AZ x=AZ (rd b))(hp:Gv (rd b)->Gv x)
  (hx:∀ B o sz,RB w I φ B o sz (rd b)->RB w I φ B o sz x):RH w I φ (BU rd b x) /\ ∀ base,Step base rd φ I w (BU rd b x) φ I w:=by
 have QK:∀ b',AZ (BU rd b x b')=AZ (rd b'):=λb'=>by
  by_cases e:b'=b
  ·subst e;rw[DL];exact hm
  ·rw[C0 _ _ e]
 have QG:∀ b',live (BU rd b x b')=live (rd b'):=λb'=>by
  by_cases e:b'=b
  ·subst e;rw[DL,QF,hl]
  ·rw[C0 _ _ e]
 refine⟨⟨λb' e=>?_,λb' e=>?_,λb1 b2 B o s o' s' h1 h2=>h.inj b1 b2 B o s o' s' (QK b1 ▸ h1) (QK b2 ▸ h2),λb' B o s h1=>h.CP b' B o s (QK b' ▸ h1),λb' B o s h1 h2=>h.Ea b' B o s (QG b' ▸ h1) (QK b' ▸ h2),h.lt⟩,
  λbase=>Step.of (λ_ _ _ e=>e) (λ_ hB=>hB) (λ_ hB=>.inl hB) (λB ⟨b',o,s,h1,e⟩=>.inl ⟨b',o,s,QK b' ▸ h1,e⟩) (Ext.refl _ _) (GF.refl _)⟩
 ·by_cases e':b'=b
  ·subst e';rw[DL]at e;subst e;cases QF
  ·rw[C0 _ _ e']at e;exact h.none b' e
 ·by_cases e':b'=b
  ·subst e';rw[DL];rcases h.CY b' hl with ⟨B,o,s,e1,r⟩ | ⟨e1,O4⟩
   ·exact .inl ⟨B,o,s,e1,hx B o s r⟩
   ·exact .inr ⟨e1,hp O4⟩
  ·rw[C0 _ _ e']at e ⊢;exact h.CY b' e
def amK{w:World}{I:Nat->Prop}{φ:Ac}{s:St}{a:Act}(sz t:Nat)(h:BC w I φ s a) :
  BC w I φ (XE sz t s) a/\s.hp.length<=(XE sz t s).hp.length /\ ∀ base,Step base (Ab s.hp) φ I w (Ab (XE sz t s).hp) φ I w:=by
 unfold XE;split
 ·rename_i hn;have hg:Ab (Fm s.hp s.hp.length (.seq true sz 0 λ_=>[]))=BU (Ab s.hp) s.hp.length (.seq true sz 0 λ_=>[]):=funext λb=>ZS _ _ _ _;have hp:=h.hh.TJ (nx:=s.hp.length) (Gw (Ar _)) true sz (λ_=>[]);refine⟨⟨by rw[hg];exact hp.1,λt'=>?_⟩,Xb _ _ _,λbase=>by rw[hg];exact hp.2 base⟩;by_cases ht:t'=t
  ·subst ht;have e2:Bb ((t',AV.sn sz s.hp.length 0)::s.fr) t'=.sn sz s.hp.length 0:=by simp[Bb]
   rw[e2];have:=h.fr t';rw[hn]at this;have key:∀ u,RV w I φ .Ak u->RV w I φ (.sn sz s.hp.length 0) u:=λu h=>by cases h;exact .DT _ _ _
   exact key _ this
  ·have hbq:Nat.beq t t'=false:=by
    cases hq:Nat.beq t t' with
    | false=>rfl
    | true=>exact absurd (BN hq).symm ht
   have e2:Bb ((t,AV.sn sz s.hp.length 0)::s.fr) t'=Bb s.fr t':=by simp only[Bb,hbq,Aj]
   show RV _ _ _ (Bb ((t,AV.sn sz s.hp.length 0)::s.fr) t') _;rw[e2];exact h.fr t'
 ·exact⟨h,Ar _,λ_=>Step.refl _ _ _ _ _⟩
def uq{w:World}{I:Nat->Prop}{φ:Ac}{a:Act}:∀ (l:List Nat) (s:St),BC w I φ s a ->
  BC w I φ (RJ l s) a/\s.hp.length<=(RJ l s).hp.length /\ ∀ base,Step base (Ab s.hp) φ I w (Ab (RJ l s).hp) φ I w
 | [],s,h=>⟨h,Ar _,λ_=>Step.refl _ _ _ _ _⟩
 | x::r,s,h=>by
  unfold RJ;cases Nat.beq (x / 1000000) 0 with
  | true=>exact uq r s h
  | false=>rw[Aj];obtain⟨h1,h2,h3⟩:=amK (x / 1000000) (x / 1000 % 1000) h;obtain⟨g1,g2,g3⟩:=uq r _ h1;exact⟨g1,CI h2 g2,λbase=>(h3 base).trans (g3 base)⟩
def alb(sz t:Nat)(s:St):s.hp.length<=(XE sz t s).hp.length:=by
 unfold XE;split
 ·exact Xb _ _ _
 ·exact Ar _
def tL:∀ (l:List Nat) (s:St),s.hp.length<=(RJ l s).hp.length
 | [],s=>Ar _
 | x::r,s=>by
  unfold RJ;cases Nat.beq (x / 1000000) 0 with
  | true=>exact tL r s
  | false=>exact CI (alb _ _ s) (tL r _)
def amL{w:World}{I:Nat->Prop}{φ:Ac}{s:St}{a:Act}(x:Nat)(h:BC w I φ s a) :
  BC w I φ (aC x s) a /\ ∀ base,Step base (Ab s.hp) φ I w (Ab (aC x s).hp) φ I w:=by
 unfold aC;split
 ·rename_i sz cs hb;split
  ·rename_i hc;have hg1:Ab (Fm s.hp s.hp.length (.seq true (x / 1000000) 0 λ_=>[]))=BU (Ab s.hp) s.hp.length (.seq true (x / 1000000) 0 λ_=>[]):=funext λb=>ZS _ _ _ _;have hp:=h.hh.TJ (nx:=s.hp.length) (Gw (Ar _)) true (x / 1000000) (λ_=>[]);have hne:x / 1000 % 1000 ≠ s.hp.length:=by
    intro e;rw[e,Gw (Ar _)]at hb;cases hb
   have hb2:BU (Ab s.hp) s.hp.length (.seq true (x / 1000000) 0 λ_=>[]) (x / 1000 % 1000)=.arr true sz [cs]:=by rw[C0 _ _ hne];exact hb
   have hw:=hp.1.aev (b:=x / 1000 % 1000) (x:=.arr true sz [cs.set (x % 1000) (.sn (x / 1000000) s.hp.length 0)]) (by rw[hb2];rfl) rfl (by rw[hb2];rfl) (by rw[hb2];exact id) (λB o z r=>by
    rw[hb2]at r;obtain⟨r1,r2,r3,r4⟩:=r;have one:∀ {c':List AV} {i:Nat} {A3:List AV},[c'][i]? = some A3->i=0/\A3=c':=by
     intro c' i A3 e;cases i with
     | zero=>simp at e;exact⟨rfl,e.symm⟩
     | succ i=>simp at e
    refine⟨r1,r2,λi A3 e=>?_,λi A3 k c e e'=>?_⟩
    ·obtain⟨rfl,rfl⟩:=one e;rw[XD];exact r3 0 cs rfl
    ·obtain⟨rfl,rfl⟩:=one e;rw[List.getElem?_set]at e';split at e'
     ·rename_i hk;subst hk;split at e'
      ·cases e';obtain⟨u,a1,a2,a3⟩:=r4 0 cs (x % 1000) _ rfl hc;refine⟨u,a1,a2,?_⟩;cases a3;exact .DT _ _ _
      ·cases e'
     ·exact r4 0 cs k c rfl e')
   have O0:Ab (Fm (Fm s.hp s.hp.length (.seq true (x / 1000000) 0 λ_=>[])) (x / 1000 % 1000) (.arr true sz [cs.set (x % 1000) (.sn (x / 1000000) s.hp.length 0)])) =
     BU (BU (Ab s.hp) s.hp.length (.seq true (x / 1000000) 0 λ_=>[])) (x / 1000 % 1000) (.arr true sz [cs.set (x % 1000) (.sn (x / 1000000) s.hp.length 0)]):=funext λb=>by rw[ZS,hg1]
   refine⟨⟨by rw[O0];exact hw.1,h.fr⟩,λbase=>?_⟩;rw[O0];exact(hp.2 base).trans (hw.2 base)
  ·exact⟨h,λ_=>Step.refl _ _ _ _ _⟩
 ·exact⟨h,λ_=>Step.refl _ _ _ _ _⟩
def alc(x:Nat)(s:St):s.hp.length<=(aC x s).hp.length:=by
 unfold aC;split
 ·split
  ·exact CI (Xb _ _ _) (Xb _ _ _)
  ·exact Ar _
 ·exact Ar _
def mX{r:R}:∀ (l:List Nat) (s:St) (k:St->Option R),bj l s k=some r -> ∃ s',k s'=some r/\s.hp.length<=s'.hp.length /\ ∀ w I φ a,BC w I φ s a ->
  ∃ I' φ',BC w I' φ' s' a /\ ∀ base,base<=s.hp.length->Step base (Ab s.hp) φ I w (Ab s'.hp) φ' I' w
 | [],s,k,h=>⟨s,h,Ar _,λw I φ a hs=>⟨I,φ,hs,λbase _=>Step.refl _ _ _ _ _⟩⟩
 | t::l,s,k,h=>by
  unfold bj at h;cases V6:!Nat.beq (t / 1000000) 0 with
  | true=>rw[V6,Ae]at h;obtain⟨s',h1,h2,h3⟩:=mX l _ k h;have hlen:=alc t s;refine⟨s',h1,CI hlen h2,λw I φ a hs=>?_⟩;obtain⟨n1,n2⟩:=amL t hs;obtain⟨I2,BO,m1,m2⟩:=h3 w I φ a n1;exact⟨I2,BO,m1,λbase hb=>(n2 base).trans (m2 base (CI hb hlen))⟩
  | false=>
  rw[V6,Aj]at h;split at h
  ·rename_i v bl g hg;cases g with
   | false=>cases h
   | true=>rw[Ae]at h;obtain⟨s',h1,h2,h3⟩:=mX l _ k h;have hlen:=UI (bl.map λb=>(b,frozen (Ab s.hp b))) s.hp;refine⟨s',h1,CI hlen h2,λw I φ a hs=>?_⟩;obtain⟨I1,Dd,n1,n2⟩:=apd hs hg;obtain⟨I2,BO,m1,m2⟩:=h3 w I1 Dd a n1;exact⟨I2,BO,m1,λbase hb=>(n2 base hb).trans (m2 base (CI hb hlen))⟩
  ·cases h
end
section
variable {R:Type}
def AX.x:AX->Exit
 | .normal=>.normal
 | .exit id=>.exit id
 | .goto l=>.goto l
 | .ret=>.ret
def bo(nt base:Nat)(s:St)(w:World)(I:Nat->Prop)(φ:Ac)(a:Act)(s':St)(Q:Act->World->Prop):Prop:=
 ∀ a' w' φ' I',nt<=a'.tmps.size->a'.defers=a.defers->BC w' I' φ' s' a'->Step base (Ab s.hp) φ I w (Ab s'.hp) φ' I' w'->Q a' w'
def Bg(X:(Exit->Act->World->Prop)->Act->World->Prop)(nt base:Nat)(s:St)(e:AX)(s':St):Prop:=
 base<=s.hp.length->base<=s'.hp.length /\ ∀ w I φ a,BC w I φ s a->nt<=a.tmps.size -> ∀ Q,bo nt base s w I φ a s' (Q e.x)->X Q a w
def bo.after{nt base:Nat}{s s1 s2:St}{w w1:World}{I I1:Nat->Prop}{φ Dd:Ac}{a a1:Act}{Q:Act->World->Prop}(h:bo nt base s w I φ a s2 Q)(hd:a1.defers=a.defers)
  (hs:Step base (Ab s.hp) φ I w (Ab s1.hp) Dd I1 w1):bo nt base s1 w1 I1 Dd a1 s2 Q:=
 λa' w' φ' I' h1 h2 h3 h4=>h a' w' φ' I' h1 (h2.trans hd) h3 (hs.trans h4)
section
variable {P:Program}
def Ud(P:Program)(c:Code)(Q:Exit->Act->World->Prop)(a:Act)(w:World):Prop:=
 ∀ (b:Frame) (k:List Item) (cs:List Frame),∃ e a' w',Q e a' w'/\Arrives P (lone (b.at a (.code c :: .inLoop c::k)) cs w) b k cs e a' w'
def mA{c:Code}{Q:Exit->Act->World->Prop}{a:Act}{w:World}(h:Ud P c Q a w):(Code.loop c).wp P Q a w:=λb k cs=>
 let ⟨e,a',w',hq,JK⟩:=h b k cs;⟨e,a',w',hq,.of_steps (.one step_loop) JK⟩
def ZY{c:Code}{Q:Exit->Act->World->Prop}{a:Act}{w:World}(h:c.wp P (Exit.then (Ud P c Q) Q) a w):Ud P c Q a w:=by
 intro b k cs;obtain⟨e,OO,OP,hq,JK⟩:=h b (.inLoop c::k) cs;cases e with
 | normal=>obtain⟨yA,yB,yC,xu,vj⟩:=hq b k cs;exact⟨yA,yB,yC,xu,.of_steps (Steps.trans JK (.one step_inLoop)) vj⟩
 | exit id=>exact⟨_,OO,OP,hq,.pass (x:=.inLoop c) rfl (λ_ _=>.inl (by simp)) JK⟩
 | goto l=>exact⟨_,OO,OP,hq,.pass (x:=.inLoop c) rfl (λ_ _=>.inl (by simp)) JK⟩
 | ret=>exact⟨_,OO,OP,hq,.pass (x:=.inLoop c) rfl (λ_ _=>.inl (by simp)) JK⟩
 | panic ch=>exact⟨_,OO,OP,hq,.pass (x:=.inLoop c) rfl (λ_ _=>.inl (by simp)) JK⟩
 | outgrown=>exact⟨_,OO,OP,hq,.pass (x:=.inLoop c) rfl (λ_ _=>.inl (by simp)) JK⟩
def wpS(P:Program)(c rest:Code)(Q:Exit->Act->World->Prop)(a:Act)(w:World):Prop:=
 ∀ (b:Frame) (k:List Item) (cs:List Frame),∃ e a' w',Q e a' w'/\Arrives P (lone (b.at a (.code rest :: .inScope c::k)) cs w) b k cs e a' w'
def ald{c:Code}{Q:Exit->Act->World->Prop}{a:Act}{w:World}(h:wpS P c c Q a w):(Code.scope c).wp P Q a w:=λb k cs=>
 let ⟨e,a',w',hq,JK⟩:=h b k cs;⟨e,a',w',hq,.of_steps (.one step_scope) JK⟩
def gp(P:Program)(c:Code)(Q:Exit->Act->World->Prop):Exit->Act->World->Prop
 | .goto l,a,w=>match findLabel c l with
  | some rest=>wpS P c rest Q a w
  | none=>Q (.goto l) a w
 | e,a,w=>Q e a w
def aca{c rest:Code}{Q:Exit->Act->World->Prop}{a:Act}{w:World}(h:rest.wp P (gp P c Q) a w):wpS P c rest Q a w:=by
 intro b k cs;obtain⟨e,OO,OP,hq,JK⟩:=h b (.inScope c::k) cs;cases e with
 | normal=>exact⟨.normal,OO,OP,hq,Steps.trans JK (.one step_inScope)⟩
 | exit id=>exact⟨.exit id,OO,OP,hq,λk' hk=>JK k' (by simp[exitTo,hk])⟩
 | goto l=>
  simp only[gp]at hq;cases hf:findLabel c l with
  | none=>rw[hf]at hq;exact⟨.goto l,OO,OP,hq,λk' hk=>JK k' (by simp[gotoIn,hf,hk])⟩
  | some r'=>rw[hf]at hq;obtain⟨yA,yB,yC,xu,vj⟩:=hq b k cs;exact⟨yA,yB,yC,xu,.of_steps (JK _ (by simp[gotoIn,hf])) vj⟩
 | ret=>exact⟨_,OO,OP,hq,JK⟩
 | panic ch=>exact⟨_,OO,OP,hq,JK⟩
 | outgrown=>exact⟨_,OO,OP,hq,JK⟩
def acb(ρ:Nat->Option Nat)(g:Nat->AV)(t:Nat):∀ live:List Nat,Bb (live.map λt=>(t,BX ρ (g t))) t=BX ρ (g t)\/Bb (live.map λt=>(t,BX ρ (g t))) t=.undef
 | []=>.inr rfl
 | x::r=>by
  simp only[NP,Bb];cases h:Nat.beq x t with
  | true=>left;rw[Ae,BN h]
  | false=>rw[Aj];exact acb ρ g t r
def amM{w:World}{I:Nat->Prop}{φ:Ac}{s:St}{a:Act}(base:Nat)(live:List Nat)(h:BC w I φ s a)(hb:base<=s.hp.length) :
  base<=(OB base live s).hp.length /\ ∃ φ',BC w I φ' (OB base live s) a/\Step base (Ab s.hp) φ I w (Ab (OB base live s).hp) φ' I w:=by
 obtain⟨hd,t,ht⟩:=ZX (Ab s.hp) MH ((s.hp.take base).flatMap kids++Hb (live.map λt=>Bb s.fr t)) (List.range base) (Ha.range base);have hhp:(OB base live s).hp=Ju (reach MH (Ab s.hp) ((s.hp.take base).flatMap kids++Hb (live.map λt=>Bb s.fr t)) (List.range base)) (Ab s.hp):=rfl;have Ij:(OB base live s).fr=live.map λt=>(t,BX (λb=>indexOf b (reach MH (Ab s.hp) ((s.hp.take base).flatMap kids++Hb (live.map λt=>Bb s.fr t)) (List.range base)) 0) (Bb s.fr t)):=rfl;generalize reach MH (Ab s.hp) ((s.hp.take base).flatMap kids++Hb (live.map λt=>Bb s.fr t)) (List.range base)=ids at *;refine⟨by rw[hhp];simp[Ju,ht],Ke ids φ,⟨by rw[hhp];exact h.hh.aG hd,λt=>?_⟩,Step.of (λb p hb e=>?_) (λ_ hB=>hB) (λ_ hB=>.inl hB) (λB hB=>.inl ?_) (Ext.refl _ _) (GF.refl _)⟩
 ·rw[Ij];rcases acb (λb=>indexOf b ids 0) (Bb s.fr) t live with e | e
  ·rw[e];exact(h.fr t).BX λb b'=>eY b b'
  ·rw[e];exact .undef _
 ·have:ids[b]? = some b:=by
   rw[ht,DY (by simpa using hb),Mx hb]
  simp[Ke,this,e]
 ·rw[hhp]at hB;exact ZU hB
def mB(m:Bool)(sz:Nat)(es:List (List AV)):Vr (.arr m sz es)=bif es.all (λcs=>cs.all Ed)then .seq m sz es.length (λi=>es.getD i (es.getD 0 []))else .arr m sz es:=rfl
def acd(x:BS):AZ (Vr x)=AZ x:=by
 cases x with
 | arr m sz es=>rw[mB];cases es.all (λcs=>cs.all Ed) <;> rfl
 | map m es=>cases es <;> rfl
 | _=>rfl
def ale(x:BS):live (Vr x)=live x:=by
 cases x with
 | arr m sz es=>rw[mB];cases es.all (λcs=>cs.all Ed) <;> rfl
 | map m es=>cases es <;> rfl
 | _=>rfl
def ajr{x:BS}(h:Gv x):Gv (Vr x):=by cases x <;> first | exact h | exact h.elim
def alf{x:BS}(h:Vr x=.none):x=.none:=by
 cases x with
 | arr m sz es=>rw[mB]at h;cases hc:es.all (λcs=>cs.all Ed) <;> rw[hc]at h <;> cases h
 | map m es=>cases es <;> cases h
 | none=>rfl
 | _=>cases h
def ape{w:World}{I:Nat->Prop}{φ:Ac}{B o sz:Nat}{x:BS}(h:RB w I φ B o sz x):RB w I φ B o sz (Vr x):=by
 cases x <;> try exact h
 case map m es=>
  cases es with
  | cons p r=>exact h
  | nil=>obtain⟨h1,h2,mes,clock,h3,h4,_,h6⟩:=h;have e0:∀ (i:Nat),mes[i]? = none:=λi=>JB (by simp at h4;simp[h4]);exact⟨h1,h2,mes,clock,h3,h4,λi s e a=>by simp at a,λi e a=>(by rw[e0]at a;cases a),λi j e e' _ a=>(by rw[e0]at a;cases a),λi j s a=>by simp at a⟩
 rename_i m s es;rw[mB];cases hc:es.all (λcs=>cs.all Ed)with
 | false=>exact h
 | true=>
  obtain⟨h1,h2,h3,h4⟩:=h;have at':∀ i,i<es.length->es[i]? = some (es.getD i (es.getD 0 [])):=λi hi=>by simp[List.getD,BR hi]
  refine⟨h1,h2,λi hi=>h3 i _ (at' i hi),λi k c hi hk=>?_⟩;obtain⟨u,g1,g2,g3⟩:=h4 i _ k c (at' i hi) hk;have hf:=HA.1 hc _ (Dy (at' i hi));exact⟨u,g1,g2,g3.free (HA.1 hf _ (Dy hk))⟩
def Xj:∀ (k:Nat) (h:Heap) (b:Nat),Ab (Qi k h) b=Ab h b\/Ab (Qi k h) b=Vr (Ab h b)
 | k,[],b=>by cases k <;> exact .inl rfl
 | 0,x::r,0=>.inr rfl
 | 0,x::r,b+1=>.inl rfl
 | k+1,x::r,0=>.inl rfl
 | k+1,x::r,b+1=>Xj k r b
def ur:∀ (k:Nat) (h:Heap),(Qi k h).length=h.length
 | k,[]=>by cases k <;> rfl
 | 0,x::r=>rfl
 | k+1,x::r=>by simp[Qi,ur k r]
def apf{w:World}{I:Nat->Prop}{φ:Ac}{h:Heap}(k:Nat)(hh:RH w I φ (Ab h)):RH w I φ (Ab (Qi k h)):=by
 have hm:∀ b,AZ (Ab (Qi k h) b)=AZ (Ab h b):=λb=>by rcases Xj k h b with e | e <;> rw[e];exact acd _
 have hl:∀ b,live (Ab (Qi k h) b)=live (Ab h b):=λb=>by rcases Xj k h b with e | e <;> rw[e];exact ale _
 refine⟨λb e=>hh.none b ?_,λb e=>?_,λb b' B o sz o' sz' e e'=>hh.inj b b' B o sz o' sz' (by rw[<- hm];exact e) (by rw[<- hm];exact e'),λb B o sz e=>hh.CP b B o sz (by rw[<- hm];exact e),λb B o sz e e'=>hh.Ea b B o sz (by rw[<- hl];exact e) (by rw[<- hm];exact e'),hh.lt⟩
 ·rcases Xj k h b with e' | e'
  ·rw[<- e'];exact e
  ·rw[e']at e;exact alf e
 ·rw[hl]at e;rcases hh.CY b e with ⟨B,o,sz,e1,r⟩ | ⟨e1,hp⟩
  ·refine .inl ⟨B,o,sz,e1,?_⟩;rcases Xj k h b with e' | e' <;> rw[e']
   ·exact r
   ·exact ape r
  ·refine .inr ⟨e1,?_⟩;rcases Xj k h b with e' | e' <;> rw[e']
   ·exact hp
   ·exact ajr hp
def amN{φ:Ac}{h:Heap}{k B:Nat}(hm:Ca φ (Ab (Qi k h)) B):Ca φ (Ab h) B:=by
 obtain⟨b,o,sz,e,e'⟩:=hm;refine⟨b,o,sz,?_,e'⟩;rcases Xj k h b with e2 | e2
 ·rw[<- e2];exact e
 ·rw[e2,acd]at e;exact e
def vk{w:World}{I:Nat->Prop}{φ:Ac}:∀ (l:List Nat) (h:Heap),RH w I φ (Ab h)->RH w I φ (Ab (Qj l h))/\(Qj l h).length=h.length /\ ∀ B,Ca φ (Ab (Qj l h)) B->Ca φ (Ab h) B
 | [],h,hh=>⟨hh,rfl,λ_ e=>e⟩
 | t::r,h,hh=>by
  unfold Qj;cases Nat.beq (t / 1000) 0 with
  | true=>exact vk r h hh
  | false=>simp only[Aj];obtain⟨h1,h2,h3⟩:=vk r (Qi (t % 1000) h) (apf _ hh);exact⟨h1,h2.trans (ur _ _),λB hB=>amN (h3 B hB)⟩
def ace{w:World}{I:Nat->Prop}{φ:Ac}{s:St}{a:Act}(base:Nat)(live:List Nat)(h:BC w I φ s a)(hb:base<=s.hp.length) :
  base<=(XF base live s).hp.length /\ ∃ φ',BC w I φ' (XF base live s) a/\Step base (Ab s.hp) φ I w (Ab (XF base live s).hp) φ' I w:=by
 obtain⟨h1,φ',h2,h3⟩:=amM base live h hb;obtain⟨g1,g2,g3⟩:=vk live (OB base live s).hp h2.hh;refine⟨by show base<=(Qj live (OB base live s).hp).length;rw[g2];exact h1,φ',⟨g1,h2.fr⟩,⟨h3.le,h3.F8,h3.F3,λB hB=>h3.mt B (g3 B hB),h3.ext,λB hB hy=>h3.ok B (hB.imp id (g3 B)) hy⟩⟩
def Rp{w:World}{I:Nat->Prop}{φ:Ac}{s:St}{a:Act}(base:Nat)(live:List Nat)(h:BC w I φ s a)(hb:base<=s.hp.length) :
  base<=(norm base live s).hp.length /\ ∃ φ',BC w I φ' (norm base live s) a/\Step base (Ab s.hp) φ I w (Ab (norm base live s).hp) φ' I w:=by
 obtain⟨h1,h2,h3⟩:=uq live s h;obtain⟨g1,φ',g2,g3⟩:=ace base live h1 (CI hb h2);exact⟨g1,φ',g2,(h3 base).trans g3⟩
end
section
variable {P:Program} {env:Env} {run:Gh R} {r:R} {nt n base fn:Nat}
def wh(P:Program)(nt base:Nat)(jump:Code->Nat->OD R):Prop:=
 ∀ a l k s r,AD a=true->jump a l k s=some r -> ∃ rest e s',findLabel a l=some rest/\k e s'=some r/\Bg (wpS P a rest) nt base s e s'
def aaO{base:Nat}{live:List Nat}{s:St}(hb:base<=s.hp.length):base<=(OB base live s).hp.length:=by obtain⟨_,t,ht⟩:=ZX (Ab s.hp) MH ((s.hp.take base).flatMap kids++Hb (live.map λt=>Bb s.fr t)) (List.range base) (Ha.range base);show base<=(Ju (reach MH (Ab s.hp) ((s.hp.take base).flatMap kids++Hb (live.map λt=>Bb s.fr t)) (List.range base)) (Ab s.hp)).length;rw[ht];simp[Ju]
def mC:∀ (l:List Nat) (h:Heap),(Qj l h).length=h.length
 | [],h=>rfl
 | t::r,h=>by
  unfold Qj;cases Nat.beq (t / 1000) 0 with
  | true=>exact mC r h
  | false=>simp only[Aj];exact(mC r _).trans (ur _ _)
def ZV{base:Nat}{live:List Nat}{s:St}(hb:base<=s.hp.length):base<=(norm base live s).hp.length:=by show base<=(Qj live (OB base live (RJ live s)).hp).length;rw[mC];exact aaO (CI hb (tL live s))
def aaP{jump:Code->Nat->OD R}(hj:wh P nt base jump){x:Code}(A8:AD x=true){e1:AX}{s1:St}{k:AX->St->Option R}
  (h:(match e1 with
   | .goto l=>match findLabel x l with
    | some _=>jump x l k (norm base (env.live fn (1000+l)) s1)
    | .none=>k (.goto l) s1
   | e=>k e s1)=some r) :
  ∃ e s',k e s'=some r/\(base<=s1.hp.length->base<=s'.hp.length /\ ∀ w I φ a,BC w I φ s1 a->nt<=a.tmps.size -> ∀ Q,bo nt base s1 w I φ a s' (Q e.x)->gp P x Q e1.x a w):=by
 cases e1 with
 | goto l=>
  simp only at h;cases hf:findLabel x l with
  | none=>rw[hf]at h;refine⟨_,s1,h,λhb=>⟨hb,λw I φ a hs ha Q hQ=>?_⟩⟩;simp only[AX.x,gp,hf];exact hQ a w φ I ha rfl hs (Step.refl _ _ _ _ _)
  | some rest=>rw[hf]at h;obtain⟨afX,e,s',h1,h2,h3⟩:=hj _ _ _ _ _ A8 h;rw[hf]at h1;cases h1;refine⟨e,s',h2,λhb=>⟨(h3 (ZV hb)).1,λw I φ a hs ha Q hQ=>?_⟩⟩;simp only[AX.x,gp,hf];obtain⟨n1,Dd,n2,n3⟩:=Rp base (env.live fn (1000+l)) hs hb;exact(h3 n1).2 w I Dd a n2 ha Q (hQ.after rfl n3)
 | normal=>exact⟨_,s1,h,λhb=>⟨hb,λw I φ a hs ha Q hQ=>hQ a w φ I ha rfl hs (Step.refl _ _ _ _ _)⟩⟩
 | exit id=>exact⟨_,s1,h,λhb=>⟨hb,λw I φ a hs ha Q hQ=>hQ a w φ I ha rfl hs (Step.refl _ _ _ _ _)⟩⟩
 | ret=>exact⟨_,s1,h,λhb=>⟨hb,λw I φ a hs ha Q hQ=>hQ a w φ I ha rfl hs (Step.refl _ _ _ _ _)⟩⟩
def ajH:∀ {c rest:Code} {l:Nat},AD c=true->findLabel c l=some rest->AD rest=true:=by
 intro c
 induction c with
 | seq a b T3 ihb=>
  intro rest l A8 h;obtain⟨h1,h2⟩:=A4 (show(AD a&&AD b)=true from A8);unfold findLabel at h;split at h
  ·rename_i afX hr;cases h;show(AD afX&&AD b)=true;rw[T3 h1 hr,h2];rfl
  ·exact ihb h2 h
 | label l'=>
  intro rest l _ h;unfold findLabel at h;split at h
  ·cases h;rfl
  ·cases h
 | _=>intro rest l _ h;simp[findLabel]at h
def adt(Bh:DH P env)(hrun:EN P run)(hm:P.follows .mixedOrders=true){jump:Code->Nat->OD R}(hj:wh P nt base jump):∀ (c:Code) (cur:Nat) (k:AX->St->Option R) (s:St) (r:R),AD c=true ->
  Hh env run fn nt n base jump cur c k s=some r -> ∃ e s',k e s'=some r/\Bg (λQ=>c.wp P Q) nt base s e s':=by
 intro c
 induction c with
 | skip=>intro cur k s r _ h;exact⟨.normal,s,h,λhb=>⟨hb,λw I φ a hs ha Q hQ=>wp_skip (hQ a w φ I ha rfl hs (Step.refl _ _ _ _ _))⟩⟩
 | region id ops draw=>intro cur k s r A8 h;unfold Hh at h;obtain⟨s0,g1,g2,g3⟩:=mX _ _ _ h;obtain⟨s',h1,h2,h3⟩:=abj Bh hrun hm (id:=id) A8 g1;refine⟨.normal,s',h1,λhb=>⟨CI hb (CI g2 h2),λw I φ a hs ha Q hQ=>?_⟩⟩;obtain⟨I1,Dd,n1,n2⟩:=g3 w I φ a hs;exact h3 w I1 Dd a n1 ha Q λa' w' φ' I' c1 c2 c3 c4=>(hQ.after rfl (n2 base hb)) a' w' φ' I' c1 c2 c3 (c4 base (CI hb g2))
 | seq x y Ys Yt=>
  intro cur k s r A8 h;obtain⟨X6,TN⟩:=A4 (show(AD x&&AD y)=true from A8);unfold Hh at h;obtain⟨e1,s1,h1,h2⟩:=Ys _ _ _ _ X6 h;cases e1 with
  | normal=>obtain⟨e2,s2,h3,h4⟩:=Yt _ _ _ _ TN h1;refine⟨e2,s2,h3,λhb=>?_⟩;obtain⟨g1,g2⟩:=h2 hb;obtain⟨g3,g4⟩:=h4 g1;refine⟨g3,λw I φ a hs ha Q hQ=>wp_seq (g2 w I φ a hs ha _ λa' w' φ' I' c1 c2 c3 c4=>?_)⟩;exact g4 w' I' φ' a' c3 c1 Q (hQ.after c2 c4)
  | exit id=>exact⟨_,s1,h1,λhb=>⟨(h2 hb).1,λw I φ a hs ha Q hQ=>wp_seq ((h2 hb).2 w I φ a hs ha _ hQ)⟩⟩
  | goto l=>exact⟨_,s1,h1,λhb=>⟨(h2 hb).1,λw I φ a hs ha Q hQ=>wp_seq ((h2 hb).2 w I φ a hs ha _ hQ)⟩⟩
  | ret=>exact⟨_,s1,h1,λhb=>⟨(h2 hb).1,λw I φ a hs ha Q hQ=>wp_seq ((h2 hb).2 w I φ a hs ha _ hQ)⟩⟩
 | cond c x y Ys Yt=>
  intro cur k s r A8 h;obtain⟨X6,TN⟩:=A4 (show(AD x&&AD y)=true from A8);unfold Hh at h;split at h
  ·rename_i b hb;have MP:∀ {w I φ a},BC w I φ s a->a.eval c=.bool b:=by
    intro w I φ a hs;have:=hs.fr.eval c;rw[hb]at this;generalize a.eval c=u at this;cases this;rfl
   cases b with
   | true=>obtain⟨e,s',h1,h2⟩:=Ys _ _ _ _ X6 h;exact⟨e,s',h1,λhb=>⟨(h2 hb).1,λw I φ a hs ha Q hQ=>wp_cond (MP hs) ((h2 hb).2 w I φ a hs ha Q hQ)⟩⟩
   | false=>obtain⟨e,s',h1,h2⟩:=Yt _ _ _ _ TN h;exact⟨e,s',h1,λhb=>⟨(h2 hb).1,λw I φ a hs ha Q hQ=>wp_cond (MP hs) ((h2 hb).2 w I φ a hs ha Q hQ)⟩⟩
  ·cases h
 | block id x ih=>
  intro cur k s r A8 h;unfold Hh at h;obtain⟨e1,s1,h1,h2⟩:=ih _ _ _ _ A8 h;cases e1 with
  | exit Jf=>
   simp only at h1;cases N1:Nat.beq Jf id with
   | true=>rw[N1,Ae]at h1;have N1:=BN N1;subst N1;refine⟨.normal,s1,h1,λhb=>⟨(h2 hb).1,λw I φ a hs ha Q hQ=>Nz ((h2 hb).2 w I φ a hs ha _ λa' w' φ' I' c1 c2 c3 c4=>?_)⟩⟩;simp only[AX.x,Exit.inBlock,IW];exact hQ a' w' φ' I' c1 c2 c3 c4
   | false=>
    rw[N1,Aj]at h1;have hne:Jf ≠ id:=λe=>by subst e;simp at N1
    refine⟨.exit Jf,s1,h1,λhb=>⟨(h2 hb).1,λw I φ a hs ha Q hQ=>Nz ((h2 hb).2 w I φ a hs ha _ λa' w' φ' I' c1 c2 c3 c4=>?_)⟩⟩;simp only[AX.x,Exit.inBlock,AE hne];exact hQ a' w' φ' I' c1 c2 c3 c4
  | normal=>exact⟨_,s1,h1,λhb=>⟨(h2 hb).1,λw I φ a hs ha Q hQ=>Nz ((h2 hb).2 w I φ a hs ha _ hQ)⟩⟩
  | goto l=>exact⟨_,s1,h1,λhb=>⟨(h2 hb).1,λw I φ a hs ha Q hQ=>Nz ((h2 hb).2 w I φ a hs ha _ hQ)⟩⟩
  | ret=>exact⟨_,s1,h1,λhb=>⟨(h2 hb).1,λw I φ a hs ha Q hQ=>Nz ((h2 hb).2 w I φ a hs ha _ hQ)⟩⟩
 | loop x ih=>
  intro cur k s r A8 h;unfold Hh at h;have key:∀ m k s r,PV (norm base (env.live fn cur)) (Hh env run fn nt n base jump cur x) m k s=some r -> ∃ e s',k e s'=some r/\Bg (Ud P x) nt base s e s':=by
   intro m
   induction m with
   | zero=>intro k s r h;cases h
   | succ m ihm=>
    intro k s r h;unfold PV at h;obtain⟨e1,s1,h1,h2⟩:=ih _ _ _ _ A8 h;have main:∀ (e:AX) (s':St),(base<=s1.hp.length->base<=s'.hp.length)->(base<=s1.hp.length -> ∀ w I φ a,BC w I φ s1 a->nt<=a.tmps.size -> ∀ Q,bo nt base s1 w I φ a s' (Q e.x)->Exit.then (Ud P x Q) Q e1.x a w)->Bg (Ud P x) nt base s e s':=by intro e s' hl hx hb;refine⟨hl (h2 hb).1,λw I φ a hs ha Q hQ=>ZY ?_⟩;exact(h2 hb).2 w I φ a hs ha _ λa' w' φ' I' c1 c2 c3 c4=>hx (h2 hb).1 w' I' φ' a' c3 c1 Q (hQ.after c2 c4)
    cases e1 with
    | normal=>obtain⟨e2,s2,h3,h4⟩:=ihm _ _ _ h1;refine⟨e2,s2,h3,main e2 s2 (λhb=>(h4 (ZV hb)).1) λhb w I φ a hs ha Q hQ=>?_⟩;obtain⟨n1,Dd,n2,n3⟩:=Rp base (env.live fn cur) hs hb;exact(h4 n1).2 w I Dd a n2 ha Q (hQ.after rfl n3)
    | exit id=>exact⟨_,s1,h1,main _ s1 (λx=>x) λhb w I φ a hs ha Q hQ=>hQ a w φ I ha rfl hs (Step.refl _ _ _ _ _)⟩
    | goto l=>exact⟨_,s1,h1,main _ s1 (λx=>x) λhb w I φ a hs ha Q hQ=>hQ a w φ I ha rfl hs (Step.refl _ _ _ _ _)⟩
    | ret=>exact⟨_,s1,h1,main _ s1 (λx=>x) λhb w I φ a hs ha Q hQ=>hQ a w φ I ha rfl hs (Step.refl _ _ _ _ _)⟩
  obtain⟨e,s',h1,h2⟩:=key n k _ r h;refine⟨e,s',h1,λhb=>⟨(h2 (ZV hb)).1,λw I φ a hs ha Q hQ=>mA ?_⟩⟩;obtain⟨n1,Dd,n2,n3⟩:=Rp base (env.live fn cur) hs hb;exact(h2 n1).2 w I Dd a n2 ha Q (hQ.after rfl n3)
 | exit id=>intro cur k s r _ h;exact⟨.exit id,s,h,λhb=>⟨hb,λw I φ a hs ha Q hQ=>wp_exit (hQ a w φ I ha rfl hs (Step.refl _ _ _ _ _))⟩⟩
 | label l=>intro cur k s r _ h;exact⟨.normal,s,h,λhb=>⟨hb,λw I φ a hs ha Q hQ=>wp_label (hQ a w φ I ha rfl hs (Step.refl _ _ _ _ _))⟩⟩
 | goto l=>intro cur k s r _ h;exact⟨.goto l,s,h,λhb=>⟨hb,λw I φ a hs ha Q hQ=>wp_goto (hQ a w φ I ha rfl hs (Step.refl _ _ _ _ _))⟩⟩
 | ret=>intro cur k s r _ h;exact⟨.ret,s,h,λhb=>⟨hb,λw I φ a hs ha Q hQ=>wp_ret (hQ a w φ I ha rfl hs (Step.refl _ _ _ _ _))⟩⟩
 | scope x ih=>intro cur k s r A8 h;unfold Hh at h;obtain⟨e1,s1,h1,h2⟩:=ih _ _ _ _ A8 h;obtain⟨e,s',g1,g2⟩:=aaP (P:=P) (env:=env) (fn:=fn) hj A8 (k:=k) (r:=r) (x:=x) (e1:=e1) (s1:=s1) (by cases e1 <;> exact h1);exact⟨e,s',g1,λhb=>⟨((g2 (h2 hb).1)).1,λw I φ a hs ha Q hQ=>ald (aca ((h2 hb).2 w I φ a hs ha _ λa' w' φ' I' c1 c2 c3 c4=>(g2 (h2 hb).1).2 w' I' φ' a' c3 c1 Q (hQ.after c2 c4)))⟩⟩
 | rangeFunc f p a b=>intro cur k s r _ h;simp[Hh]at h
 | refuse why=>intro cur k s r _ h;simp[Hh]at h
def amO(Bh:DH P env)(hrun:EN P run)(hm:P.follows .mixedOrders=true):∀ m,wh P nt base (PY env run fn nt n base m):=by
 intro m
 induction m with
 | zero=>intro a l k s r _ h;cases h
 | succ m ih=>
  intro a l k s r A8 h;unfold PY at h;cases hf:findLabel a l with
  | none=>rw[hf]at h;cases h
  | some rest=>rw[hf]at h;obtain⟨e1,s1,h1,h2⟩:=adt Bh hrun hm ih rest 0 _ _ _ (ajH A8 hf) h;obtain⟨e,s',g1,g2⟩:=aaP (P:=P) (env:=env) (fn:=fn) ih A8 (k:=k) (r:=r) (x:=a) (e1:=e1) (s1:=s1) (by cases e1 <;> exact h1);exact⟨rest,e,s',rfl,g1,λhb=>⟨((g2 (h2 hb).1)).1,λw I φ a hs ha Q hQ=>aca ((h2 hb).2 w I φ a hs ha _ λa' w' φ' I' c1 c2 c3 c4=>(g2 (h2 hb).1).2 w' I' φ' a' c3 c1 Q (hQ.after c2 c4))⟩⟩
def ab(Bh:DH P env)(hrun:EN P run)(hm:P.follows .mixedOrders=true){c:Code}{cur:Nat}{k:AX->St->Option R}{s:St}{r:R}(A8:AD c=true)
  (h:La env run fn nt n base cur c k s=some r):∃ e s',k e s'=some r/\Bg (λQ=>c.wp P Q) nt base s e s':=
 adt Bh hrun hm (amO Bh hrun hm n) c cur k s r A8 h
end
end
section
variable {R:Type}
def It (P : Program) (env : Env) : Prop := ∀ f fn, env.code f = some fn → P.funcs[f]? = some fn ∧ fn.body.isNone = false ∧ (fn.name == "runtime.NumGoroutine") = false ∧ ∀ c, fn.body = some c → AD c = true
section
variable {P:Program} {env:Env} {run:Gh R} {r:R}
def aaw:∀ (l:List AV) (i t:Nat),Bb (Ej i l) t=if i<=t then l.getD (t - i) .undef else .undef
 | [],i,t=>by simp[Ej,Bb]
 | v::l,i,t=>by
  simp only[Ej,Bb];cases h:Nat.beq i t with
  | true=>have:=BN h;subst this;simp
  | false=>
   have hne:i ≠ t:=λe=>by subst e;simp at h
   rw[Aj,aaw l (i+1) t];by_cases h1:i+1<=t
   ·rw[Ay h1,Ay (by omega)];have:t - i=(t - (i+1))+1:=by omega
    rw[this];simp
   ·rw[AE h1,AE (by omega)]
def mD{w:World}{I:Nat->Prop}{φ:Ac}{args:List AV}{ra:Array Value}(h:F9 w I φ args ra)(n:Nat) :
  Fp w I φ (Bb (Ej 0 args)) {tmps:=ra++Array.replicate n undef,defers:=[]}:=by
 intro t;rw[aaw,Ay (Bu _),PS];simp only[Act.eval,NM,List.getD];cases e:args[t]? with
 | none=>exact .undef _
 | some x=>
  have ht:t<args.length:=by
   rcases Cj t args.length with h' | h'
   ·exact h'
   ·rw[CK h']at e;cases e
  rw[h.1]at ht;rw[Array.getElem?_append_left ht,Cy ht];exact h.2 t x _ e (Cy ht)
def lW(A7:E8 P env.tt){s:St}:∀ (l:List ResultVar) (k:List AV->Option R),Ip env.tt s l k=some r ->
  ∃ vs,k vs=some r /\ ∀ w I φ a,BC w I φ s a -> ∃ us:List Value,(l.mapM (m:=Sem) fun | .tmp t=>pure (a.tmps.getD t undef) | .cell x t=>do loadVar t (<- asAddr (a.tmps.getD x undef))).run P w=.ok us w /\
   vs.length=us.length /\ ∀ (i:Nat) x u,vs[i]? = some x->us[i]? = some u->RV w I φ x u:=by
 intro l
 induction l with
 | nil=>intro k h;exact⟨[],h,λw I φ a hs=>⟨[],rfl,rfl,λi x u e=>by simp at e⟩⟩
 | cons v l ih=>
  intro k h;cases v with
  | tmp t=>
   unfold Ip at h;obtain⟨vs,h1,h2⟩:=ih _ h;refine⟨_,h1,λw I φ a hs=>?_⟩;obtain⟨us,g1,g2,g3⟩:=h2 w I φ a hs;refine⟨a.tmps.getD t undef::us,by simp only[List.mapM_cons,Ce,CS,Co,g1],by simp[g2],λi x u e e'=>?_⟩;cases i with
   | zero=>simp at e e';subst e;subst e';have:=hs.fr t;simpa [Act.eval] using this
   | succ i=>simp at e e';exact g3 i x u e e'
  | cell x t=>
   unfold Ip at h;obtain⟨ti,Cc,h⟩:=CE h;split at h
   ·rename_i b i j hp;obtain⟨cs,h1,h2⟩:=aa6 h;obtain⟨v,h3,h4⟩:=eX h1;obtain⟨vs,h5,h6⟩:=ih _ h3;refine⟨_,h5,λw I φ a hs=>?_⟩;obtain⟨us,g1,g2,g3⟩:=h6 w I φ a hs;have hv:=hs.fr x;rw[hp]at hv;simp only[Act.eval]at hv;generalize hu:a.tmps.getD x undef=u at hv;cases hv with
    | ptr _ B o sz _ _ q AI hq=>
     have Lv:live (Ab s.hp b)=true:=by cases hrb:Ab s.hp b <;> first | rfl | (rw[hrb]at h;simp[Tk]at h)
     obtain⟨B',o',sz',e,hrb⟩:=hs.hh.JI AI Lv;rw[AI]at e;cases e;obtain⟨A3,e,hc⟩:=adj hrb (h2 (R':=List AV) some);cases e;obtain⟨v',u',e',hl,hv⟩:=u7 (A7 t ti Cc) hc (h4 (R':=AV) some);cases e';rw[<- hq]at hl;refine⟨u'::us,?_,by simp[g2],λi x u e e'=>?_⟩
     ·have ha:(asAddr (a.tmps.getD x undef)).run P w=.ok ⟨B,q,none⟩ w:=by rw[hu];rfl
      simp only[List.mapM_cons,Ce,ha,CS,Co,hl,g1]
     ·cases i with
      | zero=>simp at e e';subst e;subst e';exact hv
      | succ i=>simp at e e';exact g3 i x u e e'
   ·cases h
def apg(Bh:DH P env)(D6:It P env)(hrun:EN P run)(hm:P.follows .mixedOrders=true)(n:Nat):EN P (uZ env run n):=by
 intro f args hp k r h;unfold uZ at h;cases hf:env.code f with
 | none=>rw[hf]at h;cases h
 | some fn=>
  rw[hf]at h;simp only at h;obtain⟨hfn,hbody,hname,A8⟩:=D6 f fn hf;cases hb:fn.body with
  | none=>rw[hb]at h;cases h
  | some c=>
   rw[hb]at h;simp only at h;obtain⟨e,s',h1,h2⟩:=ab Bh hrun hm (A8 c hb) h;obtain⟨g1,g2⟩:=h2 (Ar _);have key:(e=.normal\/e=.ret)/\Ip env.tt s' fn.results.toList (λvs=>k (Ge vs) s'.hp)=some r:=by
    cases e with
    | normal=>exact⟨.inl rfl,h1⟩
    | ret=>exact⟨.inr rfl,h1⟩
    | exit id=>cases h1
    | goto l=>cases h1
   obtain⟨he,h3⟩:=key;obtain⟨vs,h4,h5⟩:=lW Bh.tt _ _ h3;refine⟨Ge vs,s'.hp,h4,g1,λw I φ ra hh hx=>.inl ⟨?_,calls_of_wp hfn hb ?_⟩⟩
   ·simp only[callFunc,Ce,run_program,Co,hfn,hname,hbody,I8,Hg,CS]
   ·have hst:BC w I φ {fr:=Ej 0 args,hp:=hp} {tmps:=ra++Array.replicate (fn.ntmps - ra.size) undef,defers:=[]}:=⟨hh,mD hx _⟩
    refine g2 w I φ _ hst (by simp;omega) _ λa' w' φ' I' c1 c2 c3 c4=>?_;obtain⟨us,d1,d2,d3⟩:=h5 w' I' φ' a' c3;have Ew:(results fn a'.tmps).run P w'=.ok (if h:us.toArray.size=1 then us.toArray[0]else .tuple us.toArray) w':=by unfold results;rw[gj];simp only[map_eq_pure_bind,bind_assoc,pure_bind,Ce];exact(congrArg (λ(x:Result (List Value))=>x.andThen λus w=>(pure (if h:us.toArray.size=1 then us.toArray[0]else Value.tuple us.toArray):Sem Value).run P w) d1)
    have HZ:bodyPost P fn (λe w'=>∃ u,e=.returned u /\ ∃ φ' I',RV w' I' φ' (Ge vs) u/\RH w' I' φ' (Ab s'.hp)/\Step hp.length (Ab hp) φ I w (Ab s'.hp) φ' I' w') .normal a' w':=by
     refine⟨c2,_,Ew,_,rfl,φ',I',?_,c3.hh,c4⟩;have KZ:us.length ≠ 1->RV w' I' φ' (.Am vs) (if h:us.toArray.size=1 then us.toArray[0]else .tuple us.toArray):=by intro hne;rw[dif_neg (by simpa using hne)];exact .Am _ _ (by simpa using d2) λi x u e e'=>d3 i x u e (by simpa using e')
     cases vs with
     | nil=>exact KZ (by simp at d2;omega)
     | cons v l=>
      cases l with
      | nil=>
       cases us with
       | nil=>simp at d2
       | cons u us=>
        cases us with
        | nil=>exact d3 0 v u rfl rfl
        | cons u' us=>simp at d2
      | cons v' l=>exact KZ (by simp at d2;omega)
    rcases he with rfl | rfl
    ·exact HZ
    ·exact HZ
def Iw(Bh:DH P env)(D6:It P env)(hm:P.follows .mixedOrders=true):∀ n,EN (R:=R) P (Dl env n):=by
 intro n
 induction n with
 | zero=>intro f args hp k r h;cases h
 | succ n ih=>exact apg Bh D6 ih hm n
end
end
open Go.ChangeShapes Go.Deep
def mY(S:TypeId->List AV->Prop):List Field->List AV->Prop
 | [],cs=>cs=[]
 | f::r,cs=>∃ a b,cs=a++b/\S f.type a/\mY S r b
def Shape(P:Program):Nat->TypeId->List AV->Prop
 | 0,_,_=>False
 | n+1,t,cs=>match P.underlying t with
  | some .bool=>∃ b,cs=[.bool b]
  | some (.int k)=>∃ i,cs=[.int k i]/\k.min<=i/\i<=k.max
  | some .string=>∃ s,cs=[.str s]/\s.length<=maxLen
  | some (.slice e)=>cs=[.Ak] \/ ∃ es,cs=[.A9 (P.cellsOf e) es]/\es.length<=maxLen /\ ∀ c ∈ es,Shape P n e c
  | some (.struct fs)=>mY (Shape P n) fs.toList cs
  | _=>False
def ad(P:Program)(G:TypeId->Bool):List Field->Nat->Nat->Bool
 | [],off,n=>Nat.beq off n
 | f::r,off,n=>Nat.beq f.offset off&&(G f.type&&ad P G r (off+P.cellsOf f.type) n)
def P4(P:Program):Nat->TypeId->Bool
 | 0,_=>false
 | n+1,t=>match P.underlying t with
  | some .bool | some (.int _) | some .string=>Nat.beq (P.cellsOf t) 1
  | some (.slice e)=>Nat.beq (P.cellsOf t) 1&&(Nat.ble 1 (P.cellsOf e)&&P4 P n e)
  | some (.struct fs)=>ad P (P4 P n) fs.toList 0 (P.cellsOf t)
  | _=>false
section
variable {H:Type} {enc:TypeId × Value->H} {P:Program} {w:World} {base:Nat} {held:Bool} {I:Nat->Prop}
def Ln(w:World)(I:Nat->Prop)(av:List AV)(cs:List Value):Prop:=
 av.length=cs.length /\ ∀ (k:Nat) c u,av[k]? = some c->cs[k]? = some u->RV w I Ac.no c u/\u.oneCell'=true
def Ln.one{c:AV}{u:Value}(h:RV w I Ac.no c u)(h1:u.oneCell'=true):Ln w I [c] [u]:=by
 refine⟨rfl,λk c' u' e e'=>?_⟩;cases k with
 | zero=>simp at e e';subst e;subst e';exact⟨h,h1⟩
 | succ k=>simp at e
def Ln.append{a a':List AV}{c c':List Value}(h:Ln w I a c)(h':Ln w I a' c'):Ln w I (a++a') (c++c'):=by
 refine⟨by simp[h.1,h'.1],λk x u e e'=>?_⟩;rw[Vp]at e e';rw[h.1]at e;split at e
 ·rename_i hk;rw[Ay hk]at e';exact h.2 k x u e e'
 ·rename_i hk;rw[AE hk]at e';exact h'.2 _ x u e e'
def abk{S:TypeId->List AV->Prop}{G:TypeId->Bool}{cs:List Value}
  (hS:∀ t c,G t=true->c.length=P.cellsOf t->(∃ n x,DataW.trod enc P w base (λ_=>true) held n t c=some x) -> ∃ av,S t av/\Ln w I av c) :
  ∀ (l:List Field) (off:Nat),ad P G l off cs.length=true->(∀ f ∈ l,∃ n x,DataW.trod enc P w base (λ_=>true) held n f.type ((cs.drop f.offset).take (P.cellsOf f.type))=some x/\((cs.drop f.offset).take (P.cellsOf f.type)).length=P.cellsOf f.type) ->
   ∃ av,mY S l av/\Ln w I av (cs.drop off)
 | [],off,h,_=>by have:off=cs.length:=BN h;subst this;exact⟨[],rfl,by simp,λk c u e=>by simp at e⟩
 | f::r,off,h,hf=>by unfold ad at h;obtain⟨h1,h2⟩:=A4 h;obtain⟨h2,h3⟩:=A4 h2;have h1:=BN h1;obtain⟨b,g1,g2⟩:=abk hS r _ h3 λf' Ym=>hf f' (by simp[Ym]);obtain⟨n,x,e1,e2⟩:=hf f (by simp);rw[h1]at e1 e2;obtain⟨a,g3,g4⟩:=hS f.type _ h2 e2 ⟨n,x,e1⟩;refine⟨a++b,⟨a,b,rfl,g3,g1⟩,?_⟩;have:=g4.append g2;rwa [<- List.drop_drop,Xz]at this
def aaD{G:TypeId->Bool}:∀ {l:List Field} {off n:Nat},ad P G l off n=true->off<=n /\ ∀ f ∈ l,f.offset+P.cellsOf f.type<=n
 | [],off,n,h=>⟨Nat.le_of_eq (BN h),λf hf=>by simp at hf⟩
 | f::r,off,n,h=>by
  unfold ad at h;obtain⟨h1,h2⟩:=A4 h;obtain⟨h2,h3⟩:=A4 h2;have h1:=BN h1;obtain⟨g1,g2⟩:=aaD h3;refine⟨by omega,λf' Ym=>?_⟩;rcases Dz.1 Ym with e | Ym
  ·subst e;omega
  ·exact g2 f' Ym
def vl(hI:∀ B,B<w.heap.size->I B):∀ (n:Nat) (t:TypeId) (cs:List Value),P4 P n t=true->cs.length=P.cellsOf t->(∃ m x,DataW.trod enc P w base (λ_=>true) held m t cs=some x) ->
  ∃ av,Shape P n t av/\Ln w I av cs
 | 0,t,cs,h,_,_=>by cases h
 | n+1,t,cs,h,hlen,⟨m,x,hx⟩=>by
  unfold P4 at h;unfold Shape;cases hu:P.underlying t with
  | none=>rw[hu]at h;cases h
  | some d=>
   rw[hu]at h;cases m with
   | zero=>simp[DataW.trod]at hx
   | succ m=>
    cases d <;> simp only at h ⊢ <;> try (cases h;done)
    case bool=>
     unfold DataW.trod at hx;rw[hu]at hx;split at hx <;> try (cases hx;done)
     all_goals first
      | exact⟨_,⟨_,rfl⟩,Ln.one (.bool _) rfl⟩
      | simp_all
    case int k=>obtain⟨i,rfl,_,hw⟩:=DataW.trod_int hu hx;simp only[Lit.wf,My,decide_eq_true_eq]at hw;exact⟨_,⟨i,rfl,hw.1,hw.2⟩,Ln.one (.int k i) rfl⟩
    case string=>
     unfold DataW.trod at hx;rw[hu]at hx;split at hx <;> simp_all;rename_i s;refine⟨_,⟨s.data.toList,rfl,?_⟩,Ln.one (.str s _ rfl) rfl⟩;have e:s.data.toList.length=s.size:=by rw[Array.length_toList];rfl
     omega
    case slice e=>
     obtain⟨_,h⟩:=A4 h;obtain⟨h1,h2⟩:=A4 h;have h1:1<=P.cellsOf e:=DZ h1;rcases open_slice hu hx with ⟨rfl,_⟩ | ⟨a,len,cap,m',n',D,Pl,rfl,hb,hl,hm,DB,rfl,hel⟩
     ·exact⟨_,.inl rfl,Ln.one .Ak rfl⟩
     ·simp only[IW]at DB;subst DB;have ahT:∀ i,i<m' -> ∃ p:List Value × List AV,w.cells? base (a.add (i*P.cellsOf e)) (P.cellsOf e)=some p.1/\Shape P n e p.2/\Ln w I p.2 p.1:=by
       intro i hi;obtain⟨A3,c1,c2⟩:=hel i hi;obtain⟨_,c3,_⟩:=World.cells?_some c1;obtain⟨av,d1,d2⟩:=vl hI n e A3 h2 c3 ⟨n',_,c2⟩;exact⟨(A3,av),c1,d1,d2⟩
      obtain⟨V,hV⟩:=choose_lt ahT;refine⟨_,.inr ⟨(List.range len).map λi=>(V i).2,rfl,by simp;omega,λc hc=>?_⟩,Ln.one (.A9 _ _ _ ?_ (by simp)) rfl⟩
      ·obtain⟨i,hi,rfl⟩:=Mz.1 hc;exact(hV i (He (by simpa using hi) hl)).2.1
      ·rw[OK,List.length_range];by_cases MJ:m'=0
       ·subst MJ;have:len=0:=by omega
        subst this;exact .Cq _ _ _
       ·have afY:a.spot=none:=by
         obtain⟨c1,_,_⟩:=hV 0 (by omega);obtain⟨_,_,c2⟩:=World.cells?_some c1;obtain⟨_,c3,_⟩:=World.cells?_some c1;have:=c2 0 (by omega);rw[BR (by omega)]at this;simp only[JF,Addr.add,IW]at this;unfold World.cell? at this;split at this
         ·cases hs:a.spot with
          | none=>rfl
          | some s=>rw[hs]at this;simp at this
         ·cases this
        obtain⟨B,o,sp⟩:=a;simp only at afY;subst afY;have oH:∀ o q,Addr.add ⟨B,o,none⟩ q=⟨B,o+q,none⟩:=by
         intro o q;unfold Addr.add;split
         ·rename_i h0;subst h0;rfl
         ·rfl
        have Ab:∀ i,i<len->((List.range len).map λi=>(V i).2).getD i []=(V i).2:=by intro i hi;simp[List.getD,EO,Mx hi]
        have hcell:∀ i,i<len -> ∀ k,k<P.cellsOf e->w.cell? ⟨B,o+i*P.cellsOf e+k,none⟩=(V i).1[k]? := by intro i hi k hk;obtain⟨c1,_,_⟩:=hV i (by omega);obtain⟨_,_,c2⟩:=World.cells?_some c1;have:=c2 k hk;rwa [oH,oH]at this
        have JS:∀ i,i<len->(V i).1.length=P.cellsOf e:=λi hi=>(World.cells?_some (hV i (by omega)).1).2.1;have yu:∀ i k c,i<len->(V i).2[k]? = some c->k<P.cellsOf e/\(V i).1[k]? = some (((V i).1[k]?).getD undef):=by
         intro i k c hi ec;have hk:k<P.cellsOf e:=by have:=(GO.1 ec).1;rwa [(hV i (by omega)).2.2.1,JS i hi]at this
         exact⟨hk,by rw[BR (by rw[JS i hi];exact hk)];rfl⟩
        refine .tr _ len _ B o m' (λi k=>((V i).1[k]?).getD undef) (λh0=>hI B ?_) hl (λh0=>?_) (λi hi=>?_) (λi k c hi e=>?_) (λi k c hi e=>?_) (λi k c hi e=>?_)
        ·have FG:=hcell 0 h0 0 (by omega);rw[BR (by rw[JS 0 h0];omega)]at FG;unfold World.cell? at FG;split at FG
         ·rename_i hB;simp only at hB;rcases Cj B w.heap.size with h | h
          ·exact h
          ·rw[JB h]at hB;cases hB
         ·cases FG
        ·obtain⟨p,c1,_⟩:=ahT (m' - 1) (by omega);obtain⟨_,c3,c2⟩:=World.cells?_some c1;have E0:=c2 (P.cellsOf e - 1) (by omega);rw[oH,oH,BR (by omega)]at E0;have O5:=adh E0;have:(m' - 1)*P.cellsOf e+P.cellsOf e=m'*P.cellsOf e:=by
          rw[<- Nat.succ_mul];congr 1;omega
         omega
        ·rw[Ab i hi,(hV i (by omega)).2.2.1,JS i hi]
        all_goals rw[Ab i hi]at e
        all_goals obtain⟨hk,hg⟩:=yu i k c hi e
        ·rw[hcell i hi k hk];exact hg
        ·exact((hV i (by omega)).2.2.2 k _ _ e hg).2
        ·exact((hV i (by omega)).2.2.2 k _ _ e hg).1
    case struct fs=>
     obtain⟨xs,n',_,_,c1,c2,c3⟩:=DataW.trod_struct hu hx;rw[<- c1]at h;have:=abk (S:=Shape P n) (G:=P4 P n) (λt c g1 g2 g3=>vl hI n t c g1 g2 g3) fs.toList 0 h λf hf=>by
      obtain⟨i,hi⟩:=NN hf;have JV:fs[i]? = some f:=by rwa [HV]at hi
      have:=c3 i f JV;have hlt:i<xs.length:=by rw[c2];exact(Vm.1 JV).1
      rw[BR hlt]at this;refine⟨_,_,this,?_⟩;have:=(aaD h).2 f hf;simp;omega
     simpa using this
end
end Go.AM
namespace Go.AM
def Vc(P:Program)(t:TypeId)(av:List AV):AV:=
 match P.underlying t with
 | some (.struct _)=>.agg av
 | _=>av.headD .undef
def oI(P:Program)(N:Nat):List TypeId->List AV->Prop
 | [],vs=>vs=[]
 | t::ts,vs=>∃ av r,Shape P N t av/\vs=Vc P t av::r/\oI P N ts r
section
variable {H:Type} {enc:TypeId × Value->H} {P:Program} {W W':World} {I:Nat->Prop}
def arT(hI:∀ B,B<W.heap.size->I B){N base:Nat}{t:TypeId}{v:Value}{d:DataW H}{ps:List MemPlace}(hg:P4 P N t=true)(C8:Value.okWide P W .any base t v)
  (h:DataW.Trod enc P W 0 (λ_=>true) true t v d ps):∃ av,Shape P N t av/\RV W I Ac.no (Vc P t av) v:=by
 obtain⟨m,hm⟩:=h;cases N with
 | zero=>cases hg
 | succ N=>
  have hlen:v.cells.toList.length=P.cellsOf t/\((∃ fs,P.underlying t=some (.struct fs)) -> ∃ cs,v=.agg cs)/\((∀ fs,P.underlying t ≠ some (.struct fs))->v.cells.toList=[v]):=by
   have Wg:=hg;unfold P4 at Wg;unfold Value.okWide at C8;cases hu:P.underlying t with
   | none=>rw[hu]at Wg;cases Wg
   | some u=>
    rw[hu]at Wg C8;cases u <;> simp only at Wg C8 <;> try (cases Wg;done)
    case struct fs=>obtain⟨cs,rfl,hs,_⟩:=C8;refine⟨by simpa [Value.cells] using hs,λ_=>⟨cs,rfl⟩,λh=>absurd rfl (h fs)⟩
    case slice e=>have:=BN (A4 Wg).1;unfold Cell.okWide Cell.ok at C8;rw[hu]at C8;cases v <;> simp at C8 <;> exact⟨by simp[Value.cells,this],λ⟨fs,e⟩=>(by cases e),λ_=>by simp[Value.cells]⟩
    all_goals
     have:=BN Wg;unfold Cell.okWide Cell.ok at C8;rw[hu]at C8;cases v <;> simp at C8 <;> exact⟨by simp[Value.cells,this],λ⟨fs,e⟩=>(by cases e),λ_=>by simp[Value.cells]⟩
  obtain⟨h1,h2,h3⟩:=hlen;obtain⟨av,g1,g2,g3⟩:=vl hI (N+1) t _ hg h1 ⟨m,_,hm⟩;refine⟨av,g1,?_⟩;unfold Vc;by_cases hs:∃ fs,P.underlying t=some (.struct fs)
  ·obtain⟨cs,rfl⟩:=h2 hs;obtain⟨fs,hfs⟩:=hs;rw[hfs];simp only[Value.cells]at g2 g3;refine .agg _ _ (by simpa using g2) (λk u e=>?_) (λk c u e e'=>?_)
   ·have hk:k<av.length:=by
     rw[g2];simpa using (Vm.1 e).1
    exact(g3 k av[k] u (BR hk) (by rw[HV];exact e)).2
   ·exact(g3 k c u e (by rw[HV];exact e')).1
  ·have hs:∀ fs,P.underlying t ≠ some (.struct fs):=λfs e=>hs ⟨fs,e⟩;have h3:=h3 hs;rw[h3]at g2 g3;have:∃ c,av=[c]:=by
    match av,g2 with
    | [c],_=>exact⟨c,rfl⟩
   obtain⟨c,rfl⟩:=this;have:=(g3 0 c v rfl rfl).1;split
   ·rename_i fs e;exact absurd e (hs fs)
   ·exact this
def adu(hI:∀ B,B<W.heap.size->I B){N base:Nat}:∀ {ts:List TypeId} {vs:List Value} {ds:List (DataW H)} {ps:List MemPlace},(∀ t ∈ ts,P4 P N t=true) ->
  (∀ (j:Nat) t v,ts[j]? = some t->vs[j]? = some v->Value.okWide P W .any base t v)->DataW.TrodAll enc P W 0 (λ_=>true) true ts vs ds ps ->
  ∃ Mf,oI P N ts Mf/\Mf.length=vs.length /\ ∀ (k:Nat) c u,Mf[k]? = some c->vs[k]? = some u->RV W I Ac.no c u
 | [],[],[],ps,_,_,_=>⟨[],rfl,rfl,λk c u e=>by simp at e⟩
 | t::ts,v::vs,d::ds,ps,hg,C8,⟨p,q,h1,h2,_⟩=>by
  obtain⟨Mf,g1,g2,g3⟩:=adu hI (λt ht=>hg t (by simp[ht])) (λj t v e e'=>C8 (j+1) t v (by simpa using e) (by simpa using e')) h2;obtain⟨av,g4,g5⟩:=arT hI (hg t (by simp)) (C8 0 t v rfl rfl) h1;refine⟨Vc P t av::Mf,⟨av,Mf,g4,rfl,g1⟩,by simp[g2],λk c u e e'=>?_⟩;cases k with
  | zero=>simp at e e';subst e;subst e';exact g5
  | succ k=>exact g3 k c u (by simpa using e) (by simpa using e')
 | [],[],_::_,_,_,_,h=>h.elim
 | [],_::_,_,_,_,_,h=>h.elim
 | _::_,[],_,_,_,_,h=>h.elim
 | _::_,_::_,[],_,_,_,h=>h.elim
def ajI{f:Func}{s:ChangeSpec}{apart fresh handsOn again:Bool}{args:Array Value}{v:Value}{ds gs:List (DataW H)}{before pa pv:List MemPlace}
  (hW:DataW.Whole enc P f.params.toList s.vars apart W args.toList ds gs before)
  (Ew:∀ (b:Nat) (sp:Nat->Bool) (hd:Bool),DataW.TrodAll enc P W' b sp hd f.resultTypes.toList (v.resultList f.resultTypes.size) (s.fn H (ds++gs)).results [])
  (FV:∀ sp:Nat->Bool,(∀ p ∈ before,sp p.block=true)->DataW.TrodAll enc P W' 0 sp true f.params.toList args.toList (s.fn H (ds++gs)).args pa)
  (gq:∀ sp:Nat->Bool,(∀ p ∈ before,sp p.block=true)->DataW.TrodVars enc P W' sp s.vars (s.fn H (ds++gs)).vars pv)
  (pU:before=pa++pv) (hb:RowKit.Below W.heap.size W W')
  (A8:∀ (j:Nat) (t:TypeId) (r:Value),f.resultTypes[j]? = some t->(v.resultList f.resultTypes.size)[j]? = some r->Value.okWide P W' .any 0 t r) :
  s.post enc P f apart fresh handsOn again W args v W':=by
 have hold:∀ p ∈ before,(λb=>decide (b<W.heap.size)) p.block=true:=λp hp=>by simpa using hW.lt p hp
 have hlt:=hW.lt;refine⟨ds,gs,before,[],pa,pv,hW,Ew _ _ _,FV _ hold,gq _ hold,World.keptBut_mono (λp hp=>⟨hp,?_⟩) (hb.frame (· ∈ before)),λ_=>?_⟩
 ·rw[pU,Cp]at hp;exact Or.inr hp
 ·obtain⟨_,_,_,_,_,hz,hn⟩:=hW;refine⟨A8,_,_,([]++pa)++pv,⟨[]++pa,pv,ChangeShapes.trodAll_append (FV _ (λ_ _=>rfl)) (Ew _ _ _),gq _ (λ_ _=>rfl),rfl,?_,?_⟩,?_⟩
  ·intro b off hp;have hp':MemPlace.cell b off ∈ before:=by rw[pU];simpa using hp
   rw[hb.frozen (p:=⟨b,off,none⟩) (hlt _ hp')];exact hz b off hp'
  ·intro ha;have:=hn ha;rw[pU]at this;simpa using this
  ·intro p hp _;rw[pU];simpa using hp
def aam(hl:laidOutB P=true)(hb:RowKit.Below W.heap.size W W'){sp:Nat->Bool}:∀ {ts:List TypeId} {vs:List Value} {ds:List (DataW H)} {ps:List MemPlace},(∀ t ∈ ts,P.readableRec t=true/\t<P.types.size) ->
  DataW.TrodAll enc P W 0 (λ_=>true) true ts vs ds ps->(∀ x ∈ ps,x.block<W.heap.size)->(∀ x ∈ ps,sp x.block=true)->DataW.TrodAll enc P W' 0 sp true ts vs ds ps
 | [],[],[],ps,_,h,_,_=>h
 | t::ts,v::vs,d::ds,ps,hr,⟨p,q,h1,h2,e⟩,hlt,hsp=>by
  subst e;refine⟨p,q,WideElems.Trod_stays hl (hr t (by simp)).1 (hr t (by simp)).2 h1 (λx hx=>hb.same (hlt x (by simp[hx]))) (λx hx=>hsp x (by simp[hx])),
   aam hl hb (λt ht=>hr t (by simp[ht])) h2 (λx hx=>hlt x (by simp[hx])) (λx hx=>hsp x (by simp[hx])),rfl⟩
 | [],[],_::_,_,_,h,_,_=>h.elim
 | [],_::_,_,_,_,h,_,_=>h.elim
 | _::_,[],_,_,_,h,_,_=>h.elim
 | _::_,_::_,[],_,_,h,_,_=>h.elim
def Br(c c':AV):Prop:=∀ (w:World) (I:Nat->Prop) (u:Value),RV w I Ac.no c u->RV w I Ac.no c' u
def CJ(cs A3:List AV):Prop:=cs.length=A3.length /\ ∀ (k:Nat) c c',cs[k]? = some c->A3[k]? = some c'->Br c c'
def Br.refl(c:AV):Br c c:=λ_ _ _ h=>h
def CJ.refl(cs:List AV):CJ cs cs:=⟨rfl,λk c c' e e'=>by rw[e]at e';cases e';exact .refl _⟩
def CJ.nil:CJ [] []:=.refl _
def CJ.cons{c c':AV}{cs A3:List AV}(h:Br c c')(h':CJ cs A3):CJ (c::cs) (c'::A3):=by
 refine⟨by simp[h'.1],λk x x' e e'=>?_⟩;cases k with
 | zero=>simp at e e';subst e;subst e';exact h
 | succ k=>exact h'.2 k x x' (by simpa using e) (by simpa using e')
def CJ.get{cs A3:List AV}(h:CJ cs A3){k:Nat}{c':AV}(e:A3[k]? = some c'):∃ c,cs[k]? = some c/\Br c c':=by
 have hk:k<cs.length:=by rw[h.1];exact(GO.1 e).1
 exact⟨cs[k],BR hk,h.2 k _ c' (BR hk) e⟩
def Br.tr{sz:Nat}{es:List (List AV)}{f:Nat->List AV}(h:∀ i,i<es.length->CJ (es.getD i []) (f i)):Br (.A9 sz es) (.tr sz es.length f):=by
 intro w I u hv;cases hv with
 | A9 _ _ _ hv hz=>
  generalize hn:es.length=n at *;generalize hf:(λi=>es.getD i [])=g at hv;have hg:∀ i,g i=es.getD i []:=λi=>by rw[<- hf]
  cases hv with
  | tr _ _ _ B o cap uf hI Eo C6 hlen hc h1 hr=>
   refine .tr sz n f B o cap uf hI Eo C6 (λi hi=>?_) (λi k c hi e=>?_) (λi k c hi e=>?_) (λi k c hi e=>?_)
   ·rw[<- (h i hi).1,<- hg];exact hlen i hi
   ·obtain⟨c0,e0,_⟩:=(h i hi).get e;rw[<- hg]at e0;exact hc i k c0 hi e0
   ·obtain⟨c0,e0,_⟩:=(h i hi).get e;rw[<- hg]at e0;exact h1 i k c0 hi e0
   ·obtain⟨c0,e0,hs⟩:=(h i hi).get e;rw[<- hg]at e0;exact hs _ _ _ (hr i k c0 hi e0)
  | Cq=>exact .Cq _ _ _
def Br.agg{cs A3:List AV}(h:CJ cs A3):Br (.agg cs) (.agg A3):=by
 intro w I u hv;cases hv with
 | agg _ vs hl h1 hr=>refine .agg _ _ (h.1.symm.trans hl) h1 λk c u e e'=>?_;obtain⟨c0,e0,hs⟩:=h.get e;exact hs _ _ _ (hr k c0 u e0 e')
end
def acf(fn:Func):Bool:=
 match fn.body with
 | some c => AD c && !(fn.name == "runtime.NumGoroutine")
 | none=>false
def wi(P:Program)(f:Nat):Option Func:=
 match P.funcs[f]? with
 | some fn=>bif acf fn then some fn else none
 | none=>none
def tM{P:Program}{env:Env}(h:env.code=wi P):It P env:=by
 intro f fn hf;rw[h]at hf;unfold wi at hf;cases e:P.funcs[f]? with
 | none=>rw[e]at hf;cases hf
 | some fn'=>
  rw[e]at hf;obtain⟨hg,hf⟩:=BG hf;cases hf;unfold acf at hg;cases hb:fn.body with
  | none=>rw[hb]at hg;cases hg
  | some c=>rw[hb]at hg;obtain⟨h1,h2⟩:=A4 hg;refine⟨rfl,rfl,by simpa using h2,λc' e'=>?_⟩;cases e';exact h1
def xv{P:Program}{env:Env}(h:env.tt=GA P):E8 P env.tt:=λt x e=>by rw[h]at e;exact e
def iz(x:Nat):List Nat->Bool
 | []=>false
 | y::r=>bif Nat.beq x y then true else iz x r
def fL(f b:Nat):List (Nat × Nat × List Nat)->List Nat
 | []=>[]
 | (f',b',l)::r=>bif Nat.beq f f'&&Nat.beq b b' then l else fL f b r
structure Af where
 f:Nat
 cu:List AV->Heap->Option Answer
def Vd:List Af->Nat->List AV->Heap->Option Answer
 | [],_,_,_=>none
 | k::r,f,args,hp=>bif Nat.beq k.f f then k.cu args hp else Vd r f args hp
def Af.Ok(P:Program)(k:Af):Prop:=∀ args hp A,k.cu args hp=some A->A.g=true->At P k.f args hp (A.r A.a).1 (A.r A.a).2/\hp.length<=(A.r A.a).2.length
def nq{P:Program}:∀ {l:List Af},(∀ k ∈ l,k.Ok P) -> ∀ f args hp A,Vd l f args hp=some A->A.g=true->At P f args hp (A.r A.a).1 (A.r A.a).2/\hp.length<=(A.r A.a).2.length
 | [],_,f,args,hp,A,h=>by cases h
 | k::l,hl,f,args,hp,A,h=>by
  unfold Vd at h;cases e:Nat.beq k.f f with
  | true=>rw[e]at h;have e:=BN e;subst e;exact hl k (by simp) args hp A h
  | false=>rw[e]at h;exact nq (λk hk=>hl k (by simp[hk])) f args hp A h
def By(r:AV)(h:Heap):Option AV:=
 match NA depth (Ab h) r with
 | some (r,_,g)=>bif g then some r else .none
 | .none=>.none
def At.mZ{P:Program}{f:Nat}{args:List AV}{res r:AV}{hp':Heap}(hc:At P f args [] res hp')(h:By res hp'=some r):At P f args [] r []:=by
 unfold By at h;split at h
 ·rename_i r1 l1 g1 QI;obtain⟨hg,h⟩:=BG h;subst hg;cases h;replace QI:=UK.2 QI;intro w I φ ra hh hx;refine(hc w I φ ra hh hx).mono λu w' ⟨φ',I',h1,h2,h3⟩=>?_;obtain⟨s1,s2⟩:=(vg h2 depth).1 _ _ _ QI;have hr:=s2 (λB=>I' B\/Ft φ' l1 B) (λB hB=>.inl hB) (λB hB=>.inr hB) u h1;refine⟨Ac.no,λB=>I' B\/Ft φ' l1 B,hr,RH.empty w' _ λB hB=>hB.elim (h2.lt B) (Xr h2 s1),λb p hb=>absurd hb (C5 b),λB hB=>.inl (h3.F8 B hB),?_,λB hB=>(Fw hB).elim,h3.ext,λB hB hy=>h3.ok B (by
   rcases hB with (x | ⟨b,hb,o,sz,e⟩) | x
   ·exact .inl x
   ·cases hm:AZ (Ab hp' b)with
    | true=>exact .inr ⟨b,o,sz,hm,e⟩
    | false=>exact .inl (h2.Ea b B o sz (s1 b hb) hm e)
   ·exact(Fw x).elim) hy⟩
  rintro B (hB | ⟨b,hb,o,sz,e⟩)
  ·exact h3.F3 B hB
  ·cases hm:AZ (Ab hp' b)with
   | true=>exact .inr ((h3.mt B ⟨b,o,sz,hm,e⟩).imp id id)
   | false=>exact h3.F3 B (h2.Ea b B o sz (s1 b hb) hm e)
 ·cases h
def A6(env:Env)(n f:Nat)(args:List AV):Option AV:=Dl (R:=AV) env n f args [] By
def uu{P:Program}{env:Env}(Bh:DH P env)(D6:It P env)(hm:P.follows .mixedOrders=true){n f:Nat}{args:List AV}{r:AV}
  (h:A6 env n f args=some r):At P f args [] r []:=by
 obtain⟨res,hp',k1,_,hc⟩:=Iw Bh D6 hm n f args [] _ _ h;exact hc.mZ k1
def UX{w:World}{I:Nat->Prop}{φ:Ac}(h:RH w I φ (Ab [])):φ=Ac.no:=by funext b;exact h.none b (UP b)
def At.args{P:Program}{f:Nat}{args HU:List AV}{r:AV}{bs:Heap}(h:At P f HU [] r bs)(hs:CJ args HU):At P f args [] r bs:=by intro w I φ ra hh hx;have:=UX hh;subst this;refine h w I Ac.no ra hh ⟨by rw[<- hs.1];exact hx.1,λk x u e e'=>?_⟩;obtain⟨c0,e0,hv⟩:=hs.get e;exact hv _ _ _ (hx.2 k c0 u e0 e')
def At.res{P:Program}{f:Nat}{args:List AV}{r r':AV}(h:At P f args [] r [])(hs:Br r r'):At P f args [] r' []:=by intro w I φ ra hh hx;refine(h w I φ ra hh hx).mono λu w' ⟨φ',I',h1,h2,h3⟩=>?_;have:=UX h2;subst this;exact⟨Ac.no,I',hs _ _ _ h1,h2,h3⟩
def Br.trans{a b c:AV}(h:Br a b)(h':Br b c):Br a c:=λw I u hv=>h' w I u (h w I u hv)
def Br.Ak{sz:Nat}{f:Nat->List AV}:Br .Ak (.tr sz 0 f):=by
 intro w I u hv;cases hv with
 | Ak=>exact .Cq sz f none
def Br.N2{sz n:Nat}{f g:Nat->List AV}(h:∀ i,i<n->CJ (f i) (g i)):Br (.tr sz n f) (.tr sz n g):=by
 intro w I u hv;cases hv with
 | tr _ _ _ B o cap uf hI Eo C6 hlen hc h1 hr=>
  refine .tr sz n g B o cap uf hI Eo C6 (λi hi=>?_) (λi k c hi e=>?_) (λi k c hi e=>?_) (λi k c hi e=>?_)
  ·rw[<- (h i hi).1];exact hlen i hi
  ·obtain⟨c0,e0,_⟩:=(h i hi).get e;exact hc i k c0 hi e0
  ·obtain⟨c0,e0,_⟩:=(h i hi).get e;exact h1 i k c0 hi e0
  ·obtain⟨c0,e0,hs⟩:=(h i hi).get e;exact hs _ _ _ (hr i k c0 hi e0)
 | Cq _ _ a=>exact .Cq sz g a
def Br.Am{cs A3:List AV}(h:CJ cs A3):Br (.Am cs) (.Am A3):=by
 intro w I u hv;cases hv with
 | Am _ vs hl hr=>refine .Am _ _ (h.1.symm.trans hl) λk c u e e'=>?_;obtain⟨c0,e0,hs⟩:=h.get e;exact hs _ _ _ (hr k c0 u e0 e')
inductive PE where
 | L
 | R
 | lp (m:Nat)
def sub:Code->List PE->Code
 | c,[]=>c
 | .seq a _,.L::p=>sub a p
 | .seq _ b,.R::p=>sub b p
 | .cond _ a _,.L::p=>sub a p
 | .cond _ _ b,.R::p=>sub b p
 | .block _ a,_::p=>sub a p
 | .loop a,_::p=>sub a p
 | .scope a,_::p=>sub a p
 | c,_::_=>c
def NC:Nat->Code->List PE->Nat
 | cur,_,[]=>cur
 | cur,.seq a _,.L::p=>NC cur a p
 | cur,.seq _ b,.R::p=>NC cur b p
 | cur,.cond _ a _,.L::p=>NC cur a p
 | cur,.cond _ _ b,.R::p=>NC cur b p
 | _,.block id a,_::p=>NC id a p
 | cur,.loop a,_::p=>NC cur a p
 | cur,.scope a,_::p=>NC cur a p
 | cur,_,_::_=>cur
section
variable {R:Type} (env:Env) (run:Gh R) (fn nt n base:Nat) (jump:Code->Nat->OD R)
def PI:Nat->Code->List PE->(AX->St->Option R)->AX->St->Option R
 | _,_,[],k=>k
 | cur,.seq a b,.L::p,k=>PI cur a p λe s'=>match e with
  | .normal=>Hh env run fn nt n base jump cur b k s'
  | e=>k e s'
 | cur,.seq _ b,.R::p,k=>PI cur b p k
 | cur,.cond _ a _,.L::p,k=>PI cur a p k
 | cur,.cond _ _ b,.R::p,k=>PI cur b p k
 | _,.block id a,_::p,k=>PI id a p λe s'=>match e with
  | .exit Jf=>bif Nat.beq Jf id then k .normal s' else k (.exit Jf) s'
  | e=>k e s'
 | cur,.loop a,.lp m::p,k=>PI cur a p λe s'=>match e with
  | .normal=>PV (norm base (env.live fn cur)) (Hh env run fn nt n base jump cur a) m k (norm base (env.live fn cur) s')
  | e=>k e s'
 | cur,.scope a,_::p,k=>PI cur a p λe s'=>match e with
  | .goto l=>match findLabel a l with
   | some _=>jump a l k (norm base (env.live fn (1000+l)) s')
   | .none=>k (.goto l) s'
  | e=>k e s'
 | _,_,_::_,k=>k
end
def yD{R:Type}(env:Env)(fn:Func)(k:AV->Heap->Option R)(e:AX)(s:St):Option R:=
 match e with
 | .normal | .ret=>Ip env.tt s fn.results.toList λvs=>k (Ge vs) s.hp
 | _=>.none
def Fi(env:Env)(f:Nat):Code:=match env.code f with
 | some fn=>match fn.body with
  | some c=>c
  | .none=>.skip
 | .none=>.skip
def Kq(env:Env)(f:Nat):Nat:=match env.code f with
 | some fn=>fn.ntmps
 | .none=>0
def Vv{R:Type}(env:Env)(f:Nat)(k:AV->Heap->Option R)(e:AX)(s:St):Option R:=match env.code f with
 | some fn=>yD env fn k e s
 | .none=>.none
def pt{R:Type}(env:Env)(n base f:Nat)(k:AV->Heap->Option R)(p:List PE)(s:St):Option R:=
 Hh env (Dl env n) f (Kq env f) n base (PY env (Dl env n) f (Kq env f) n base n) (NC 0 (Fi env f) p) (sub (Fi env f) p)
  (PI env (Dl env n) f (Kq env f) n base (PY env (Dl env n) f (Kq env f) n base n) 0 (Fi env f) p (Vv env f k)) s
def lpt{R:Type}(env:Env)(n base f:Nat)(k:AV->Heap->Option R)(p:List PE)(m:Nat)(s:St):Option R:=
 match sub (Fi env f) p with
 | .loop a=>PV (norm base (env.live f (NC 0 (Fi env f) p))) (Hh env (Dl env n) f (Kq env f) n base (PY env (Dl env n) f (Kq env f) n base n) (NC 0 (Fi env f) p) a) m
   (PI env (Dl env n) f (Kq env f) n base (PY env (Dl env n) f (Kq env f) n base n) 0 (Fi env f) p (Vv env f k)) s
 | _=>.none
def Tq(b:Nat):Code->Nat->List Nat->Option (List PE)
 | .loop a,cur,fs=>bif Nat.beq cur b then some []else match fs with
  | m::fs=>match Tq b a cur fs with
   | some p=>some (.lp m::p)
   | .none=>.none
  | []=>.none
 | .seq x y,cur,fs=>match Tq b x cur fs with
  | some p=>some (.L::p)
  | .none=>match Tq b y cur fs with
   | some p=>some (.R::p)
   | .none=>.none
 | .cond _ x y,cur,fs=>match Tq b x cur fs with
  | some p=>some (.L::p)
  | .none=>match Tq b y cur fs with
   | some p=>some (.R::p)
   | .none=>.none
 | .block id a,_,fs=>match Tq b a id fs with
  | some p=>some (.L::p)
  | .none=>.none
 | .scope a,cur,fs=>match Tq b a cur fs with
  | some p=>some (.L::p)
  | .none=>.none
 | _,_,_=>.none
def LP{R:Type}(env:Env)(n base f:Nat)(k:AV->Heap->Option R)(b:Nat)(fs:List Nat)(m:Nat)(s:St):Option R:=
 match Tq b (Fi env f) 0 fs with
 | some p=>lpt env n base f k p m s
 | .none=>.none
def cd(g:Prop):Bool:=@decide g (Classical.propDecidable g)
def fM{g:Prop}:cd g=true ↔ g:=by exact @decide_eq_true_iff g (Classical.propDecidable g)
def gP{X:Type}(dec:List AV->X)(pre:X->Prop)(enc:X->List AV)(args:List AV):Prop:=pre (dec args)/\CJ args (enc (dec args))
def Af.spec{X:Type}(f:Nat)(dec:List AV->X)(pre:X->Prop)(enc:X->List AV)(out:X->AV):Af:=
 {f:=f,cu:=λargs hp=>match hp with
   | []=>some {X:=X,g:=cd (gP dec pre enc args),a:=dec args,r:=λx=>(out x,[])}
   | _=>none}
def Af.BJ{P:Program}{X:Type}{f:Nat}{dec:List AV->X}{pre:X->Prop}{enc:X->List AV}{out:X->AV}
  (h:∀ x,pre x->At P f (enc x) [] (out x) []):(Af.spec f dec pre enc out).Ok P:=by
 intro args hp A e hg;cases hp with
 | nil=>cases e;obtain⟨h1,h2⟩:=fM.1 hg;exact⟨(h _ h1).args h2,Ar _⟩
 | cons x r=>cases e
def Af.one(f:Nat)(args:List AV)(r:AV):Af:=Af.spec (X:=Unit) f (λ_=>()) (λ_=>True) (λ_=>args) (λ_=>r)
def Af.Xs{P:Program}{f:Nat}{args:List AV}{r:AV}(h:At P f args [] r []):(Af.one f args r).Ok P:=Af.BJ λ_ _=>h
def gX{R:Type}{X:Type}(g:Prop)(a:X)(k:X->Option R):Option R:=Bool.rec (motive:=λ_=>Option R) .none (yn k a) (cd g)
def xw{R:Type}{X:Type}{g:Prop}{a:X}{k:X->Option R}(h:g):gX g a k=k a:=by unfold gX;rw[fM.2 h];rfl
def aul{R:Type}{X:Type}{dec:List AV->X}{pre:X->Prop}{enc:X->List AV}{A:List AV}{k:X->Option R}(x:X)(h1:dec A=x)(h2:pre x)(h3:CJ A (enc x)) :
  gX (gP dec pre enc A) (dec A) k=k x:=by
 subst h1;exact xw ⟨h2,h3⟩
def gC{R:Type}{X:Type}(dec:List AV->X)(pre:X->Prop)(enc:X->List AV)(A:List AV)(k:X->Option R):Option R:=gX (gP dec pre enc A) (dec A) k
def Bj{R:Type}{X:Type}{dec:List AV->X}{pre:X->Prop}{enc:X->List AV}{A:List AV}{k:X->Option R}(x:X)(h1:dec A=x)(h2:pre x)(h3:CJ A (enc x)) :
  gC dec pre enc A k=k x:=aul x h1 h2 h3
def Mg:List AV->Unit:=λ_=>()
def Mh:Unit->Prop:=λ_=>True
def Rx{R:Type}{B A:List AV}{k:Unit->Option R}(h:CJ A B):gC Mg Mh (λ_=>B) A k=k ():=Bj () rfl trivial h
def AS(cs:List AV)(i:Nat):Int:=match cs[i]? with
 | some (.int _ n)=>n
 | _=>0
def Kr(cs:List AV)(i:Nat):Bool:=match cs[i]? with
 | some (.bool b)=>b
 | _=>false
def Ia(cs:List AV)(i:Nat):List UInt8:=match cs[i]? with
 | some (.str s)=>s
 | _=>[]
def Ci(cs:List AV)(i:Nat):Nat × Nat:=match cs[i]? with
 | some (.Al _ a b)=>(a,b)
 | _=>(0,0)
def Bd(args:List AV)(i:Nat):List AV:=match args[i]? with
 | some v=>v.cells
 | .none=>[]
def Bm{X:Type}(d:List AV->X):AV->List X
 | .tr _ n f=>(List.range n).map λi=>d (f i)
 | .A9 _ es=>es.map d
 | _=>[]
def Hi{X:Type}(d:List AV->X)(cs:List AV)(i:Nat):List X:=Bm d (cs.getD i .Ak)
def DQ{X:Type}(sz:Nat)(e:X->List AV)(z:X)(l:List X):AV:=.tr sz l.length λi=>e (l.getD i z)
def Py{X:Type}{sz:Nat}{e:X->List AV}{d:List AV->X}{z:X}(h:∀ x,d (e x)=x)(l:List X):Bm d (DQ sz e z l)=l:=by simp only[Bm,DQ,h];refine List.ext_getElem (by simp) λi h1 h2=>?_;simp[List.getD,BR h2]
def Br.aum{sz:Nat}{f:Nat->List AV}{es:List (List AV)}(hne:0<es.length)(h:∀ i,i<es.length->CJ (f i) (es.getD i [])):Br (.tr sz es.length f) (.A9 sz es):=by
 intro w I u hv;refine .A9 _ _ _ (Br.N2 h w I u hv) ?_;rintro rfl;generalize es.length=n at *;cases hv with
 | Cq=>cases hne
def Br.amP{X:Type}{sz:Nat}{e:X->List AV}{z:X}(l:List X)(hne:l ≠ []):Br (DQ sz e z l) (.A9 sz (l.map e)):=by
 have:=Br.aum (sz:=sz) (f:=λi=>e (l.getD i z)) (es:=l.map e) (by simpa [List.length_pos_iff] using hne) λi hi=>by
  have hi:i<l.length:=by simpa using hi
  have:(l.map e).getD i []=e (l.getD i z):=by simp[List.getD,BR hi]
  rw[this];exact .refl _
 rwa [OK]at this
def jB(c c1 c2:AV):Prop:=∀ (w:World) (I:Nat->Prop) (u:Value),RV w I Ac.no c u->RV w I Ac.no c1 u\/RV w I Ac.no c2 u
def N3(c c1 c2:List AV):Prop:=c1.length=c.length/\c2.length=c.length /\ ∀ (w:World) (I:Nat->Prop) (ra:Array Value),F9 w I Ac.no c ra->F9 w I Ac.no c1 ra\/F9 w I Ac.no c2 ra
def jB.nil{sz:Nat}{f:Nat->List AV}:jB (.tr sz 0 f) .Ak (.A9 sz []):=by
 intro w I u hv;cases hv with
 | tr _ _ _ B o cap uf hI Eo C6 hlen hc h1 hr=>exact .inr (.A9 _ _ _ (.tr sz 0 _ B o cap uf hI Eo C6 (λi hi=>by omega) (λi k c hi=>by omega) (λi k c hi=>by omega) (λi k c hi=>by omega)) (by simp))
 | Cq _ _ a=>cases a with
  | none=>exact .inl .Ak
  | some a=>exact .inr (.A9 _ _ _ (.Cq _ _ _) (by simp))
def arU{w:World}{I:Nat->Prop}{φ:Ac}{c:AV}{a b:List AV}{vs:Array Value}(h:F9 w I φ (a++c::b) vs):∃ u,RV w I φ c u/\vs[a.length]? = some u:=by
 have hl:a.length<vs.size:=by rw[<- h.1];simp
 exact⟨vs[a.length],h.2 a.length c _ (by simp) (Cy hl),Cy hl⟩
def N3.of{c c1 c2:AV}(a b:List AV)(h:jB c c1 c2):N3 (a++c::b) (a++c1::b) (a++c2::b):=by
 refine⟨by simp,by simp,λw I ra hx=>?_⟩;obtain⟨u,hu,he⟩:=arU hx;have key:∀ c',RV w I Ac.no c' u->F9 w I Ac.no (a++c'::b) ra:=by
  intro c' IE;refine⟨by rw[<- hx.1];simp,λk x v e e'=>?_⟩;by_cases hk:k=a.length
  ·subst hk;rw[he]at e';cases e';simp at e;subst e;exact IE
  ·refine hx.2 k x v ?_ e';rw[Vp]at e ⊢;split at e
   ·rename_i h;rw[Ay h];exact e
   ·rename_i h;rw[AE h];obtain⟨m,hm⟩:∃ m,k - a.length=m+1:=⟨k - a.length - 1,by omega⟩
    rw[hm]at e ⊢;exact e
 exact(h w I u hu).imp (key c1) (key c2)
def jB.agg{cs c1 c2:List AV}(h:N3 cs c1 c2):jB (.agg cs) (.agg c1) (.agg c2):=by
 intro w I u hv;cases hv with
 | agg _ vs hl h1 hr=>refine(h.2.2 w I vs ⟨hl,hr⟩).imp (λg=>.agg _ _ (h.1.trans hl) h1 g.2) (λg=>.agg _ _ (h.2.1.trans hl) h1 g.2)
def At.split{P:Program}{f:Nat}{args aD aF:List AV}{r:AV}{bs:Heap}(hs:N3 args aD aF)(h1:At P f aD [] r bs)(h2:At P f aF [] r bs):At P f args [] r bs:=by
 intro w I φ ra hh hx;have:=UX hh;subst this;rcases hs.2.2 w I ra hx with hx | hx
 ·exact h1 w I Ac.no ra hh hx
 ·exact h2 w I Ac.no ra hh hx
def Br.uw{X:Type}{sz:Nat}{e:X->List AV}{z:X}(l:List X):Br (.A9 sz (l.map e)) (DQ sz e z l):=by
 have:=Br.tr (sz:=sz) (es:=l.map e) (f:=λi=>e (l.getD i z)) λi hi=>by
  have hi:i<l.length:=by simpa using hi
  have:(l.map e).getD i []=e (l.getD i z):=by simp[List.getD,BR hi]
  rw[this];exact .refl _
 rwa [OK]at this
def Br.PJ{X:Type}{sz:Nat}{e:X->List AV}{z:X}{es:List (List AV)}(l:List X)(h:es=l.map e):Br (.A9 sz es) (DQ sz e z l):=by subst h;exact uw l
section
variable {H:Type} {enc:TypeId × Value->H} {P:Program} {W W':World} {I:Nat->Prop}
def ahU(P:Program)(N f:Nat)(ts:List TypeId):Prop:=∀ Mf,oI P N ts Mf->At P f Mf [] (.bool true) []
def alg{N base f tb:Nat}{fn:Func}{s:ChangeSpec}(hfn:P.funcs[f]? = some fn)(hbody:fn.body.isNone=false)
  (hname : (fn.name == "runtime.NumGoroutine") = false)
  (gq:s.vars=[]) (hrt:fn.resultTypes = #[tb]) (afZ:P.underlying tb=some .bool)
  (aun:∀ ds:List (DataW H),ds.length=fn.params.toList.length->s.fn H ds={results:=[.lit (.bool true)],args:=ds})
  (auo:laidOutB P=true) (aup:∀ t ∈ fn.params.toList,P.readableRec t=true/\t<P.types.size) (auq:∀ t ∈ fn.params.toList,P4 P N t=true)
  (axk:ahU P N f fn.params.toList) {args:Array Value} {ds gs:List (DataW H)} {before:List MemPlace}
  (C8:∀ (j:Nat) t v,fn.params[j]? = some t->args[j]? = some v->Value.okWide P W .any base t v) (hW:DataW.Whole enc P fn.params.toList s.vars false W args.toList ds gs before) :
  Calls P f args W λe W'=>∃ v,e=.returned v/\s.post enc P fn false true false false W args v W':=by
 have hW':=hW;obtain⟨p,q,hA,hV,rfl,pI,cq⟩:=hW;rw[gq]at hV;have hgs:gs=[]/\q=[]:=by
  cases gs with
  | nil=>exact⟨rfl,hV⟩
  | cons g gs=>exact hV.elim
 obtain⟨rfl,rfl⟩:=hgs;have hlt:=hW'.lt;simp only[FY]at hlt hW';let I:Nat->Prop:=λB=>B<W.heap.size
 obtain⟨Mf,h1,h2,h3⟩:=adu (I:=I) (λ_ h=>h) auq (λj t v e e'=>C8 j t v (by rwa [HV]at e) (by rwa [HV]at e')) hA;have TM:=axk Mf h1 W I Ac.no args (RH.empty W I λ_ h=>h) ⟨by simpa using h2,λk x u e e'=>h3 k x u e (by rw[HV];exact e')⟩;have aur:∀ u W',(∃ φ' I',RV W' I' φ' (.bool true) u/\RH W' I' φ' (Ab [])/\Step ([]:Heap).length (Ab []) Ac.no I W (Ab []) φ' I' W')->s.post enc P fn false true false false W args u W':=by
  rintro u W' ⟨φ',I',g1,_,g2⟩;cases g1;have hb:RowKit.Below W.heap.size W W':=⟨g2.ext.os,g2.ext.tape,g2.ext.output,g2.ext.size,λk hk=>g2.ext.keep k hk λhm=>Fw hm⟩
  have Yu:ds.length=fn.params.toList.length:=by
   have:∀ {ts:List TypeId} {vs:List Value} {ds:List (DataW H)} {ps:List MemPlace},DataW.TrodAll enc P W 0 (λ_=>true) true ts vs ds ps->ds.length=ts.length:=by
    intro ts
    induction ts with
    | nil=>intro vs ds ps h;cases vs <;> cases ds <;> first | rfl | exact h.elim
    | cons t ts ih=>intro vs ds ps h;cases vs <;> cases ds <;> first | exact h.elim | (obtain⟨_,_,_,h,_⟩:=h;simp[ih h])
   exact this hA
  have hsp:=aun ds Yu;have hone:(Value.bool true).resultList 1=[.bool true]:=rfl;refine ajI (pa:=p) (pv:=[]) hW' (λb sp hd=>?_) (λsp hs=>?_) (λ_ _=>?_) (by simp) hb (RowKit.ok_one hrt rfl (RowKit.okWide_bool_mk afZ _))
  ·rw[FY,hsp,hrt];exact⟨[],[],⟨1,by simp[DataW.trod,afZ,Value.cells]⟩,rfl,rfl⟩
  ·rw[FY,hsp];exact aam auo hb aup hA hlt hs
  ·rw[FY,hsp,gq];rfl
 rcases TM with ⟨_,h⟩ | ⟨u,W',h,_⟩
 ·exact Calls.mono h λe W' ⟨u,he,hu⟩=>⟨u,he,aur u W' hu⟩
 ·simp only[callFunc,Ce,run_program,Co,hfn,hname,hbody,I8,Hg,CS]at h;cases h
end
def Shape.list{P:Program}{n:Nat}{t e:TypeId}{av:List AV}(hu:P.underlying t=some (.slice e))(h:Shape P (n+1) t av) :
  ∃ c m f,av=[c]/\Br c (.tr (P.cellsOf e) m f)/\m<=maxLen /\ ∀ i,i<m->Shape P n e (f i):=by
 unfold Shape at h;rw[hu]at h;rcases h with rfl | ⟨es,rfl,h1,h2⟩
 ·exact⟨_,0,λ_=>[],rfl,.Ak,Bu _,λi hi=>absurd hi (C5 i)⟩
 ·refine⟨_,es.length,λi=>es.getD i [],rfl,.tr λi _=>.refl _,h1,λi hi=>?_⟩;have:es.getD i []=es[i]:=by simp[List.getD,BR hi]
  simp only[this];exact h2 _ (R5 hi)
def wrap64{x:Int}(h:-9223372036854775808<=x/\x<=9223372036854775807):Ao x=x:=by simp[IntKind.wrap,IntKind.signed,IntKind.bits,Int.bmod];omega
def MQ(base:Nat)(r:AV)(h:Heap):Option (AV × Heap):=
 let s:=norm base [0] {fr:=[(0,r)],hp:=h}
 some (Bb s.fr 0,s.hp)
def Tr(env:Env)(n f:Nat)(args:List AV)(hp:Heap):Option (AV × Heap):=Dl (R:=AV × Heap) env n f args hp (MQ hp.length)
def ZZ{P:Program}{env:Env}(Bh:DH P env)(D6:It P env)(hm:P.follows .mixedOrders=true){n f:Nat}{args:List AV}{hp:Heap}{r:AV}{h:Heap}
  (e:Tr env n f args hp=some (r,h)):At P f args hp r h/\hp.length<=h.length:=by
 obtain⟨res,hp',k1,k2,hc⟩:=Iw Bh D6 hm n f args hp _ _ e;cases k1;refine⟨λw I φ ra hh hx=>(hc w I φ ra hh hx).mono λu w' ⟨φ',I',a1,a2,a3⟩=>?_,ZV (s:={fr:=[(0,res)],hp:=hp'}) k2⟩;have hs:BC w' I' φ' {fr:=[(0,res)],hp:=hp'} {tmps:=#[u],defers:=[]}:=by
  refine⟨a2,λt=>?_⟩;cases t with
  | zero=>exact a1
  | succ t=>exact .undef _
 obtain⟨_,BO,n2,n3⟩:=Rp hp.length [0] hs k2;exact⟨BO,I',n2.fr 0,n2.hh,a3.trans n3⟩
def gPH{X:Type}(dec:List AV->Heap->X)(pre:X->Prop)(enc:X->List AV × Heap)(args:List AV)(hp:Heap):Prop:=pre (dec args hp)/\enc (dec args hp)=(args,hp)
def Af.nZ{X:Type}(f:Nat)(dec:List AV->Heap->X)(pre:X->Prop)(enc:X->List AV × Heap)(out:X->AV × Heap):Af:=
 {f:=f,cu:=λargs hp=>some {X:=X,g:=cd (gPH dec pre enc args hp),a:=dec args hp,r:=out}}
def Af.uz{P:Program}{X:Type}{f:Nat}{dec:List AV->Heap->X}{pre:X->Prop}{enc:X->List AV × Heap}{out:X->AV × Heap}
  (h:∀ x,pre x->At P f (enc x).1 (enc x).2 (out x).1 (out x).2/\(enc x).2.length<=(out x).2.length):(Af.nZ f dec pre enc out).Ok P:=by
 intro args hp A e hg;cases e;obtain⟨h1,h2⟩:=fM.1 hg;have:=h _ h1;rw[h2]at this;exact this
def Yv{R:Type}{X:Type}(dec:List AV->Heap->X)(pre:X->Prop)(enc:X->List AV × Heap)(A:List AV)(H:Heap)(k:X->Option R):Option R:=gX (gPH dec pre enc A H) (dec A H) k
def aew{R:Type}{X:Type}{dec:List AV->Heap->X}{pre:X->Prop}{enc:X->List AV × Heap}{A:List AV}{H:Heap}{k:X->Option R}(x:X)(h1:dec A H=x)(h2:pre x)(h3:enc x=(A,H)) :
  Yv dec pre enc A H k=k x:=by
 subst h1;exact xw ⟨h2,h3⟩
def oJ(n:Nat)(f:Nat->List AV)(m:Nat)(g:Nat->List AV):Nat->List AV:=
 λi=>bif Nat.blt i n then f i else bif Nat.blt i (n+m)then g (i - n)else f n
def acg{X:Type}(e:X->List AV)(z:X)(l k:List X):oJ l.length (λi=>e (l.getD i z)) k.length (λi=>e (k.getD i z))=λi=>e ((l++k).getD i z):=by
 funext i;unfold oJ;by_cases h:i<l.length
 ·have:Nat.blt i l.length=true:=by rw[CW];exact h
  rw[this,Ae];simp[List.getD,DY h]
 ·have h0:Nat.blt i l.length=false:=by
   cases hb:Nat.blt i l.length with
   | false=>rfl
   | true=>rw[CW]at hb;exact absurd hb h
  rw[h0,Aj];by_cases h1:i<l.length+k.length
  ·have:Nat.blt i (l.length+k.length)=true:=by rw[CW];exact h1
   rw[this,Ae];simp[List.getD,FC (Nat.le_of_not_lt h)]
  ·have:Nat.blt i (l.length+k.length)=false:=by
    cases hb:Nat.blt i (l.length+k.length)with
    | false=>rfl
    | true=>rw[CW]at hb;exact absurd hb h1
   rw[this,Aj];have e1:l[l.length]? = none:=CK (Ar _);have e2:(l++k)[i]? = none:=CK (by simp;omega);simp[List.getD,e1,e2]
def ach{X:Type}(e:X->List AV)(z:X)(l k:List X):oJ l.length (λi=>e (l.getD i z)) k.length (λi=>(k.map e).getD i [])=λi=>e ((l++k).getD i z):=by
 rw[<- acg e z l k];funext i;unfold oJ;cases h0:Nat.blt i l.length with
 | true=>rfl
 | false=>
  cases h1:Nat.blt i (l.length+k.length)with
  | false=>rfl
  | true=>
   simp only[Aj,Ae];rw[CW]at h1;have hi:l.length<=i:=by
    rcases Cj i l.length with h | h
    ·rw[show Nat.blt i l.length=true by rw[CW];exact h]at h0;cases h0
    ·exact h
   have:i - l.length<k.length:=by omega
   simp[List.getD,BR this]
def drop_cons{X:Type}{l:List X}{i:Nat}{z:X}(h:i<l.length):l.drop i=l.getD i z::l.drop (i+1):=by rw[List.drop_eq_getElem_cons h];simp[List.getD,BR h]
def Cd{a b:Nat}(h:a<b):Nat.blt a b=true:=by rw[CW];exact h
def Js{a b:Nat}(h:b<=a):Nat.blt a b=false:=by
 cases hb:Nat.blt a b with
 | false=>rfl
 | true=>rw[CW]at hb;omega
def D3{a b:Nat}(h:a<=b):Nat.ble a b=true:=by rw[Nat.ble_eq];exact h
def beq_false{a b:Nat}(h:a ≠ b):Nat.beq a b=false:=by
 cases hb:Nat.beq a b with
 | false=>rfl
 | true=>exact absurd (BN hb) h
def beq_true{a b:Nat}(h:a=b):Nat.beq a b=true:=by subst h;exact Nat.beq_refl a
def Af.Ly{X:Type}(f:Nat)(dec:List AV->X)(pre:X->Prop)(enc:X->List AV)(out:X->AV × Heap):Af:=
 {f:=f,cu:=λargs hp=>match hp with
   | []=>some {X:=X,g:=cd (gP dec pre enc args),a:=dec args,r:=out}
   | _=>none}
def Af.Mn{P:Program}{X:Type}{f:Nat}{dec:List AV->X}{pre:X->Prop}{enc:X->List AV}{out:X->AV × Heap}
  (h:∀ x,pre x->At P f (enc x) [] (out x).1 (out x).2):(Af.Ly f dec pre enc out).Ok P:=by
 intro args hp A e hg;cases hp with
 | nil=>cases e;obtain⟨h1,h2⟩:=fM.1 hg;exact⟨(h _ h1).args h2,Bu _⟩
 | cons x r=>cases e
def wj{X:Type}(sz:Nat)(e:X->List AV)(z:X)(l:List X):AV × Heap:=(.sl sz 0 0 l.length 0,[.seq true sz l.length λi=>e (l.getD i z)])
end Go.AM
namespace Go.Md
open Go.AM
structure Au where
 re:Nat
 im:Nat
deriving DecidableEq,Inhabited
def PB(b:Bool):List AV:=[.bool b]
def Rq(cs:List AV):Bool:=Kr cs 0
def E6(l:List Bool):AV:=DQ 1 PB default l
def mE(l:List Bool):Bm Rq (E6 l)=l:=Py (λ_=>rfl) l
structure Be where
 node:Int
 BD:Int
deriving DecidableEq,Inhabited
def DM(x:Be):List AV:=[.int .i64 x.node,.int .i64 x.BD]
def G0(cs:List AV):Be:=⟨AS cs 0,AS cs 1⟩
def ajg(x:Be):G0 (DM x)=x:=rfl
def CD(l:List Be):AV:=DQ 2 DM default l
def Rl(l:List Be):Bm G0 (CD l)=l:=Py ajg l
structure Entry where
 Ag:Au
 kind:Int
 key:List UInt8
 val:List UInt8
 write:Bool
 del:Bool
 Ah:Int
 num:Int
 code:Int
 res:List UInt8
 IT:Bool
deriving DecidableEq,Inhabited
def Bt(x:Entry):List AV:=[.Al .f64 x.Ag.re x.Ag.im,.int .i64 x.kind,.str x.key,.str x.val,.bool x.write,.bool x.del,.int .i64 x.Ah,.int .i64 x.num,.int .i64 x.code,.str x.res,.bool x.IT]
def DG(cs:List AV):Entry:=⟨⟨(Ci cs 0).1,(Ci cs 0).2⟩,AS cs 1,Ia cs 2,Ia cs 3,Kr cs 4,Kr cs 5,AS cs 6,AS cs 7,AS cs 8,Ia cs 9,Kr cs 10⟩
def ZD(x:Entry):DG (Bt x)=x:=rfl
def AY(l:List Entry):AV:=DQ 11 Bt default l
def Of(l:List Entry):Bm DG (AY l)=l:=Py ZD l
structure Seen where
 Ah:Int
 num:Int
 Ag:Au
 kind:Int
 code:Int
 res:List UInt8
 IT:Bool
deriving DecidableEq,Inhabited
def BH(x:Seen):List AV:=[.int .i64 x.Ah,.int .i64 x.num,.Al .f64 x.Ag.re x.Ag.im,.int .i64 x.kind,.int .i64 x.code,.str x.res,.bool x.IT]
def EU(cs:List AV):Seen:=⟨AS cs 0,AS cs 1,⟨(Ci cs 2).1,(Ci cs 2).2⟩,AS cs 3,AS cs 4,Ia cs 5,Kr cs 6⟩
def eB(x:Seen):EU (BH x)=x:=rfl
def B7(l:List Seen):AV:=DQ 7 BH default l
def Nq(l:List Seen):Bm EU (B7 l)=l:=Py eB l
structure View where
 AQ:Int
 Az:Int
 gen:Int
 phase:Int
 chain:List Be
deriving DecidableEq,Inhabited
def UY(x:View):List AV:=[.int .i64 x.AQ,.int .i64 x.Az,.int .i64 x.gen,.int .i64 x.phase,CD x.chain]
def Xn(cs:List AV):View:=⟨AS cs 0,AS cs 1,AS cs 2,AS cs 3,Hi G0 cs 4⟩
def ajJ(x:View):Xn (UY x)=x:=by show(⟨x.AQ,x.Az,x.gen,x.phase,Bm G0 (CD x.chain)⟩:View)=x;rw[Rl]
def Iq(l:List View):AV:=DQ 5 UY default l
def aci(l:List View):Bm Xn (Iq l)=l:=Py ajJ l
structure BZ where
 floor:Au
 last:Au
 log:List Entry
deriving DecidableEq,Inhabited
def Cn(x:BZ):List AV:=[.Al .f64 x.floor.re x.floor.im,.Al .f64 x.last.re x.last.im,AY x.log]
def KI(cs:List AV):BZ:=⟨⟨(Ci cs 0).1,(Ci cs 0).2⟩,⟨(Ci cs 1).1,(Ci cs 1).2⟩,Hi DG cs 2⟩
def Rh(x:BZ):KI (Cn x)=x:=by show(⟨⟨x.floor.re,x.floor.im⟩,⟨x.last.re,x.last.im⟩,Bm DG (AY x.log)⟩:BZ)=x;rw[Of]
structure Op where
 kind:Int
 key:List UInt8
 val:List UInt8
 Bc:List UInt8
 IU:Bool
deriving DecidableEq,Inhabited
def P5(x:Op):List AV:=[.int .i64 x.kind,.str x.key,.str x.val,.str x.Bc,.bool x.IU]
def aH(cs:List AV):Op:=⟨AS cs 0,Ia cs 1,Ia cs 2,Ia cs 3,Kr cs 4⟩
structure aus where
 floor:Au
 last:Au
 gen:Int
 log:List Entry
 seen:List Seen
deriving DecidableEq,Inhabited
structure Ad where
 kind:Int
 src:Int
 dst:Int
 BD:Int
 KL:Int
 AQ:Int
 Az:Int
 gen:Int
 Ah:Int
 num:Int
 a:Int
 code:Int
 has:Bool
 fresh:Bool
 key:List UInt8
 val:List UInt8
 Ag:Au
 floor:Au
 op:Op
 entries:List Entry
 chain:List Be
 views:List View
 image:aus
deriving DecidableEq,Inhabited
def Aq(x:Ad):List AV:=[.int .i64 x.kind,.int .i64 x.src,.int .i64 x.dst,.int .i64 x.BD,.int .i64 x.KL,.int .i64 x.AQ,.int .i64 x.Az,.int .i64 x.gen,.int .i64 x.Ah,.int .i64 x.num,.int .i64 x.a,.int .i64 x.code,.bool x.has,.bool x.fresh,.str x.key,.str x.val,.Al .f64 x.Ag.re x.Ag.im,.Al .f64 x.floor.re x.floor.im,.int .i64 x.op.kind,.str x.op.key,.str x.op.val,.str x.op.Bc,.bool x.op.IU,AY x.entries,CD x.chain,Iq x.views,.Al .f64 x.image.floor.re x.image.floor.im,.Al .f64 x.image.last.re x.image.last.im,.int .i64 x.image.gen,AY x.image.log,B7 x.image.seen]
def Dj(cs:List AV):Ad:=⟨AS cs 0,AS cs 1,AS cs 2,AS cs 3,AS cs 4,AS cs 5,AS cs 6,AS cs 7,AS cs 8,AS cs 9,AS cs 10,AS cs 11,Kr cs 12,Kr cs 13,Ia cs 14,Ia cs 15,⟨(Ci cs 16).1,(Ci cs 16).2⟩,⟨(Ci cs 17).1,(Ci cs 17).2⟩,⟨AS cs 18,Ia cs 19,Ia cs 20,Ia cs 21,Kr cs 22⟩,Hi DG cs 23,Hi G0 cs 24,Hi Xn cs 25,⟨⟨(Ci cs 26).1,(Ci cs 26).2⟩,⟨(Ci cs 27).1,(Ci cs 27).2⟩,AS cs 28,Hi DG cs 29,Hi EU cs 30⟩⟩
def Ml(x:Ad):Dj (Aq x)=x:=by show(⟨x.kind,x.src,x.dst,x.BD,x.KL,x.AQ,x.Az,x.gen,x.Ah,x.num,x.a,x.code,x.has,x.fresh,x.key,x.val,⟨x.Ag.re,x.Ag.im⟩,⟨x.floor.re,x.floor.im⟩,⟨x.op.kind,x.op.key,x.op.val,x.op.Bc,x.op.IU⟩,Bm DG (AY x.entries),Bm G0 (CD x.chain),Bm Xn (Iq x.views),⟨⟨x.image.floor.re,x.image.floor.im⟩,⟨x.image.last.re,x.image.last.im⟩,x.image.gen,Bm DG (AY x.image.log),Bm EU (B7 x.image.seen)⟩⟩:Ad)=x;simp only[Of,Rl,aci,Nq]
def BB(l:List Ad):AV:=DQ 31 Aq default l
def fv(l:List Ad):Bm Dj (BB l)=l:=Py Ml l
structure Av where
 AQ:Int
 self:Be
 view:View
 frozen:Int
 tail:BZ
 seen:List Seen
 B5:Au
 synced:List Bool
deriving DecidableEq,Inhabited
def AJ(x:Av):List AV:=[.int .i64 x.AQ,.int .i64 x.self.node,.int .i64 x.self.BD,.int .i64 x.view.AQ,.int .i64 x.view.Az,.int .i64 x.view.gen,.int .i64 x.view.phase,CD x.view.chain,.int .i64 x.frozen,.Al .f64 x.tail.floor.re x.tail.floor.im,.Al .f64 x.tail.last.re x.tail.last.im,AY x.tail.log,B7 x.seen,.Al .f64 x.B5.re x.B5.im,E6 x.synced]
def Fj(cs:List AV):Av:=⟨AS cs 0,⟨AS cs 1,AS cs 2⟩,⟨AS cs 3,AS cs 4,AS cs 5,AS cs 6,Hi G0 cs 7⟩,AS cs 8,⟨⟨(Ci cs 9).1,(Ci cs 9).2⟩,⟨(Ci cs 10).1,(Ci cs 10).2⟩,Hi DG cs 11⟩,Hi EU cs 12,⟨(Ci cs 13).1,(Ci cs 13).2⟩,Hi Rq cs 14⟩
def GZ(x:Av):Fj (AJ x)=x:=by show(⟨x.AQ,⟨x.self.node,x.self.BD⟩,⟨x.view.AQ,x.view.Az,x.view.gen,x.view.phase,Bm G0 (CD x.view.chain)⟩,x.frozen,⟨⟨x.tail.floor.re,x.tail.floor.im⟩,⟨x.tail.last.re,x.tail.last.im⟩,Bm DG (AY x.tail.log)⟩,Bm EU (B7 x.seen),⟨x.B5.re,x.B5.im⟩,Bm Rq (E6 x.synced)⟩:Av)=x;rw[Rl,Of,Nq,mE]
end Go.Md
namespace Go.Fl
open Ieee
def fl(n:Nat):Nat:=double.nearest false n 0
def sR{n:Nat}(h:n ≠ 0)(s:Nat):(n*2 ^ s).log2=n.log2+s:=by
 have h1:=(Nat.le_log2 h).1 (Ar _);have h2:n<2 ^ (n.log2+1):=Nat.lt_log2_self;have hne:n*2 ^ s ≠ 0:=Nat.mul_ne_zero h (by simp);apply Nat.le_antisymm
 ·refine Nat.lt_succ_iff.1 ((Nat.log2_lt hne).2 ?_)
  calc n*2 ^ s<2 ^ (n.log2+1)*2 ^ s:=gi h2 (Nat.two_pow_pos s)
   _=2 ^ (n.log2+s+1):=by rw[<- Nat.pow_add];congr 1;omega
 ·refine(Nat.le_log2 hne).2 ?_;rw[Nat.pow_add];exact KU _ h1
def acj(n d:Nat):Toward.even.cut false (n*2 ^ d) d=n:=by
 unfold Toward.cut;by_cases h:n=0
 ·subst h;simp
 ·have hm:min d ((n*2 ^ d).log2+2)=d:=by rw[sR h];omega
  simp only[hm,Nat.one_shiftLeft];have h1:n*2 ^ d / 2 ^ d=n:=Nat.mul_div_cancel _ (Nat.two_pow_pos d);have h2:n*2 ^ d % 2 ^ d=0:=Nat.mul_mod_left n (2 ^ d);rw[h1,h2];have:(2 ^ d == 0)=false:=by simp
  simp[this]
def amQ(n d:Nat):Toward.zero.cut false (n*2 ^ d) d=n:=by
 unfold Toward.cut;by_cases h:n=0
 ·subst h;simp
 ·have hm:min d ((n*2 ^ d).log2+2)=d:=by rw[sR h];omega
  simp only[hm,Nat.one_shiftLeft];rw[Nat.mul_div_cancel _ (Nat.two_pow_pos d)];simp
def abl{n:Nat}(h:n ≠ 0)(hn:n<2 ^ 53):n.log2<=52:=by have:=(Nat.log2_lt h).2 hn;omega
def tA{n:Nat}(h:n ≠ 0)(hn:n<2 ^ 53){u:Nat}(hu:u<=1074) :
  double.nearest false (n*2 ^ u) (-(u:Int))=(n.log2+1022)*2 ^ 52+n*2 ^ (52 - n.log2):=by
 have hl:=abl h hn;unfold Format.nearest;have hne:n*2 ^ u ≠ 0:=Nat.mul_ne_zero h (by simp);have pV:double.leastPlace = -1074:=by decide
 have hfb:double.fractionBits=52:=rfl;have V9:double.binade=2 ^ 52:=rfl;rw[AE hne,sR h,pV,hfb,V9];have RM:max (-(u:Int)+((n.log2+u:Nat):Int) - (52:Nat)) (-1074)=(n.log2:Int) - 52:=by omega
 simp only[RM];have hk:Toward.even.cut false ((n*2 ^ u) <<< (-(u:Int) - ((n.log2:Int) - 52)).toNat) ((n.log2:Int) - 52 - -(u:Int)).toNat=n*2 ^ (52 - n.log2):=by
  rcases Nat.le_total u (52 - n.log2)with hc | hc
  ·have e1:(-(u:Int) - ((n.log2:Int) - 52)).toNat=52 - n.log2 - u:=by omega
   have e2:((n.log2:Int) - 52 - -(u:Int)).toNat=0:=by omega
   rw[e1,e2,Nat.shiftLeft_eq,Nat.mul_assoc,<- Nat.pow_add,show u+(52 - n.log2 - u)=52 - n.log2 by omega];have:=acj (n*2 ^ (52 - n.log2)) 0;simpa using this
  ·have e1:(-(u:Int) - ((n.log2:Int) - 52)).toNat=0:=by omega
   have e2:((n.log2:Int) - 52 - -(u:Int)).toNat=u - (52 - n.log2):=by omega
   rw[e1,e2];have e3:(n*2 ^ u) <<< 0=n*2 ^ (52 - n.log2)*2 ^ (u - (52 - n.log2)):=by rw[Nat.shiftLeft_zero,Nat.mul_assoc,<- Nat.pow_add,show 52 - n.log2+(u - (52 - n.log2))=u by omega]
   rw[e3,acj]
 rw[hk];have e4:((n.log2:Int) - 52 - -1074).toNat=n.log2+1022:=by omega
 rw[e4];have yF:double.infRung=2047*2 ^ 52:=by decide
 rw[yF];have hlt:n*2 ^ (52 - n.log2)<2 ^ 53:=by
  calc n*2 ^ (52 - n.log2)<2 ^ (n.log2+1)*2 ^ (52 - n.log2):=gi Nat.lt_log2_self (Nat.two_pow_pos _)
   _=2 ^ 53:=by rw[<- Nat.pow_add];congr 1;omega
 have:(n.log2+1022)*2 ^ 52+n*2 ^ (52 - n.log2)<=2047*2 ^ 52:=by omega
 rw[Nat.min_eq_left this];rfl
def aax(u:Int):double.nearest false 0 u=0:=by simp[Format.nearest,Format.word]
def aj8{n:Nat}(hn:n<2 ^ 53){u:Nat}(hu:u<=1074):double.nearest false (n*2 ^ u) (-(u:Int))=fl n:=by
 by_cases h:n=0
 ·subst h;simp[fl,aax]
 ·rw[tA h hn hu];have:=tA h hn (u:=0) (by omega);simp at this;exact this.symm
def fw{n:Nat}(hn:n<2 ^ 53):∃ s:Nat,s<=1074/\double.read (fl n)=.number false (n*2 ^ s) (-(s:Int)):=by
 have pV:double.leastPlace = -1074:=by decide
 have V9:double.binade=2 ^ 52:=rfl;have hsw:double.signWeight=2 ^ 63:=rfl;have yF:double.infRung=2047*2 ^ 52:=by decide
 by_cases h:n=0
 ·subst h;have h0:∀ s:Nat,s=1074->double.read (fl 0)=.number false (0*2 ^ s) (-(s:Int)):=by
   intro s hs;rw[JF];simp[fl,aax,Format.read,pV,V9,hsw,hs]
  obtain⟨s,hs⟩:∃ s:Nat,s=1074:=⟨_,rfl⟩
  exact⟨s,by rw[hs];exact Ar _,h0 s hs⟩
 ·have hl:=abl h hn;refine⟨52 - n.log2,by omega,?_⟩;have hw:fl n=(n.log2+1022)*2 ^ 52+n*2 ^ (52 - n.log2):=by
   have:=tA h hn (u:=0) (by omega);simp at this;exact this
  rw[hw];have hlt:n*2 ^ (52 - n.log2)<2 ^ 53:=by
   calc n*2 ^ (52 - n.log2)<2 ^ (n.log2+1)*2 ^ (52 - n.log2):=gi Nat.lt_log2_self (Nat.two_pow_pos _)
    _=2 ^ 53:=by rw[<- Nat.pow_add];congr 1;omega
  have Ep:2 ^ 52<=n*2 ^ (52 - n.log2):=by
   calc 2 ^ 52=2 ^ n.log2*2 ^ (52 - n.log2):=by rw[<- Nat.pow_add];congr 1;omega
    _<=n*2 ^ (52 - n.log2):=KU _ ((Nat.le_log2 h).1 (Ar _))
  generalize n*2 ^ (52 - n.log2)=M at hlt Ep ⊢;generalize n.log2=L at hl ⊢;have p52:(2:Nat) ^ 52=4503599627370496:=by decide
  have p53:(2:Nat) ^ 53=9007199254740992:=by decide
  have p63:(2:Nat) ^ 63=9223372036854775808:=by decide
  rw[p53]at hlt;rw[p52]at Ep;obtain⟨r,rfl⟩:∃ r,M=4503599627370496+r:=⟨M - 4503599627370496,by omega⟩
  have hr:r<4503599627370496:=by omega
  unfold Format.read;simp only[hsw,V9,yF,pV,p52,p63];have e1:((L+1022)*4503599627370496+(4503599627370496+r)) / 9223372036854775808 % 2=0:=by rw[Nat.div_eq_of_lt (by omega)]
  have e2:((L+1022)*4503599627370496+(4503599627370496+r)) % 9223372036854775808=(L+1022)*4503599627370496+(4503599627370496+r):=Nat.mod_eq_of_lt (by omega);rw[e1,e2,AE (by omega),Ay (by omega)];have e3:((L+1022)*4503599627370496+(4503599627370496+r)) % 4503599627370496=r:=by omega
  have e4:((L+1022)*4503599627370496+(4503599627370496+r)) / 4503599627370496=L+1023:=by omega
  rw[e3,e4];congr 1;omega
def abm{n s t:Nat}:signed false (n*2 ^ s) (-(s:Int) - min (-(s:Int)) (-(t:Int))).toNat=(n*2 ^ max s t:Nat):=by unfold signed;simp only[I8,Hg,Nat.shiftLeft_eq];congr 1;rw[Nat.mul_assoc,<- Nat.pow_add];congr 2;omega
def aaQ{n s t:Nat}:signed false (n*2 ^ t) (-(t:Int) - min (-(s:Int)) (-(t:Int))).toNat=(n*2 ^ max s t:Nat):=by unfold signed;simp only[I8,Hg,Nat.shiftLeft_eq];congr 1;rw[Nat.mul_assoc,<- Nat.pow_add];congr 2;omega
def uA{n m:Nat}(hn:n<2 ^ 53)(hm:m<2 ^ 53):double.order (fl n) (fl m)=some (compare n m):=by
 obtain⟨s,_,e1⟩:=fw hn;obtain⟨t,_,e2⟩:=fw hm;unfold Format.order;rw[e1,e2];unfold Datum.order;simp only[abm,aaQ];have hp:0<2 ^ max s t:=Nat.two_pow_pos _;congr 1;rcases Qg n m with h | h | h
 ·have:n*2 ^ max s t<m*2 ^ max s t:=gi h hp;rw[Nat.compare_eq_lt.2 h,Int.compare_eq_lt.2 (by exact_mod_cast this)]
 ·subst h;rw[Nat.compare_eq_eq.2 rfl,Int.compare_eq_eq.2 rfl]
 ·have:m*2 ^ max s t<n*2 ^ max s t:=gi h hp;rw[Nat.compare_eq_gt.2 h,Int.compare_eq_gt.2 (by exact_mod_cast this)]
def amR{n:Nat}(hn:n<2 ^ 53):(double.read (fl n)).toInt .zero=some n:=by
 obtain⟨s,_,e1⟩:=fw hn;rw[e1];unfold Datum.toInt Datum.integral;simp only;have e2:(-(s:Int)).toNat=0:=by omega
 have e3:(- -(s:Int)).toNat=s:=by omega
 rw[e2,e3,Nat.shiftLeft_zero,amQ];simp[signed]
def arV{n m:Nat}(h:n+m<2 ^ 53):double.add (fl n) (fl m)=some (fl (n+m)):=by
 obtain⟨s,hs,e1⟩:=fw (n:=n) (by omega);obtain⟨t,ht,e2⟩:=fw (n:=m) (by omega);unfold Format.add;rw[e1,e2];unfold Datum.sum;simp only[abm,aaQ,FX];unfold Format.write;have axl:((n*2 ^ max s t:Nat):Int)+((m*2 ^ max s t:Nat):Int)=(((n+m)*2 ^ max s t:Nat):Int):=by rw[F0];simp
 have hb:min (-(s:Int)) (-(t:Int)) = -((max s t:Nat):Int):=by omega
 rw[axl,hb];have axm:(if(((n+m)*2 ^ max s t:Nat):Int)=0 then false&&false else decide ((((n+m)*2 ^ max s t:Nat):Int)<0))=false:=by
  split
  ·rfl
  ·rw[AN (by omega)]
 rw[axm,Int.natAbs_natCast];show some (double.nearest false ((n+m)*2 ^ max s t) (-((max s t:Nat):Int)))=_;rw[aj8 h (by omega)]
end Go.Fl
end
section
open Go Go.AM Go.Md Go.Fl
open Ieee (double)
namespace Go.Wk
def LB:Nat:=1000000
def FJ(n:Int):Prop:=-9223372036854775808<=n/\n<=9223372036854775807
def fI(b:Nat):Option Int:=(FloatKind.f64.decode b).toInt .zero
def vE(v:Au):Int:=(fI v.re).getD 0
def vN(v:Au):Int:=(fI v.im).getD 0
def jC(b:Nat):Prop:=(fI b).isSome=true/\IntKind.i64.min<=(fI b).getD 0/\(fI b).getD 0<=IntKind.i64.max
def axn(v:Au):Prop:=jC v.re/\jC v.im
def eV(v:Au):AV:=.Al .f64 v.re v.im
def vr(e n:Nat):Au:=⟨fl e,fl n⟩
def fN{n m:Nat}(hn:n<2 ^ 53)(hm:m<2 ^ 53):Db .f64 (fl n) (fl m)=decide (n=m):=by
 have:FloatKind.f64.format.order (fl n) (fl m)=some (compare n m):=uA hn hm;unfold Db;rw[this];rcases Qg n m with h | h | h
 ·rw[Nat.compare_eq_lt.2 h,AN (by omega)];rfl
 ·rw[Nat.compare_eq_eq.2 h,Ax h];rfl
 ·rw[Nat.compare_eq_gt.2 h,AN (by omega)];rfl
def wk{n m:Nat}(hn:n<2 ^ 53)(hm:m<2 ^ 53):ID .f64 (fl n) (fl m)=decide (n<m):=by
 have:FloatKind.f64.format.order (fl n) (fl m)=some (compare n m):=uA hn hm;unfold ID;rw[this];rcases Qg n m with h | h | h
 ·rw[Nat.compare_eq_lt.2 h,Ax h];rfl
 ·rw[Nat.compare_eq_eq.2 h,AN (by omega)];rfl
 ·rw[Nat.compare_eq_gt.2 h,AN (by omega)];rfl
def XJ{n:Nat}(hn:n<2 ^ 53):fI (fl n)=some (n:Int):=amR hn
def aex{n:Nat}(hn:n<2 ^ 53):jC (fl n):=by
 unfold jC;rw[XJ hn];have e1:IntKind.i64.min = -9223372036854775808:=by decide
 have e2:IntKind.i64.max=9223372036854775807:=by decide
 rw[e1,e2];refine⟨rfl,?_,?_⟩ <;> simp only[LK] <;> omega
def fx(n:Nat):FloatKind.f64.nearest (n:Int)=fl n:=by show double.nearest (decide ((n:Int)<0)) (n:Int).natAbs 0=fl n;rw[AN (by omega),Int.natAbs_natCast];rfl
def arW:fl 1=4607182418800017408:=by decide
def aph{n:Nat}(h:n+1<2 ^ 53):FloatKind.f64.format.add (fl n) 4607182418800017408=some (fl (n+1)):=by rw[<- arW];exact arV h
def AU(v:Au):Prop:=∃ e n:Nat,e<2 ^ 40/\n<2 ^ 40/\v=vr e n
def AU.int{v:Au}(h:AU v):axn v:=by obtain⟨e,n,he,hn,rfl⟩:=h;exact⟨aex (by omega),aex (by omega)⟩
def ep(v:Au):Nat:=(vE v).toNat
def nu(v:Au):Nat:=(vN v).toNat
def gr{e n:Nat}(h:e<2 ^ 40):ep (vr e n)=e:=by show((fI (fl e)).getD 0).toNat=e;rw[XJ (by omega)];rfl
def aI{e n:Nat}(h:n<2 ^ 40):nu (vr e n)=n:=by show((fI (fl n)).getD 0).toNat=n;rw[XJ (by omega)];rfl
def AU.eta{v:Au}(h:AU v):v=vr (ep v) (nu v):=by obtain⟨e,n,he,hn,rfl⟩:=h;rw[gr he,aI hn]
def AU.lt{v:Au}(h:AU v):ep v<2 ^ 40/\nu v<2 ^ 40:=by obtain⟨e,n,he,hn,rfl⟩:=h;rw[gr he,aI hn];exact⟨he,hn⟩
def AP(a b:Au):Bool:=bif decide (ep a=ep b)then decide (nu a<nu b)else decide (ep a<ep b)
def Cf(a b:Au):Au:=bif AP a b then b else a
def ajs{a b:Au}(ha:AU a)(hb:AU b)(h:AP a b=false)(h':AP b a=false):a=b:=by
 rw[ha.eta,hb.eta];unfold AP at h h';by_cases e:ep a=ep b
 ·rw[Ax e,Ae]at h;rw[Ax e.symm,Ae]at h';have h1:=Gk h;have h2:=Gk h';have:nu a=nu b:=by omega
  rw[e,this]
 ·rw[AN e,Aj]at h;rw[AN λx=>e x.symm,Aj]at h';have h1:=Gk h;have h2:=Gk h';omega
def wm{e n f m:Nat}(he:e<2 ^ 40)(hn:n<2 ^ 40)(hf:f<2 ^ 40)(hm:m<2 ^ 40):AP (vr e n) (vr f m)=bif decide (e=f)then decide (n<m)else decide (e<f):=by unfold AP;rw[gr he,gr hf,aI hn,aI hm]
def amS{X:Type}(c:Bool)(a b:X):(bif c then some a else some b)=some (bif c then a else b):=by cases c <;> rfl
def adv{X:Type}(c:Bool)(a b:X):(bif !c then a else b)=bif c then b else a:=by cases c <;> rfl
def ahV{a b:Au}(ha:AU a)(hb:AU b):(bif Db .f64 a.re b.re then ID .f64 a.im b.im else ID .f64 a.re b.re)=AP a b:=by obtain⟨e,n,he,hn,rfl⟩:=ha;obtain⟨f,m,hf,hm,rfl⟩:=hb;rw[wm he hn hf hm];show(bif Db .f64 (fl e) (fl f)then ID .f64 (fl n) (fl m)else ID .f64 (fl e) (fl f))=_;rw[fN (by omega) (by omega),wk (by omega) (by omega),wk (by omega) (by omega)]
def alh{a b:Au}(ha:AU a)(hb:AU b):(bif AP b a then a else b)=Cf a b:=by
 unfold Cf;by_cases h:AP b a=true
 ·have:AP a b=false:=by
   unfold AP at h ⊢;by_cases e:ep a=ep b
   ·rw[Ax e.symm,Ae]at h;rw[Ax e,Ae];have:=El h;exact AN (by omega)
   ·rw[AN λx=>e x.symm,Aj]at h;rw[AN e,Aj];have:=El h;exact AN (by omega)
  rw[h,this];rfl
 ·have h:=Bool.eq_false_iff.2 h;rw[h,Aj];by_cases h':AP a b=true
  ·rw[h'];rfl
  ·have h':=Bool.eq_false_iff.2 h';rw[h',Aj];exact(ajs ha hb h' h).symm
def n5{v:Au}(h:AU v):vE v=(ep v:Int):=by obtain⟨e,n,he,hn,rfl⟩:=h;rw[gr he];show(fI (fl e)).getD 0=_;rw[XJ (by omega)];rfl
def aJ{v:Au}(h:AU v):vN v=(nu v:Int):=by obtain⟨e,n,he,hn,rfl⟩:=h;rw[aI hn];show(fI (fl n)).getD 0=_;rw[XJ (by omega)];rfl
def m4(a b:Nat):decide ((a:Int)=(b:Int))=decide (a=b):=by
 by_cases h:a=b
 ·rw[h];simp
 ·rw[AN h,AN (by omega)]
def adw(a b:Nat):decide ((a:Int)<(b:Int))=decide (a<b):=by simp
def idxFrom(m:Be):List Be->Nat->Int
 | [],_=>-1
 | x::r,i=>if x=m then i else idxFrom m r (i+1)
def idx(l:List Be)(m:Be):Int:=idxFrom m l 0
def RP(r:Av):Bool:=!decide (r.view.phase=0)&&decide (r.frozen<=r.view.Az)
def Ry(r:Av):Bool:=RP r&&decide (r.view.phase=3)
def Xt(r:Av):Bool:=RP r&&decide (r.view.phase=2)
def Rr:List Be->Be->Bool
 | [],_=>false
 | x::_,m=>decide (x=m)
def CH(r:Av):Bool:=Ry r&&Rr r.view.chain r.self
def Ir(r:Av):Au:=bif CH r then bif decide (r.view.chain.length=1)then r.tail.last else r.B5 else⟨0,0⟩
def O7(r:Av)(x:Be)(k:Int):Ad:=⟨k,r.self.node,x.node,x.BD,r.self.BD,r.AQ,r.view.Az,0,0,0,0,0,false,false,[],[],⟨0,0⟩,⟨0,0⟩,⟨0,[],[],[],false⟩,[],[],[],⟨⟨0,0⟩,⟨0,0⟩,0,[],[]⟩⟩
def GH(e:Entry):Seen:=⟨e.Ah,e.num,e.Ag,e.kind,e.code,e.res,e.IT⟩
def aaR(m:Be):∀ (l:List Be) (i:Nat),-1<=idxFrom m l i/\idxFrom m l i<(i+l.length:Nat)
 | [],i=>by simp only[idxFrom,U8];omega
 | x::r,i=>by have h:=aaR m r (i+1);simp only[idxFrom,CR];split <;> omega
def aey(l:List Be)(m:Be):-1<=idx l m/\idx l m<l.length:=by have h:=aaR m l 0;unfold idx;omega
def Jw(l:List Be)(m:Be)(d:Int):Option Be:=
 if idx l m<0\/idx l m+d<0\/(l.length:Int)<=idx l m+d then none else some (l.getD (idx l m+d).toNat default)
def gu(r:Av):Au:=bif(Jw r.view.chain r.self 1).isSome then r.B5 else r.tail.last
def n6(r:Av):List Ad:=match Jw r.view.chain r.self (-1)with
 | none=>[]
 | some m=>[{O7 r m 14 with Ag:=gu r}]
def aL(r:Av)(m:Be):Ad:={O7 r m 11 with gen:=r.view.gen,chain:=r.view.chain,image:=⟨r.tail.floor,r.tail.last,r.view.gen,r.tail.log,r.seen⟩}
def gv(r:Av)(m:Be):Ad:={O7 r m 13 with floor:=r.tail.floor,entries:=r.tail.log.filter λe=>AP r.B5 e.Ag}
def fP(r:Av):List Be->List Bool->List Ad
 | m::ms,s::ss=>bif s then fP r ms ss else aL r m::fP r ms ss
 | _,_=>[]
def aez(r:Av):List Ad:=match Jw r.view.chain r.self 1 with
 | none=>[]
 | some m=>[gv r m]
def BL(r:Av):List Ad:=bif Xt r then fP r r.view.chain r.synced else bif Ry r then aez r++n6 r else []
def GC:List Seen->Seen->List Seen
 | [],s=>[s]
 | a::l,s=>bif decide (a.num<s.num)then s::l else a::l
def XK(r:Av)(e:Entry):Av:={r with tail:=⟨r.tail.floor,e.Ag,r.tail.log++[e]⟩,seen:=GC r.seen (GH e)}
def Kh(r:Av)(e:Entry):Av × Bool:=bif AP r.tail.last e.Ag then(XK r e,true)else(r,false)
def n7(t:BZ)(v:Au):BZ:=⟨Cf t.floor v,Cf t.last v,t.log.filter λe=>AP v e.Ag⟩
def OG(r:Av)(v:Au):Av:={r with tail:=n7 r.tail v}
def RQ(r:Av):List Entry->Av
 | []=>r
 | e::l=>RQ (bif decide (nu e.Ag=nu r.tail.last+1)then(Kh r e).1 else r) l
def PK(r:Av)(m:Ad):Bool:=decide (r.view.Az<m.Az)&&decide (r.frozen<=m.Az)
def wo(r:Av)(m:Ad):Ad:=⟨9,r.self.node,m.src,0,r.self.BD,r.AQ,m.Az,0,0,0,r.view.Az,0,!decide (r.view.phase=0),false,[],[],r.tail.last,⟨0,0⟩,⟨0,[],[],[],false⟩,[],[],[],⟨⟨0,0⟩,⟨0,0⟩,0,[],[]⟩⟩
def vm(r:Av)(m:Ad):Av × List Ad:=bif PK r m then({r with frozen:=m.Az},[wo r m])else(r,[])
def Ts(e:Int):BZ:=⟨vr e.toNat 0,vr e.toNat 0,[]⟩
def oL(r:Av)(m:Ad):BZ:=bif m.fresh then Ts m.Az else r.tail
def NR(r:Av)(m:Ad):Av:=
 {r with view:=⟨m.AQ,m.Az,m.gen,bif decide (m.chain.length=1)then 3 else 2,m.chain⟩,synced:=true::List.replicate (m.chain.length - 1) false,tail:=oL r m,seen:=bif m.fresh then []else r.seen,B5:=(oL r m).last}
def bp(r:Av)(m:Ad):Bool:=PK r m&&(Rr m.chain r.self&&(m.fresh||(!decide (r.view.phase=0)&&decide (m.Az=r.frozen))))
def yH(r:Av)(m:Ad):Av × List Ad:=bif bp r m then(NR r m,BL (NR r m))else(r,[])
def K0(r:Av)(m:Ad):Av:=bif PK r m then {r with view:=⟨m.AQ,m.Az,m.gen,3,m.chain⟩,tail:=⟨m.image.floor,m.image.last,m.image.log⟩,seen:=m.image.seen,B5:=m.image.last,synced:=[]}else r
def axo(r:Av)(m:Ad):Av × List Ad:=
 bif decide (0<idx m.chain r.self)then(K0 r m,bif RP (K0 r m)&&decide (m.Az=(K0 r m).view.Az)then [O7 (K0 r m) ⟨m.src,m.KL⟩ 12]else [])else(r,[])
def who(m:Ad):Be:=⟨m.src,m.KL⟩
def yI(r:Av)(m:Ad):List Bool:=r.synced.set (idx r.view.chain (who m)).toNat true
def axp(r:Av)(m:Ad):Av:=bif(yI r m).all id then {r with synced:=yI r m,view:={r.view with phase:=3},B5:=r.tail.last}else {r with synced:=yI r m}
def axq(r:Av)(m:Ad):Av × List Ad:=
 bif Xt r&&(decide (m.Az=r.view.Az)&&decide (0<=idx r.view.chain (who m)))then(axp r m,[])else(r,[])
def ahW(r:Av)(m:Ad):Av:=bif AP (RQ r m.entries).tail.last m.floor then RQ r m.entries else OG (RQ r m.entries) m.floor
def af0(r:Av)(m:Ad)(d:Int):Bool:=Ry r&&(decide (m.Az=r.view.Az)&&decide (Jw r.view.chain r.self d=some (who m)))
def axr(r:Av)(m:Ad):Av × List Ad:=bif af0 r m (-1)then(ahW r m,BL (ahW r m))else(r,[])
def ahX(r:Av)(m:Ad):Av:=bif AP r.tail.last m.Ag then r else {r with B5:=Cf r.B5 m.Ag}
def axs(r:Av)(m:Ad):Av × List Ad:=bif af0 r m 1 then(ahX r m,n6 (ahX r m))else(r,[])
def Vw(r:Av)(m:Ad):Bool:=decide (m.dst=r.self.node)&&(decide (m.BD=r.self.BD)&&decide (m.AQ=r.AQ))
def xx(r:Av)(m:Ad):Av × List Ad:=
 bif decide (m.kind=8)then vm r m else bif decide (m.kind=10)then yH r m else bif decide (m.kind=11)then axo r m else
 bif decide (m.kind=12)then axq r m else bif decide (m.kind=13)then axr r m else bif decide (m.kind=14)then axs r m else(r,[])
def KM(r:Av)(m:Ad):Av × List Ad:=bif Vw r m then xx r m else(r,[])
def E1(a b:Au):Prop:=AP b a=false
def m5{a b:Au}:E1 a b ↔ ep a<ep b\/(ep a=ep b/\nu a<=nu b):=by
 unfold E1 AP;by_cases h:ep b=ep a
 ·rw[Ax h,Ae];constructor
  ·intro h2;have:=Gk h2;omega
  ·intro h2;exact AN (by omega)
 ·rw[AN h,Aj];constructor
  ·intro h2;have:=Gk h2;omega
  ·intro h2;exact AN (by omega)
def Z8{a b:Au}:AP a b=true ↔ ep a<ep b\/(ep a=ep b/\nu a<nu b):=by
 unfold AP;by_cases h:ep a=ep b
 ·rw[Ax h,Ae,decide_eq_true_iff];omega
 ·rw[AN h,Aj,decide_eq_true_iff];omega
def E1.refl(a:Au):E1 a a:=m5.2 (by omega)
def E1.trans{a b c:Au}(h:E1 a b)(h':E1 b c):E1 a c:=by rw[m5]at *;omega
def abn{a b:Au}(h:AP a b=true):E1 a b:=by rw[Z8]at h;rw[m5];omega
def api{a b:Au}(h:AP a b=false):E1 b a:=h
def arX(a b:Au):E1 a (Cf a b):=by
 unfold Cf;cases h:AP a b with
 | true=>exact abn h
 | false=>exact E1.refl a
def apj(a b:Au):Cf a b=a\/Cf a b=b:=by unfold Cf;cases AP a b <;> simp
def yJ:(⟨0,0⟩:Au)=vr 0 0:=by decide
def ajt{l:List Be}{m:Be}(h:Rr l m=true):∃ r,l=m::r:=by
 cases l with
 | nil=>cases h
 | cons x r=>exact⟨r,by rw[El (show decide (x=m)=true from h)]⟩
def abo{r:Av}{m:Ad}:PK r m=true ↔ r.view.Az<m.Az/\r.frozen<=m.Az:=by unfold PK;rw[My,decide_eq_true_iff,decide_eq_true_iff]
end Go.Wk
end
section
namespace Go.AM
section
variable {X:Type} (sz:Nat) (e:X->List AV) (z:X)
def Ks(l:List X):Nat->List AV:=λi=>e (l.getD i (l.getD 0 z))
def gSl(b:Nat):List X->AV
 | []=>.Ak
 | [_]=>.sl sz b 0 1 1
 | l=>.sl sz b 0 l.length 0
def gBl:List X->Heap
 | []=>[]
 | l=>[.seq true sz l.length (Ks e z l)]
def gTr:List X->AV
 | []=>.Ak
 | l=>.tr sz l.length (Ks e z l)
end
section
variable {X:Type} {sz:Nat} {e:X->List AV} {z:X}
def apk{l:List X}{i:Nat}(h:i<l.length):Ks e z l i=e (l.getD i z):=by unfold Ks;simp[List.getD,BR h]
def amT(x:X):(λi=>[e x].getD i ([e x].getD 0 []))=Ks e z [x]:=by
 funext i;unfold Ks;cases i with
 | zero=>rfl
 | succ i=>simp[List.getD]
def ali(x:X):(λi=>[e x].getD i (e x))=Ks e z [x]:=amT x
def ack{l:List X}(h:l ≠ [])(x:X) :
  (λi=>bif Nat.blt i l.length then Ks e z l i else bif Nat.blt i (l.length+1)then [e x].getD (i - l.length) []else Ks e z l l.length)=Ks e z (l++[x]):=by
 funext i;have h0:0<l.length:=List.length_pos_iff.2 h;have hh:(l++[x]).getD 0 z=l.getD 0 z:=by unfold List.getD;rw[DY h0]
 by_cases h1:i<l.length
 ·rw[Cd h1,Ae];unfold Ks;rw[hh];simp[List.getD,DY h1]
 ·rw[Js (Nat.le_of_not_lt h1),Aj];by_cases h2:i<l.length+1
  ·have:i=l.length:=by omega
   subst this;rw[Cd h2,Ae];unfold Ks;simp[List.getD]
  ·rw[Js (by omega),Aj];unfold Ks;rw[hh];have e1:l[l.length]? = none:=CK (Ar _);have e2:(l++[x])[i]? = none:=CK (by simp;omega);simp[List.getD,e1,e2]
def alj(a x:X):(λi=>bif Nat.blt i 1 then Ks e z [a] i else bif Nat.blt i 2 then [e x].getD (i - 1) []else Ks e z [a] 1)=Ks e z [a,x]:=ack (l:=[a]) (by simp) x
def apl{b:Nat}{l:List X}(h:l ≠ [])(x:X):gSl sz b (l++[x])=.sl sz b 0 (l.length+1) 0:=by
 match l,h with
 | [a],_=>rfl
 | a::c::r,_=>show AV.sl sz b 0 ((a::c::(r++[x])).length) 0=_;simp
def apm{l:List X}(h:l ≠ [])(x:X):gBl sz e z (l++[x])=[.seq true sz (l.length+1) (Ks e z (l++[x]))]:=by
 match l,h with
 | a::r,_=>show [BS.seq true sz ((a::(r++[x])).length) _]=_;simp
def apn(l:List X):Br (gTr sz e z l) (DQ sz e z l):=by
 match l with
 | []=>exact .Ak
 | a::r=>exact Br.N2 λi hi=>by rw[apk hi];exact .refl _
end
def orU(n:Nat):(Nat.beq n 0||Nat.ble n n)=true:=by rw[D3 (Ar n)];simp
def aut{n b:Nat}(hb:b<=1000)(h:n<=1000000):(Nat.ble ((n+1)*b) 140737488355328&&Nat.ble (n+1) 140737488355328)=true:=by
 have h1:(n+1)*b<=140737488355328:=by have:(n+1)*b<=1000001*1000:=RG (by omega) hb;omega
 rw[D3 h1,D3 (by omega:n+1<=140737488355328)];rfl
def alk{X:Type}{R:Type}{l:List X}{z:X}{keep:X->Bool}{G:Nat->Int->List X->Option R}{fin:List X->Option R}
  (ON:∀ m acc,acc.length<=l.length->G (m+1) (l.length:Int) acc=fin acc)
  (Kf:∀ m (i:Nat) acc,i<l.length->acc.length<=i->G (m+1) (i:Int) acc=bif keep (l.getD i z)then G m ((i+1:Nat):Int) (acc++[l.getD i z])else G m ((i+1:Nat):Int) acc) :
  ∀ (d i m:Nat) (acc:List X),i+d=l.length->d<m->acc.length<=i->G m (i:Int) acc=fin (acc++(l.drop i).filter keep):=by
 intro d
 induction d with
 | zero=>
  intro i m acc hi hm ha;obtain⟨m,rfl⟩:=B3 m (by omega);have:i=l.length:=by omega
  subst this;rw[ON m acc ha];simp
 | succ d ih=>
  intro i m acc hi hm ha;obtain⟨m,rfl⟩:=B3 m (by omega);rw[Kf m i acc (by omega) ha,drop_cons (z:=z) (by omega:i<l.length),OJ];cases hk:keep (l.getD i z)with
  | true=>rw[Ae,Ay rfl,ih (i+1) m _ (by omega) (by omega) (by simp;omega),JE];rfl
  | false=>rw[Aj,AE (by simp),ih (i+1) m _ (by omega) (by omega) (by omega)]
def XL(l:Nat):Code->Option (List PE)
 | .scope a=>match findLabel a l with
  | some _=>some []
  | .none=>match XL l a with
   | some p=>some (.L::p)
   | .none=>.none
 | .seq x y=>match XL l x with
  | some p=>some (.L::p)
  | .none=>match XL l y with
   | some p=>some (.R::p)
   | .none=>.none
 | .cond _ x y=>match XL l x with
  | some p=>some (.L::p)
  | .none=>match XL l y with
   | some p=>some (.R::p)
   | .none=>.none
 | .block _ a=>match XL l a with
  | some p=>some (.L::p)
  | .none=>.none
 | _=>.none
def JP{R:Type}(env:Env)(n base f:Nat)(k:AV->Heap->Option R)(l m:Nat)(s:St):Option R:=
 match XL l (Fi env f)with
 | some p=>match sub (Fi env f) p with
  | .scope a=>PY env (Dl env n) f (Kq env f) n base m a l (PI env (Dl env n) f (Kq env f) n base (PY env (Dl env n) f (Kq env f) n base n) 0 (Fi env f) p (Vv env f k)) s
  | _=>.none
 | .none=>.none
end Go.AM
end
section
open Go Go.AM Go.Proofs
namespace Go.Wk
def PG:Program:=Tryz.prog
def vp:List (Nat × Nat × List Nat):=[
(3,0,[3,5]),
(3,2,[3,5,6,7,9]),
(3,4,[3,5,6,12]),
(4,0,[3,5,6]),
(4,2,[3,5,6,7,8]),
(4,4,[3,5,10]),
(5,0,[5,7,8,9,10,11,12]),
(5,2,[5,7,8,9,10,11,13]),
(5,4,[5,7,8,9,10,11,14]),
(5,6,[5,7,8,9,11,15]),
(5,8,[5,7,8,9,11,15,16]),
(5,10,[5,7,8,9,17]),
(5,12,[5,8,9,18]),
(5,14,[5,9,19]),
(6,0,[0,3,4,5,6]),
(7,0,[0,3,4,5]),
(7,2,[4,6,7]),
(9,0,[0,2,4,5]),
(10,0,[1,2,3,6,8]),
(14,0,[0,1,4,6]),
(19,0,[2,4,5,11,12]),
(24,0,[0,1,5]),
(25,0,[2,3,5]),
(25,2,[2,3,6]),
(26,0,[1,2,3,4]),
(27,0,[1,3,19,20,21]),
(28,0,[1,3,18,19,20]),
(28,2,[7,47,48,49]),
(29,0,[3,7,8,9]),
(30,0,[1,3,4]),
(34,0,[2,4,7,8,9,10]),
(36,0,[1,2,34,35]),
(39,0,[0,3,14,15,16]),
(41,0,[2,4,6,7,37,38,39]),
(41,2,[4,6,56,57,58]),
(45,0,[1,2,10,11,12]),
(47,0,[2,3,5]),
(49,0,[0,1,5]),
(51,1,[1,3,23,24,25]),
(57,0,[0,1,3]),
(63,0,[0,7,8,9]),
(74,0,[0,8,116,117,118]),
(76,0,[2,7,8,9]),
(77,0,[0,6,7,8]),
(80,0,[0,1,5,6]),
(82,0,[1,7,8,16,17,18]),
(83,0,[0,1,4,5,21,22,23]),
(83,2,[0,1,5,35,36,37]),
(85,0,[4,5,6,16,17,18]),
(87,0,[0,1,4,5,21,22,23]),
(90,0,[0,1,5]),
(92,0,[0,1,5]),
(94,0,[0,1,5]),
(95,0,[0,1,5]),
(99,0,[2,4,5,17,18,19,1003]),
(103,0,[2,3,4,5,8,9,10]),
(103,2,[2,4,5,8,11]),
(113,0,[0,1,5,6]),
(117,0,[0,3,12,13]),
(122,0,[3,6,7,8]),
(124,0,[0,1,7,8]),
(127,0,[3,7,8,9]),
(132,0,[3,7,8,9]),
(133,0,[1,2,3,4,9,21,22,23]),
(133,2,[3,4,12,13,45]),
(133,4,[4,16,71,72,73]),
(134,0,[0,3,4]),
(136,0,[0,3,4]),
(139,0,[0,3,4]),
(140,0,[0,3,4]),
(141,0,[0,3,4]),
(144,0,[3,7,8,9]),
(146,0,[0,7,8]),
(147,0,[0,1,2,8,9,10]),
(150,0,[0,1,7,8]),
(160,0,[0,1,5,6]),
(166,0,[3,4]),
(167,0,[0,3,4]),
(172,0,[0,3,4]),
(175,0,[0,1,5,6]),
(176,0,[1,2,7,8]),
(186,1000,[1,2,4,5]),
(187,0,[0,1,7,8]),
(188,0,[0,1,2,3,4,10,11]),
(191,0,[0,3]),
(193,0,[0,3,5,6]),
(193,2,[0,3,5,7]),
(195,0,[0,1,7,8]),
(196,0,[0,1,2,3,8]),
(196,2,[0,1,2,3,8,9]),
(197,0,[0,3,8,9,10,11]),
(197,2,[0,3,8,9,12]),
(198,0,[0,1,8,9,10,11]),
(200,0,[0,8,9]),
(201,0,[0,1,2,3,9,10]),
(201,2,[0,1,2,3,9,10]),
(201,4,[0,1,2,3,9,10,11]),
(201,6,[0,1,2,3,9,10,12]),
(202,0,[0,1,4,11,12]),
(202,2,[0,1,4,11,12]),
(202,4,[0,1,4,11,12]),
(203,0,[0,1,4,12,13]),
(203,2,[0,1,4,12,13]),
(203,4,[0,1,4,12,13]),
(203,6,[0,1,4,12,13]),
(203,8,[0,1,4,12,13]),
(209,0,[0,2,3,4,10]),
(216,0,[0,2,3])]
def arY:List Nat:=[36,45,58,59,60,61,62,63,78,89,104,105,106,107,108,125,126,127,146,177]
def arZ:List Nat:=[35,38,39,40,42,43,57,66,70,74,75,77,79,80,83,86,87,110,112,113,116,117,124,128,130,147,150,153,154,155,156,157,158,159,160,161,164,165,179,184,187,188,194,195,196,197,198,199,200,201,202,203,207,208,209,210,211,212,213,214,215,216,225,226,227,228,229]
def ar0:List Nat:=[]
def ar1:List Nat:=[]
def bq(md:Nat->Option Nat)(o:Nat->List AV->Heap->Option Answer):Env where
 tt:=GA PG
 code:=wi PG
 mode f:=match md f with
  | some k=>k
  | none=>bif iz f arY then 1 else bif iz f arZ then 2 else bif iz f ar1 then 4 else bif iz f ar0 then 3 else 0
 live f b:=fL f b vp
 Yg:=o
def Qn(l:List Af):Env:=bq (λ_=>none) (Vd l)
def adx{md:Nat->Option Nat}{l:List Af}(h:∀ k ∈ l,k.Ok PG):DH PG (bq md (Vd l)):=⟨xv rfl,nq h⟩
def abp{md:Nat->Option Nat}{o:Nat->List AV->Heap->Option Answer}:It PG (bq md o):=tM rfl
def mixed:PG.follows .mixedOrders=true:=by kernel_rfl
def PL{md:Nat->Option Nat}{l:List Af}(h:∀ k ∈ l,k.Ok PG){n f:Nat}{args:List AV}{r:AV}(e:A6 (bq md (Vd l)) n f args=some r):At PG f args [] r []:=
 uu (adx h) abp mixed e
def Zr:Nat:=5
def Zu:Nat:=8
def WQ:Nat:=9
def aab:Nat:=10
def ai1:Nat:=11
def Zw:Nat:=12
def sS:Nat:=13
def Pt:Nat:=14
def Ei:Nat:=15
def lA:Nat:=16
def eK:Nat:=21
def GY:Nat:=27
def Zv:Nat:=31
def eM:Nat:=32
def ai4:Nat:=33
def Zx:Nat:=34
def Fh:Nat:=36
def Oc:Nat:=37
def Nm:Nat:=38
def WT:Nat:=39
def WW:Nat:=40
def Im:Nat:=41
def WU:Nat:=42
def UA:Nat:=43
def ajK:Nat:=44
def aaE:Nat:=45
def Pw:Nat:=51
def ZI:Nat:=52
def ZJ:Nat:=53
def ai3:Nat:=55
def lB:Nat:=56
def UN:Nat:=58
def Il:Nat:=59
def Nl:Nat:=60
def lu:Nat:=61
def ly:Nat:=62
def Io:Nat:=63
def SV:Nat:=66
def ee:Nat:=67
def Ri:Nat:=68
def ZA:Nat:=69
def UE:Nat:=70
def eZ:Nat:=71
def SX:Nat:=72
def WY:Nat:=73
def Ob:Nat:=74
def WN:Nat:=75
def S0:Nat:=76
def UD:Nat:=77
def dX:Nat:=78
def dV:Nat:=79
def GX:Nat:=80
def UG:Nat:=81
def ZK:Nat:=82
def Rd:Nat:=83
def ef:Nat:=84
def Px:Nat:=85
def UF:Nat:=86
def UB:Nat:=87
def dZ:Nat:=88
def ai0:Nat:=89
def sE:Nat:=97
def sK:Nat:=98
def J4:Nat:=99
def sU:Nat:=100
def sL:Nat:=101
def dQ:Nat:=102
def Uz:Nat:=103
def SQ:Nat:=104
def SR:Nat:=105
def WR:Nat:=106
def sx:Nat:=107
def eN:Nat:=108
def lE:Nat:=110
def Rf:Nat:=111
def lC:Nat:=112
def Uy:Nat:=113
def eg:Nat:=114
def ed:Nat:=115
def SW:Nat:=116
def Ll:Nat:=117
def lF:Nat:=118
def ZP:Nat:=119
def ew:Nat:=120
def Xf:Nat:=121
def eQ:Nat:=122
def lX:Nat:=123
def HP:Nat:=124
def lN:Nat:=125
def Rj:Nat:=127
def dY:Nat:=128
def ZL:Nat:=129
def dW:Nat:=130
def eC:Nat:=131
def ZE:Nat:=132
def Gu:Nat:=133
def lY:Nat:=143
def ZF:Nat:=144
def UC:Nat:=145
def Rg:Nat:=146
def aaa:Nat:=147
def aac:Nat:=148
def lD:Nat:=149
def dP:Nat:=150
def mg:Nat:=151
def UJ:Nat:=152
def lG:Nat:=153
def Po:Nat:=160
def Re:Nat:=161
def s9:Nat:=162
def lH:Nat:=163
def Jr:Nat:=164
def Pu:Nat:=165
def sD:Nat:=169
def ai2:Nat:=173
def lz:Nat:=174
def Zt:Nat:=175
def WO:Nat:=176
def su:Nat:=177
def ai5:Nat:=178
def ZG:Nat:=179
def ZM:Nat:=180
def Od:Nat:=181
def tN:Nat:=182
def UH:Nat:=186
def Rc:Nat:=187
def aiZ:Nat:=188
def ai6:Nat:=189
def dS:Nat:=190
def WL:Nat:=191
def dU:Nat:=192
def SU:Nat:=193
def Ps:Nat:=194
def KE:Nat:=196
end Go.Wk
end
section
open Go Go.AM Go.Md
namespace Go.Wk
def FE:Env:=Qn []
def LS{n f:Nat}{args:List AV}{r:AV}(e:A6 FE n f args=some r):At PG f args [] r []:=PL (md:=λ_=>none) (l:=[]) (λk hk=>by cases hk) e
def mF{X:Type}{F sz b:Nat}{e:X->List AV}{z:X}(hb:b<=1000)(hn:A6 FE 2 F [.Ak]=some .Ak)(he:A6 FE 2 F [.A9 sz []]=some (.A9 sz []))
  (hs:∀ n f,A6 FE 2 F [.tr sz (n+1) f]=bif Nat.ble ((0+(n+1))*b) 140737488355328&&Nat.ble (0+(n+1)) 140737488355328 then bif Nat.ble (n+1) (n+1)then some (.tr sz (n+1) f)else none else none)
  (l:List X) (hl:l.length<=LB):At PG F [DQ sz e z l] [] (DQ sz e z l) []:=by
 unfold LB at hl;cases l with
 | nil=>exact At.split (N3.of [] [] .nil) ((LS hn).res .Ak) ((LS he).res (Br.uw (e:=e) (z:=z) []))
 | cons x r=>
  have h:=hs r.length (λi=>e ((x::r).getD i z));simp only[CR]at hl;have h1:(0+(r.length+1))*b<=140737488355328:=by have:(0+(r.length+1))*b<=1000000*1000:=RG (by omega) hb;omega
  rw[D3 h1,D3 (by omega),D3 (Ar _)]at h;exact LS h
def ai7(n:Nat)(f:Nat->List AV):A6 FE 2 SQ [.tr 2 (n+1) f]=bif Nat.ble ((0+(n+1))*16) 140737488355328&&Nat.ble (0+(n+1)) 140737488355328 then bif Nat.ble (n+1) (n+1)then some (.tr 2 (n+1) f)else none else none:=by kernel_rfl
def aja(n:Nat)(f:Nat->List AV):A6 FE 2 Il [.tr 11 (n+1) f]=bif Nat.ble ((0+(n+1))*112) 140737488355328&&Nat.ble (0+(n+1)) 140737488355328 then bif Nat.ble (n+1) (n+1)then some (.tr 11 (n+1) f)else none else none:=by kernel_rfl
def ajh(n:Nat)(f:Nat->List AV):A6 FE 2 SR [.tr 7 (n+1) f]=bif Nat.ble ((0+(n+1))*72) 140737488355328&&Nat.ble (0+(n+1)) 140737488355328 then bif Nat.ble (n+1) (n+1)then some (.tr 7 (n+1) f)else none else none:=by kernel_rfl
def aji(n:Nat)(f:Nat->List AV):A6 FE 2 WR [.tr 1 (n+1) f]=bif Nat.ble ((0+(n+1))*1) 140737488355328&&Nat.ble (0+(n+1)) 140737488355328 then bif Nat.ble (n+1) (n+1)then some (.tr 1 (n+1) f)else none else none:=by kernel_rfl
def aju(l:List Be)(h:l.length<=LB):At PG SQ [CD l] [] (CD l) []:=
 mF (b:=16) (by omega) (by kernel_rfl) (by kernel_rfl) ai7 l h
def ajL(l:List Entry)(h:l.length<=LB):At PG Il [AY l] [] (AY l) []:=
 mF (b:=112) (by omega) (by kernel_rfl) (by kernel_rfl) aja l h
def aj9(l:List Seen)(h:l.length<=LB):At PG SR [B7 l] [] (B7 l) []:=
 mF (b:=72) (by omega) (by kernel_rfl) (by kernel_rfl) ajh l h
def aka(l:List Bool)(h:l.length<=LB):At PG WR [E6 l] [] (E6 l) []:=
 mF (b:=1) (by omega) (by kernel_rfl) (by kernel_rfl) aji l h
def dL{X:Type}(d:List AV->X)(a:List AV):List X:=Bm d (a.getD 0 .Ak)
def Fy{X:Type}(l:List X):Prop:=l.length<=LB
def gw(l:List Be):List AV:=[CD l]
def XM(l:List Entry):List AV:=[AY l]
def nr(l:List Seen):List AV:=[B7 l]
def aeA(l:List Bool):List AV:=[E6 l]
def af1{R:Type}{l:List Be}{k:List Be->Option R}(h:Fy l):gC (dL G0) Fy gw [CD l] k=k l:=Bj l (Rl l) h (.refl _)
def auu{R:Type}{l:List Entry}{k:List Entry->Option R}(h:Fy l):gC (dL DG) Fy XM [AY l] k=k l:=Bj l (Of l) h (.refl _)
def ar2{R:Type}{l:List Seen}{k:List Seen->Option R}(h:Fy l):gC (dL EU) Fy nr [B7 l] k=k l:=Bj l (Nq l) h (.refl _)
def lI:Af:=.spec SQ (dL G0) Fy gw CD
def lO:Af:=.spec Il (dL DG) Fy XM AY
def lZ:Af:=.spec SR (dL EU) Fy nr B7
def aaS:Af:=.spec WR (dL Rq) Fy aeA E6
def sG:lI.Ok PG:=Af.BJ aju
def sH:lO.Ok PG:=Af.BJ ajL
def sM:lZ.Ok PG:=Af.BJ aj9
def ajj:aaS.Ok PG:=Af.BJ aka
def Cs{i:Nat}(h:i<=2000000):Ao ((i:Int)+1)=((i+1:Nat):Int):=wrap64 (by omega)
def Rs{i n:Nat}:decide ((i:Int)<(n:Int))=decide (i<n):=by simp
def ZQ(i:Nat):decide ((0:Int)<=(i:Int))=true:=by simp
def wq(x m:Be):(decide (x.node=m.node)&&decide (x.BD=m.BD))=decide (x=m):=by cases x;cases m;simp[Bool.decide_and]
def oM(l:List Be)(m:Be)(i:Int):St:={fr:=[(3,.ptr 0 0 0),(7,CD l),(8,.int .i64 l.length),(9,.int .i64 i)],hp:=[.arr true 2 [DM m]]}
def ar3(N:Nat)(l:List Be)(mm:Be):A6 FE (N+1) ZF [CD l,.agg (DM mm)]=LP FE N 0 ZF By 0 [] N (oM l mm 0):=by kernel_rfl
def acm(N m:Nat)(l:List Be)(mm:Be)(i:Int):LP FE N 0 ZF By 0 [] (m+1) (oM l mm i) =
  bif decide (i<(l.length:Int))then bif decide (0<=i)&&decide (i<(l.length:Int))then
   bif decide ((l.getD i.toNat default).node=mm.node)&&(decide ((l.getD i.toNat default).BD=mm.BD)&&true)then some (.int .i64 i)
   else LP FE N 0 ZF By 0 [] m (oM l mm (Ao (i+1)))
  else none else some (.int .i64 (-1)):=by kernel_rfl
def amU{N:Nat}{l:List Be}{mm:Be}(hl:l.length<=LB):∀ d i m,i+d=l.length->d<m->LP FE N 0 ZF By 0 [] m (oM l mm (i:Nat))=some (.int .i64 (idxFrom mm (l.drop i) i)):=by
 unfold LB at hl;intro d
 induction d with
 | zero=>intro i m hi hm;obtain⟨m,rfl⟩:=B3 m (by omega);rw[acm,Rs,AN (by omega),Aj,Gj (by omega)];rfl
 | succ d ih=>
  intro i m hi hm;obtain⟨m,rfl⟩:=B3 m (by omega);rw[acm,Rs,Ax (by omega),ZQ,drop_cons (z:=default) (by omega:i<l.length)];simp only[Ae,CV,BV,wq,idxFrom];by_cases h:l.getD i default=mm
  ·simp only[Ax h,Ae,Ay h]
  ·simp only[AN h,Aj,AE h];rw[Cs (by omega),ih (i+1) m (by omega) (by omega)]
abbrev LM:=List Be × Be
def Ve(a:List AV):LM:=(Bm G0 (a.getD 0 .Ak),G0 (Bd a 1))
def Tt(x:LM):Prop:=x.1.length<=LB
def XN(x:LM):List AV:=[CD x.1,.agg (DM x.2)]
def qLM{R:Type}{l:List Be}{m:Be}{k:LM->Option R}(h:l.length<=LB):gC Ve Tt XN [CD l,.agg (DM m)] k=k (l,m):=Bj (l,m) (Cv (Rl l) rfl) h (.refl _)
def wu:Af:=.spec ZF Ve Tt XN (λx=>.int .i64 (idx x.1 x.2))
def abq:wu.Ok PG:=Af.BJ λx h=>by have:=(ar3 (x.1.length+1) x.1 x.2).trans (amU (N:=x.1.length+1) (mm:=x.2) h x.1.length 0 (x.1.length+1) (by omega) (by omega));exact LS this
def fy{n:Nat}(P:Nat->Nat->Prop)(h0:∀ m,P n (m+1))(hs:∀ i m,i<n->P (i+1) m->P i (m+1)):∀ i m,i<=n->n - i<m->P i m:=by
 intro i m hi hm;obtain⟨d,hd⟩:∃ d,n - i=d:=⟨_,rfl⟩
 induction d generalizing i m with
 | zero=>
  have:i=n:=by omega
  subst this;obtain⟨m,rfl⟩:=B3 m (by omega);exact h0 m
 | succ d ih=>obtain⟨m,rfl⟩:=B3 m (by omega);exact hs i m (by omega) (ih (i+1) m (by omega) (by omega) (by omega))
def eD:∀ s:List UInt8,A5 s s=true
 | []=>rfl
 | a::s=>by simp[A5,eD s]
def De{X:Type}{l:List X}{i:Nat}{z:X}(h:i<l.length):l.getD i z ∈ l:=by simp[List.getD,BR h]
def acn(n:Nat):Nat.ble n n=true:=D3 (Ar n)
def ak{k:Af}{l:List Af}(h:k.Ok PG)(t:∀ x ∈ l,x.Ok PG):∀ x ∈ k::l,x.Ok PG:=λx hx=>by
 rcases Dz.1 hx with rfl | hx
 ·exact h
 ·exact t x hx
def AR:∀ x ∈ ([]:List Af),x.Ok PG:=λx hx=>by cases hx
def rg(i n:Int){R:Type}(k:Option R):Option R:=bif decide (0<=i)&&decide (i<n)then k else none
def B8{i n:Nat}(h:i<n){R:Type}{k:Option R}:rg (i:Int) (n:Int) k=k:=by unfold rg;rw[ZQ,Rs,Ax h];rfl
end Go.Wk
end
section
open Go Go.AM Go.Md Go.Fl
open Ieee (double)
namespace Go.Wk
def amV(a b:Au):A6 FE 4 SX [eV a,eV b]=bif !Db .f64 a.re b.re then some (.bool (ID .f64 a.re b.re))else some (.bool (ID .f64 a.im b.im)):=by kernel_rfl
def Dp(p:Au × Au):List AV:=[eV p.1,eV p.2]
def Dq(a:List AV):Au × Au:=(⟨(Ci a 0).1,(Ci a 0).2⟩,⟨(Ci a 1).1,(Ci a 1).2⟩)
def V2(p:Au × Au):Prop:=AU p.1/\AU p.2
def Ik{R:Type}{a b:Au}{k:Au × Au->Option R}(ha:AU a)(hb:AU b):gC Dq V2 Dp [.Al .f64 a.re a.im,.Al .f64 b.re b.im] k=k (a,b):=Bj (a,b) rfl ⟨ha,hb⟩ (.refl _)
def alm(p:Au × Au)(h:V2 p):At PG SX [eV p.1,eV p.2] [] (.bool (AP p.1 p.2)) []:=by refine LS ((amV p.1 p.2).trans ?_);rw[adv,amS,<- ahV h.1 h.2];cases Db .f64 p.1.re p.2.re <;> rfl
def Lo:Af:=.spec SX Dq V2 Dp (λp=>.bool (AP p.1 p.2))
def Np:Lo.Ok PG:=Af.BJ alm
def amW(a b:Au):A6 FE 4 s9 [eV a,eV b]=bif !Db .f64 b.re a.re then bif ID .f64 b.re a.re then some (eV a)else some (eV b)else bif ID .f64 b.im a.im then some (eV a)else some (eV b):=by kernel_rfl
def aln(p:Au × Au)(h:V2 p):At PG s9 [eV p.1,eV p.2] [] (eV (Cf p.1 p.2)) []:=by refine LS ((amW p.1 p.2).trans ?_);rw[adv,<- alh h.1 h.2,<- ahV h.2 h.1];cases Db .f64 p.2.re p.1.re <;> cases ID .f64 p.2.im p.1.im <;> cases ID .f64 p.2.re p.1.re <;> rfl
def fQ:Af:=.spec s9 Dq V2 Dp (λp=>eV (Cf p.1 p.2))
def mh:fQ.Ok PG:=Af.BJ aln
def gF{R:Type}(b:Nat)(k:Option R):Option R:=bif(fI b).isSome then bif decide (IntKind.i64.min<=(fI b).getD 0)&&decide ((fI b).getD 0<=IntKind.i64.max)then k else none else none
def LA{R:Type}{b:Nat}{k:Option R}(h:jC b):gF b k=k:=by obtain⟨h1,h2,h3⟩:=h;unfold gF;rw[h1,Ax h2,Ax h3];rfl
def alo(a b:Au):A6 FE 4 dU [eV a,eV b]=gF a.re (gF b.re (bif decide (vE a=vE b)then gF a.im (gF b.im (some (.bool (decide (vN a<vN b)))))else gF a.re (gF b.re (some (.bool (decide (vE a<vE b))))))):=by kernel_rfl
def akb(p:Au × Au)(h:V2 p):At PG dU [eV p.1,eV p.2] [] (.bool (AP p.1 p.2)) []:=by refine LS ((alo p.1 p.2).trans ?_);obtain⟨ha,hb⟩:=h;simp only[LA ha.int.1,LA ha.int.2,LA hb.int.1,LA hb.int.2,n5 ha,n5 hb,aJ ha,aJ hb,m4,adw];unfold AP;cases decide (ep p.1=ep p.2) <;> rfl
def fA:Af:=.spec dU Dq V2 Dp (λp=>.bool (AP p.1 p.2))
def l7:fA.Ok PG:=Af.BJ akb
def alp(a b:Au):A6 FE 4 lz [eV a,eV b]=gF a.re (gF b.re (bif decide (vE a=vE b)then gF a.im (gF b.im (bif decide (vN a<vN b)then some (eV b)else some (eV a)))else gF a.re (gF b.re (bif decide (vE a<vE b)then some (eV b)else some (eV a))))):=by kernel_rfl
def akc(p:Au × Au)(h:V2 p):At PG lz [eV p.1,eV p.2] [] (eV (Cf p.1 p.2)) []:=by refine LS ((alp p.1 p.2).trans ?_);obtain⟨ha,hb⟩:=h;simp only[LA ha.int.1,LA ha.int.2,LA hb.int.1,LA hb.int.2,n5 ha,n5 hb,aJ ha,aJ hb,m4,adw];unfold Cf AP;cases decide (ep p.1=ep p.2) <;> cases decide (nu p.1<nu p.2) <;> cases decide (ep p.1<ep p.2) <;> rfl
def ady:Af:=.spec lz Dq V2 Dp (λp=>eV (Cf p.1 p.2))
def akd:ady.Ok PG:=Af.BJ akc
def MR(a:List AV):Au:=⟨(Ci a 0).1,(Ci a 0).2⟩
def MS(v:Au):List AV:=[eV v]
def qV1{R:Type}{a:Au}{k:Au->Option R}(ha:AU a):gC MR AU MS [.Al .f64 a.re a.im] k=k a:=Bj a rfl ha (.refl _)
def ar4(a:Au):A6 FE 4 eZ [eV a]=gF a.im (some (.int .i64 (vN a))):=by kernel_rfl
def apo(a:Au):A6 FE 4 sD [eV a]=gF a.im (some (.int .i64 (vN a))):=by kernel_rfl
def apq(a:Au)(h:AU a):At PG eZ [eV a] [] (.int .i64 (nu a)) []:=LS ((ar4 a).trans (by rw[LA h.int.2,aJ h]))
def amX(a:Au)(h:AU a):At PG sD [eV a] [] (.int .i64 (nu a)) []:=LS ((apo a).trans (by rw[LA h.int.2,aJ h]))
def br:Af:=.spec eZ MR AU MS (λp=>.int .i64 (nu p))
def fB:br.Ok PG:=Af.BJ apq
def xy:Af:=.spec sD MR AU MS (λp=>.int .i64 (nu p))
def aco:xy.Ok PG:=Af.BJ amX
def pX(a:List AV):Nat × Nat:=((AS a 0).toNat,(AS a 1).toNat)
def apr(a b:Int):A6 FE 4 eM [.int .i64 a,.int .i64 b]=some (.Al .f64 (FloatKind.f64.nearest a) (FloatKind.f64.nearest b)):=by kernel_rfl
def amY(p:Nat × Nat)(_:True):At PG eM [.int .i64 p.1,.int .i64 p.2] [] (eV (vr p.1 p.2)) []:=LS ((apr p.1 p.2).trans (by rw[fx,fx];rfl))
def pY(_:Nat × Nat):Prop:=True
def pZ(p:Nat × Nat):List AV:=[.int .i64 p.1,.int .i64 p.2]
def xz:Af:=.spec eM pX pY pZ (λp=>eV (vr p.1 p.2))
def acp:xz.Ok PG:=Af.BJ amY
def dVI(a:List AV):Au × Nat:=(⟨(Ci a 0).1,(Ci a 0).2⟩,(AS a 1).toNat)
def aps(a:Au)(e:Int):A6 FE 4 ZP [eV a,.int .i64 e]=bif(FloatKind.f64.format.add a.im 4607182418800017408).isSome then some (.Al .f64 (FloatKind.f64.nearest e) ((FloatKind.f64.format.add a.im 4607182418800017408).getD 0))else none:=by kernel_rfl
def amZ(p:Au × Nat)(h:AU p.1):At PG ZP [eV p.1,.int .i64 p.2] [] (eV (vr p.2 (nu p.1+1))) []:=by refine LS ((aps p.1 p.2).trans ?_);have h2:=h.lt;have e:p.1.im=fl (nu p.1):=congrArg Au.im h.eta;rw[e,aph (by omega),fx,Option.isSome_some,Ae,LK];rfl
def pVI(p:Au × Nat):Prop:=AU p.1
def p7(p:Au × Nat):List AV:=[eV p.1,.int .i64 p.2]
def af2:Af:=.spec ZP dVI pVI p7 (λp=>eV (vr p.2 (nu p.1+1)))
def am0:af2.Ok PG:=Af.BJ amZ
def fR{R:Type}(a b:Au)(k:Au × Au->Option R):Option R:=gC Dq V2 Dp [eV a,eV b] k
def mi{R:Type}{a b:Au}{k:Au × Au->Option R}(ha:AU a)(hb:AU b):fR a b k=k (a,b):=Bj (a,b) rfl ⟨ha,hb⟩ (.refl _)
end Go.Wk
end
section
open Go Go.AM Go.Md
namespace Go.Wk
def Ef(a:List AV):Av:=Fj (Bd a 0)
def Gy(_:Av):Prop:=True
def Eg(r:Av):List AV:=[.agg (AJ r)]
def aM{R:Type}{r:Av}{P:Av->Prop}{k:Av->Option R}(h:P r):gC Ef P Eg [.agg (AJ r)] k=k r:=Bj r (GZ r) h (.refl _)
def ahY:List Af:=[wu]
def apt:∀ k ∈ ahY,k.Ok PG:=ak abq AR
def iA:Env:=Qn ahY
def oN{n f:Nat}{xs:List AV}{r:AV}(e:A6 iA n f xs=some r):At PG f xs [] r []:=PL (md:=λ_=>none) apt e
def O8(l:List Be)(m:Be):Bool:=decide ((l.getD (Int.toNat 0) default).node=m.node)&&(decide ((l.getD (Int.toNat 0) default).BD=m.BD)&&true)
def oO{R:Type}(l:List Be)(m:Be)(no:Option R)(k:Bool->Option R):Option R:=bif decide ((l.length:Int)=0)then no else bif decide (0<(l.length:Int))then k (O8 l m)else none
def adz{R:Type}{l:List Be}{m:Be}{no:Option R}{k:Bool->Option R}(h:no=k false):oO l m no k=k (Rr l m):=by
 unfold oO;cases l with
 | nil=>exact h
 | cons x r=>rw[AN (by simp only[CR];omega),Aj,Ax (by simp only[CR];omega),Ae];unfold O8 Rr;rw[CV];exact congrArg k (wq x m)
def head_eq(r:Av):A6 iA 6 Oc [.agg (AJ r)]=bif !decide (r.view.phase=0)then bif decide (r.frozen<=r.view.Az)then bif decide (r.view.phase=3)then
  oO r.view.chain r.self (some (.bool false)) λb=>some (.bool b)else some (.bool false)else some (.bool false)else some (.bool false):=by kernel_rfl
def acq(r:Av)(_:True):At PG Oc [.agg (AJ r)] [] (.bool (CH r)) []:=by refine oN ((head_eq r).trans ?_);rw[adz (no:=some (AV.bool false)) (k:=λb=>some (AV.bool b)) rfl];unfold CH Ry RP;cases decide (r.view.phase=0) <;> cases decide (r.frozen<=r.view.Az) <;> cases decide (r.view.phase=3) <;> rfl
def P6:Af:=.spec Oc Ef Gy Eg (λr=>.bool (CH r))
def Rn:P6.Ok PG:=Af.BJ acq
def n8{R:Type}(l:List Be)(m:Be)(k:List Be × Be->Option R):Option R:=gC Ve Tt XN [CD l,.agg (DM m)] k
def uB{R:Type}{l:List Be}{m:Be}{k:List Be × Be->Option R}(h:l.length<=LB):n8 l m k=k (l,m):=Bj (l,m) (by unfold Ve;exact Cv (Rl l) rfl) h (.refl _)
def alq(r:Av):A6 iA 6 WY [.agg (AJ r)]=bif !decide (r.view.phase=0)then bif decide (r.frozen<=r.view.Az)then bif decide (r.view.phase=3)then
  oO r.view.chain r.self (some (eV ⟨0,0⟩)) λb=>bif !b then some (eV ⟨0,0⟩)else bif decide ((r.view.chain.length:Int)=1)then some (eV r.tail.last)else some (eV r.B5)
  else some (eV ⟨0,0⟩)else some (eV ⟨0,0⟩)else some (eV ⟨0,0⟩):=by kernel_rfl
def ake(r:Av)(_:True):At PG WY [.agg (AJ r)] [] (eV (Ir r)) []:=by refine oN ((alq r).trans ?_);rw[adz (no:=some (eV ⟨0,0⟩)) (k:=λb=>bif !b then some (eV ⟨0,0⟩)else bif decide ((r.view.chain.length:Int)=1)then some (eV r.tail.last)else some (eV r.B5)) rfl,show decide ((r.view.chain.length:Int)=1)=decide (r.view.chain.length=1) from m4 _ 1];unfold Ir CH Ry RP;cases decide (r.view.phase=0) <;> cases decide (r.frozen<=r.view.Az) <;> cases decide (r.view.phase=3) <;> cases Rr r.view.chain r.self <;> cases decide (r.view.chain.length=1) <;> rfl
def vq:Af:=.spec WY Ef Gy Eg (λr=>eV (Ir r))
def aaT:vq.Ok PG:=Af.BJ ake
def ahZ{R:Type}(l:List Be)(k:List Be->Option R):Option R:=gC (dL G0) Fy gw [CD l] k
def ah0{R:Type}(l:List Entry)(k:List Entry->Option R):Option R:=gC (dL DG) Fy XM [AY l] k
def ah1{R:Type}(l:List Seen)(k:List Seen->Option R):Option R:=gC (dL EU) Fy nr [B7 l] k
def ah2{R:Type}(l:List Bool)(k:List Bool->Option R):Option R:=gC (dL Rq) Fy aeA [E6 l] k
def apu{R:Type}{l:List Be}{k:List Be->Option R}(h:Fy l):ahZ l k=k l:=Bj l (Rl l) h (.refl _)
def apv{R:Type}{l:List Entry}{k:List Entry->Option R}(h:Fy l):ah0 l k=k l:=Bj l (Of l) h (.refl _)
def apw{R:Type}{l:List Seen}{k:List Seen->Option R}(h:Fy l):ah1 l k=k l:=Bj l (Nq l) h (.refl _)
def apx{R:Type}{l:List Bool}{k:List Bool->Option R}(h:Fy l):ah2 l k=k l:=Bj l (mE l) h (.refl _)
def ah3:List Af:=[lI,lO,lZ,aaS]
def apy:∀ k ∈ ah3,k.Ok PG:=ak sG (ak sH (ak sM (ak ajj AR)))
def ah4:Env:=Qn ah3
def Ds{n f:Nat}{xs:List AV}{r:AV}(e:A6 ah4 n f xs=some r):At PG f xs [] r []:=PL (md:=λ_=>none) apy e
def ar5(r:Av):A6 ah4 3 lN [.agg (AJ r)]=ahZ r.view.chain λa=>ah0 r.tail.log λb=>ah1 r.seen λc=>ah2 r.synced λd=>
  some (.agg (AJ {r with view:={r.view with chain:=a},tail:={r.tail with log:=b},seen:=c,synced:=d})):=by kernel_rfl
def Hr(r:Av):Prop:=Fy r.view.chain/\Fy r.tail.log/\Fy r.seen/\Fy r.synced
def apz(r:Av)(h:Hr r):At PG lN [.agg (AJ r)] [] (.agg (AJ r)) []:=
 Ds ((ar5 r).trans (by rw[apu h.1,apv h.2.1,apw h.2.2.1,apx h.2.2.2]))
def oP:Af:=.spec lN Ef Hr Eg (λr=>.agg (AJ r))
def vt:oP.Ok PG:=Af.BJ apz
def aeB:List AV->List AV->Prop
 | [],[]=>True
 | a::r,b::s=>Br a b/\aeB r s
 | _,_=>False
def Mo:∀ {a b:List AV},aeB a b->CJ a b
 | [],[],_=>.nil
 | _::_,_::_,h=>.cons h.1 (Mo h.2)
 | [],_::_,h=>h.elim
 | _::_,[],h=>h.elim
def p8(r:Av)(x:Be)(k:Int):List AV:=[.int .i64 k,.int .i64 r.self.node,.int .i64 x.node,.int .i64 x.BD,.int .i64 r.self.BD,.int .i64 r.AQ,.int .i64 r.view.Az,.int .i64 0,.int .i64 0,.int .i64 0,.int .i64 0,.int .i64 0,.bool false,.bool false,.str [],.str [],.Al .f64 0 0,.Al .f64 0 0,.int .i64 0,.str [],.str [],.str [],.bool false,.Ak,.Ak,.Ak,.Al .f64 0 0,.Al .f64 0 0,.int .i64 0,.Ak,.Ak]
def to_eq(r:Av)(x:Be)(k:Int):A6 FE 6 lY [.agg (AJ r),.agg (DM x),.int .i64 k]=some (.agg (p8 r x k)):=by kernel_rfl
def adA{a b:List AV}{l:List AV}(h:CJ a b):CJ (l++a) (l++b):=by
 induction l with
 | nil=>exact h
 | cons c l ih=>exact .cons (.refl _) ih
def FA{X:Type}{sz:Nat}{e:X->List AV}{z:X}:Br .Ak (DQ sz e z []):=Br.Ak
def apA(r:Av)(x:Be)(k:Int):CJ (p8 r x k) (Aq (O7 r x k)):=
 adA (l:=[.int .i64 k,.int .i64 r.self.node,.int .i64 x.node,.int .i64 x.BD,.int .i64 r.self.BD,.int .i64 r.AQ,.int .i64 r.view.Az,.int .i64 0,.int .i64 0,.int .i64 0,.int .i64 0,.int .i64 0,.bool false,.bool false,.str [],.str [],.Al .f64 0 0,.Al .f64 0 0,.int .i64 0,.str [],.str [],.str [],.bool false])
  (a:=[.Ak,.Ak,.Ak,.Al .f64 0 0,.Al .f64 0 0,.int .i64 0,.Ak,.Ak]) (b:=[AY [],CD [],Iq [],.Al .f64 0 0,.Al .f64 0 0,.int .i64 0,AY [],B7 []])
  (.cons FA (.cons FA (.cons FA (adA (l:=[.Al .f64 0 0,.Al .f64 0 0,.int .i64 0]) (.cons FA (.cons FA .nil))))))
def ar6(p:Av × Be × Int)(_:True):At PG lY [.agg (AJ p.1),.agg (DM p.2.1),.int .i64 p.2.2] [] (.agg (Aq (O7 p.1 p.2.1 p.2.2))) []:=
 (LS (to_eq p.1 p.2.1 p.2.2)).res (.agg (apA _ _ _))
abbrev p9:=Av × Be × Int
def cw(a:List AV):p9:=(Fj (Bd a 0),G0 (Bd a 1),AS a 2)
def cy(_:p9):Prop:=True
def cz(p:p9):List AV:=[.agg (AJ p.1),.agg (DM p.2.1),.int .i64 p.2.2]
def kTo:Af:=.spec lY cw cy cz (λp=>.agg (Aq (O7 p.1 p.2.1 p.2.2)))
def aeC:kTo.Ok PG:=Af.BJ ar6
def ah5:Af:=.spec lY cw cy cz (λp=>.agg (p8 p.1 p.2.1 p.2.2))
def apB:ah5.Ok PG:=Af.BJ λp _=>LS (to_eq p.1 p.2.1 p.2.2)
def qTo{R:Type}{r:Av}{x:Be}{i:Int}{k:p9->Option R}:gC cw cy cz [.agg (AJ r),.agg (DM x),.int .i64 i] k=k (r,x,i):=Bj (r,x,i) (Cv (GZ r) rfl) trivial (.refl _)
def of_eq(e:Entry):A6 FE 6 tN [.agg (Bt e)]=some (.agg (BH (GH e))):=by kernel_rfl
def gy(a:List AV):Entry:=DG (Bd a 0)
def gz(_:Entry):Prop:=True
def gA(e:Entry):List AV:=[.agg (Bt e)]
def af3{R:Type}{e:Entry}{k:Entry->Option R}:gC gy gz gA [.agg (Bt e)] k=k e:=Bj e (ZD e) trivial (.refl _)
def kOf:Af:=.spec tN gy gz gA (λe=>.agg (BH (GH e)))
def aeD:kOf.Ok PG:=Af.BJ λe _=>LS (of_eq e)
def Tu(o:Option Be):AV:=.Am [.agg (DM (o.getD default)),.bool o.isSome]
def alr(l:List Be)(m:Be):A6 iA 6 sK [CD l,.agg (DM m)]=n8 l m λy=>
  bif decide (idx y.1 y.2<0)then some (Tu none)else bif decide ((l.length:Int)<=Ao (idx y.1 y.2+1))then some (Tu none)else
  rg (Ao (idx y.1 y.2+1)) l.length (some (Tu (some (l.getD (Ao (idx y.1 y.2+1)).toNat default)))):=by kernel_rfl
def als(l:List Be)(m:Be):A6 iA 6 sU [CD l,.agg (DM m)]=n8 l m λy=>
  bif decide (idx y.1 y.2<1)then some (Tu none)else
  rg (Ao (idx y.1 y.2 - 1)) l.length (some (Tu (some (l.getD (Ao (idx y.1 y.2 - 1)).toNat default)))):=by kernel_rfl
def aeE{R:Type}{i n:Int}{k:Option R}(h:0<=i/\i<n):rg i n k=k:=by unfold rg;rw[Ax h.1,Ax h.2];rfl
def tB(x:LM)(h:Tt x):At PG sK [CD x.1,.agg (DM x.2)] [] (Tu (Jw x.1 x.2 1)) []:=by
 refine oN ((alr x.1 x.2).trans ?_);rw[uB h];have hb:=aey x.1 x.2;have hl:x.1.length<=1000000:=h;simp only[wrap64 (x:=idx x.1 x.2+1) (by omega)];unfold Jw;by_cases h1:idx x.1 x.2<0
 ·rw[Ax h1,Ay (Or.inl h1)];rfl
 ·by_cases h2:(x.1.length:Int)<=idx x.1 x.2+1
  ·rw[AN h1,Ax h2,Ay (Or.inr (Or.inr h2))];rfl
  ·rw[AN h1,AN h2,AE (by omega),aeE (by omega)];rfl
def akf(x:LM)(h:Tt x):At PG sU [CD x.1,.agg (DM x.2)] [] (Tu (Jw x.1 x.2 (-1))) []:=by
 refine oN ((als x.1 x.2).trans ?_);rw[uB h];have hb:=aey x.1 x.2;have hl:x.1.length<=1000000:=h;simp only[wrap64 (x:=idx x.1 x.2 - 1) (by omega)];unfold Jw;by_cases h1:idx x.1 x.2<1
 ·rw[Ax h1,Ay (by omega)];rfl
 ·rw[AN h1,AE (by omega),aeE (by omega)];rfl
def PC:Af:=.spec sK Ve Tt XN (λx=>Tu (Jw x.1 x.2 1))
def SY:PC.Ok PG:=Af.BJ tB
def m6:Af:=.spec sU Ve Tt XN (λx=>Tu (Jw x.1 x.2 (-1)))
def tC:m6.Ok PG:=Af.BJ akf
def af4:List Af:=[Lo,fQ,fA,br,xy,PC,m6,kTo,P6]
def am1:∀ k ∈ af4,k.Ok PG:=ak Np (ak mh (ak l7 (ak fB (ak aco (ak SY (ak tC (ak aeC (ak Rn AR))))))))
def ah6:Env:=Qn af4
def axt{n f:Nat}{xs:List AV}{r:AV}(e:A6 ah6 n f xs=some r):At PG f xs [] r []:=PL (md:=λ_=>none) am1 e
def am2(r:Av)(m:Be):A6 ah6 6 sL [.agg (AJ r),.agg (DM m)]=gC cw cy cz [.agg (AJ r),.agg (DM m),.int .i64 14] λy=>n8 r.view.chain r.self λz=>
  bif(Jw z.1 z.2 1).isSome then some (.agg (Aq {O7 y.1 y.2.1 y.2.2 with Ag:=r.B5}))else some (.agg (Aq {O7 y.1 y.2.1 y.2.2 with Ag:=r.tail.last})):=by kernel_rfl
def alu(p:Av × Be)(h:p.1.view.chain.length<=LB):At PG sL [.agg (AJ p.1),.agg (DM p.2)] [] (.agg (Aq {O7 p.1 p.2 14 with Ag:=gu p.1})) []:=by refine axt ((am2 p.1 p.2).trans ?_);rw[qTo,uB h];unfold gu;cases (Jw p.1.view.chain p.1.self 1).isSome <;> rfl
def Wh(a:List AV):Av × Be:=(Fj (Bd a 0),G0 (Bd a 1))
def pRM(p:Av × Be):Prop:=p.1.view.chain.length<=LB
def Wi(p:Av × Be):List AV:=[.agg (AJ p.1),.agg (DM p.2)]
def qRM{R:Type}{r:Av}{x:Be}{P:Av × Be->Prop}{k:Av × Be->Option R}(h:P (r,x)):gC Wh P Wi [.agg (AJ r),.agg (DM x)] k=k (r,x):=Bj (r,x) (Cv (GZ r) rfl) h (.refl _)
def wv:Af:=.spec sL Wh pRM Wi (λp=>.agg (Aq {O7 p.1 p.2 14 with Ag:=gu p.1}))
def abr:wv.Ok PG:=Af.BJ alu
section
set_option maxHeartbeats 2000000
def af5:List Af:=[Lo,ah5,lI,lO,lZ]
def am3:∀ k ∈ af5,k.Ok PG:=ak Np (ak apB (ak sG (ak sH (ak sM AR))))
def Ki:Env:=Qn af5
def af6{n f:Nat}{xs:List AV}{r:AV}(e:A6 Ki n f xs=some r):At PG f xs [] r []:=PL (md:=λ_=>none) am3 e
def z31:List AV:=[.int .i64 0,.int .i64 0,.int .i64 0,.int .i64 0,.int .i64 0,.int .i64 0,.int .i64 0,.int .i64 0,.int .i64 0,.int .i64 0,.int .i64 0,.int .i64 0,.bool false,.bool false,.str [],.str [],.Al .f64 0 0,.Al .f64 0 0,.int .i64 0,.str [],.str [],.str [],.bool false,.Ak,.Ak,.Ak,.Al .f64 0 0,.Al .f64 0 0,.int .i64 0,.Ak,.Ak]
def yK(r:Av)(x:Be)(k:Int)(fl:Au)(a:AV):List AV:=[.int .i64 k,.int .i64 r.self.node,.int .i64 x.node,.int .i64 x.BD,.int .i64 r.self.BD,.int .i64 r.AQ,.int .i64 r.view.Az,.int .i64 0,.int .i64 0,.int .i64 0,.int .i64 0,.int .i64 0,.bool false,.bool false,.str [],.str [],.Al .f64 0 0,eV fl,.int .i64 0,.str [],.str [],.str [],.bool false,a,.Ak,.Ak,.Al .f64 0 0,.Al .f64 0 0,.int .i64 0,.Ak,.Ak]
def apC(r:Av)(m:Be):A6 Ki 6 sE [AV.agg (AJ r),AV.agg (DM m)] =
 gC (cw) (cy) (cz) ([AV.agg (AJ r),AV.agg (DM m),AV.int .i64 11]) λy0=>
 gC (dL G0) (Fy) (gw) ([CD r.view.chain]) λy1=>
 gC (dL DG) (Fy) (XM) ([AY r.tail.log]) λy2=>
 gC (dL EU) (Fy) (nr) ([B7 r.seen]) λy3=>
 some (AV.agg [AV.int .i64 y0.snd.snd,AV.int .i64 y0.fst.self.node,AV.int .i64 y0.snd.fst.node,AV.int .i64 y0.snd.fst.BD,AV.int .i64 y0.fst.self.BD,AV.int .i64 y0.fst.AQ,AV.int .i64 y0.fst.view.Az,AV.int .i64 r.view.gen,AV.int .i64 0,AV.int .i64 0,AV.int .i64 0,AV.int .i64 0,AV.bool false,AV.bool false,AV.str [],AV.str [],AV.Al .f64 0 0,AV.Al .f64 0 0,AV.int .i64 0,AV.str [],AV.str [],AV.str [],AV.bool false,AV.Ak,CD y1,AV.Ak,AV.Al .f64 r.tail.floor.re r.tail.floor.im,AV.Al .f64 r.tail.last.re r.tail.last.im,AV.int .i64 r.view.gen,AY y2,B7 y3]):=by kernel_rfl
def am4(p:Av × Be)(h:Hr p.1):At PG sE [.agg (AJ p.1),.agg (DM p.2)] [] (.agg (Aq (aL p.1 p.2))) []:=by obtain⟨r,m⟩:=p;have e:=apC r m;rw[qTo,af1 h.1,auu h.2.1,ar2 h.2.2.1]at e;exact(af6 e).res (.agg (Mo (by repeat' (first | exact trivial | exact FA | exact Br.refl _ | refine⟨?_,?_⟩))))
def qb(p:Av × Be):Prop:=Hr p.1
def af7:Af:=.spec sE Wh qb Wi (λp=>.agg (Aq (aL p.1 p.2)))
def am5:af7.Ok PG:=Af.BJ am4
def Sw(r:Av)(x:Be)(i:Int)(a:AV)(rest:Heap):St:={fr:=[(2,.ptr 0 0 0),(4,.ptr 1 0 0),(5,.ptr 2 0 0),(17,AY r.tail.log),(18,.int .i64 r.tail.log.length),(19,.int .i64 i),(1003,.undef)],hp:=.arr true 15 [AJ r] :: .arr true 31 [z31] :: .arr true 31 [yK r x 13 r.tail.floor a]::rest}
def apD(N:Nat)(r:Av)(m:Be):A6 Ki (N+1) J4 [AV.agg (AJ r),AV.agg (DM m)] =
 gC cw cy cz [AV.agg (AJ r),AV.agg (DM m),AV.int .i64 13] λy0=>LP Ki N 0 J4 By 0 [] N {fr:=[(2,.ptr 0 0 0),(4,.ptr 1 0 0),(5,.ptr 2 0 0),(17,AY r.tail.log),(18,.int .i64 r.tail.log.length),(19,.int .i64 0),(1003,.undef)],hp:=[.arr true 15 [AJ r],.arr true 31 [z31],.arr true 31 [((p8 y0.1 y0.2.1 y0.2.2).set 17 (eV r.tail.floor))]]}:=by kernel_rfl
def akg(N:Nat)(m:Nat)(r:Av)(x:Be)(i:Int):LP Ki N 0 J4 By 0 [] (m+1) (Sw r x i AV.Ak []) =
 bif decide (i<(↑r.tail.log.length:Int))then
  bif decide (0<=i)&&decide (i<(↑r.tail.log.length:Int))then
   gC (Dq) (V2) (Dp) ([AV.Al .f64 r.B5.re r.B5.im,AV.Al .f64 (r.tail.log.getD i.toNat default).Ag.re (r.tail.log.getD i.toNat default).Ag.im]) λy4=>
   bif AP y4.fst y4.snd then
    LP (Ki) (N) (0) (J4) (By) 0 ([]) (m) (Sw r x (Ao (i+1)) (AV.sl 11 3 0 1 1) [BS.seq true 11 1 λi_1=>[Bt (r.tail.log.getD i.toNat default)].getD i_1 (Bt (r.tail.log.getD i.toNat default))])
   else
    LP (Ki) (N) (0) (J4) (By) 0 ([]) (m) (Sw r x (Ao (i+1)) AV.Ak [])
  else none
 else
  some (AV.agg [AV.int .i64 13,AV.int .i64 r.self.node,AV.int .i64 x.node,AV.int .i64 x.BD,AV.int .i64 r.self.BD,AV.int .i64 r.AQ,AV.int .i64 r.view.Az,AV.int .i64 0,AV.int .i64 0,AV.int .i64 0,AV.int .i64 0,AV.int .i64 0,AV.bool false,AV.bool false,AV.str [],AV.str [],AV.Al .f64 0 0,AV.Al .f64 r.tail.floor.re r.tail.floor.im,AV.int .i64 0,AV.str [],AV.str [],AV.str [],AV.bool false,AV.Ak,AV.Ak,AV.Ak,AV.Al .f64 0 0,AV.Al .f64 0 0,AV.int .i64 0,AV.Ak,AV.Ak]):=by kernel_rfl
def akh(N:Nat)(m:Nat)(r:Av)(x:Be)(i:Int)(f:Nat->List AV):LP Ki N 0 J4 By 0 [] (m+1) (Sw r x i (AV.sl 11 3 0 1 1) [BS.seq true 11 1 f]) =
 bif decide (i<(↑r.tail.log.length:Int))then
  bif decide (0<=i)&&decide (i<(↑r.tail.log.length:Int))then
   gC (Dq) (V2) (Dp) ([AV.Al .f64 r.B5.re r.B5.im,AV.Al .f64 (r.tail.log.getD i.toNat default).Ag.re (r.tail.log.getD i.toNat default).Ag.im]) λy5=>
   bif AP y5.fst y5.snd then
    LP (Ki) (N) (0) (J4) (By) 0 ([]) (m) (Sw r x (Ao (i+1)) (AV.sl 11 3 0 2 0) [BS.seq true 11 2 λi_1=>bif i_1.blt 1 then f i_1 else bif i_1.blt 2 then [Bt (r.tail.log.getD i.toNat default)].getD (i_1 - 1) []else f 1])
   else
    LP (Ki) (N) (0) (J4) (By) 0 ([]) (m) (Sw r x (Ao (i+1)) (AV.sl 11 3 0 1 1) [BS.seq true 11 1 f])
  else none
 else
  some (AV.agg [AV.int .i64 13,AV.int .i64 r.self.node,AV.int .i64 x.node,AV.int .i64 x.BD,AV.int .i64 r.self.BD,AV.int .i64 r.AQ,AV.int .i64 r.view.Az,AV.int .i64 0,AV.int .i64 0,AV.int .i64 0,AV.int .i64 0,AV.int .i64 0,AV.bool false,AV.bool false,AV.str [],AV.str [],AV.Al .f64 0 0,AV.Al .f64 r.tail.floor.re r.tail.floor.im,AV.int .i64 0,AV.str [],AV.str [],AV.str [],AV.bool false,AV.tr 11 1 λi=>f i,AV.Ak,AV.Ak,AV.Al .f64 0 0,AV.Al .f64 0 0,AV.int .i64 0,AV.Ak,AV.Ak]):=by kernel_rfl
def aki(N:Nat)(m:Nat)(r:Av)(x:Be)(i:Int)(n:Nat)(f:Nat->List AV):LP Ki N 0 J4 By 0 [] (m+1) (Sw r x i (AV.sl 11 3 0 n 0) [BS.seq true 11 n f]) =
 bif decide (i<(↑r.tail.log.length:Int))then
  bif decide (0<=i)&&decide (i<(↑r.tail.log.length:Int))then
   gC (Dq) (V2) (Dp) ([AV.Al .f64 r.B5.re r.B5.im,AV.Al .f64 (r.tail.log.getD i.toNat default).Ag.re (r.tail.log.getD i.toNat default).Ag.im]) λy6=>
   bif AP y6.fst y6.snd then
    bif n.beq 0||n.ble n then
     bif((n+1)*112).ble 140737488355328&&(n+1).ble 140737488355328 then
      LP (Ki) (N) (0) (J4) (By) 0 ([]) (m) (Sw r x (Ao (i+1)) (AV.sl 11 3 0 (n+1) 0) [BS.seq true 11 (n+1) λi_1=>bif i_1.blt n then f i_1 else bif i_1.blt (n+1)then [Bt (r.tail.log.getD i.toNat default)].getD (i_1 - n) []else f n])
     else none
    else none
   else
    LP (Ki) (N) (0) (J4) (By) 0 ([]) (m) (Sw r x (Ao (i+1)) (AV.sl 11 3 0 n 0) [BS.seq true 11 n f])
  else none
 else
  bif(n.beq 0||n.ble n)&&true then
   some (AV.agg [AV.int .i64 13,AV.int .i64 r.self.node,AV.int .i64 x.node,AV.int .i64 x.BD,AV.int .i64 r.self.BD,AV.int .i64 r.AQ,AV.int .i64 r.view.Az,AV.int .i64 0,AV.int .i64 0,AV.int .i64 0,AV.int .i64 0,AV.int .i64 0,AV.bool false,AV.bool false,AV.str [],AV.str [],AV.Al .f64 0 0,AV.Al .f64 r.tail.floor.re r.tail.floor.im,AV.int .i64 0,AV.str [],AV.str [],AV.str [],AV.bool false,AV.tr 11 n λi=>f i,AV.Ak,AV.Ak,AV.Al .f64 0 0,AV.Al .f64 0 0,AV.int .i64 0,AV.Ak,AV.Ak])
  else none:=by kernel_rfl
def jE(r:Av)(x:Be)(i:Int)(l:List Entry):St:=Sw r x i (gSl 11 3 l) (gBl 11 Bt default l)
def abt(N m:Nat)(r:Av)(x:Be)(i:Int)(l:List Entry)(hl:l.length<=LB):LP Ki N 0 J4 By 0 [] (m+1) (jE r x i l) =
  bif decide (i<(r.tail.log.length:Int))then rg i r.tail.log.length <| gC Dq V2 Dp [eV r.B5,eV (r.tail.log.getD i.toNat default).Ag] λy=>
   bif AP y.1 y.2 then LP Ki N 0 J4 By 0 [] m (jE r x (Ao (i+1)) (l++[r.tail.log.getD i.toNat default]))
   else LP Ki N 0 J4 By 0 [] m (jE r x (Ao (i+1)) l)
  else some (.agg (yK r x 13 r.tail.floor (gTr 11 Bt default l))):=by
 unfold LB at hl
 match l,hl with
 | [],_=>exact(akg N m r x i).trans (by rw[ali (z:=default)];rfl)
 | [a],_=>exact(akh N m r x i _).trans (by rw[alj (z:=default)];rfl)
 | a::b::l,hl=>refine(aki N m r x i (l.length+2) _).trans ?_;have h:=ack (e:=Bt) (z:=default) (l:=a::b::l) (by simp) (r.tail.log.getD i.toNat default);simp only[CR]at h hl;rw[h,jE,apl (by simp),apm (by simp)];simp only[aut (b:=112) (n:=l.length+2) (by omega) (by omega),CV,orU,Ae];rfl
def am6(p:Av × Be)(h:p.1.tail.log.length<=LB/\AU p.1.B5 /\ ∀ e ∈ p.1.tail.log,AU e.Ag):At PG J4 [.agg (AJ p.1),.agg (DM p.2)] [] (.agg (Aq (gv p.1 p.2))) []:=by
 obtain⟨r,m⟩:=p;obtain⟨h1,h2,h3⟩:=h;simp only at h1 h2 h3;have e:=apD (r.tail.log.length+1) r m;rw[qTo]at e;have key:=alk (l:=r.tail.log) (z:=default) (keep:=λe=>AP r.B5 e.Ag) (G:=λk i l=>LP Ki (r.tail.log.length+1) 0 J4 By 0 [] k (jE r m i l)) (fin:=λl=>some (.agg (yK r m 13 r.tail.floor (gTr 11 Bt default l))))
  (λk acc ha=>by rw[abt _ _ _ _ _ _ (by omega),Rs,AN (by omega),Aj])
  (λk i acc hi ha=>by rw[abt _ _ _ _ _ _ (by omega),Rs,Ax hi,Ae,B8 hi,BV];show gC Dq V2 Dp [.Al .f64 _ _,.Al .f64 _ _] _=_;rw[Ik h2 (h3 _ (De hi)),Cs (by unfold LB at h1;omega)])
  r.tail.log.length 0 (r.tail.log.length+1) [] (by omega) (by omega) (by simp)
 rw[Hf,NO]at key;exact(af6 (e.trans key)).res (.agg (Mo (by repeat' (first | exact trivial | exact FA | exact apn _ | exact Br.refl _ | refine⟨?_,?_⟩))))
def pFw(p:Av × Be):Prop:=p.1.tail.log.length<=LB/\AU p.1.B5 /\ ∀ e ∈ p.1.tail.log,AU e.Ag
def af8:Af:=.spec J4 Wh pFw Wi (λp=>.agg (Aq (gv p.1 p.2)))
def am7:af8.Ok PG:=Af.BJ am6
end
section
set_option maxHeartbeats 2000000
def af9:List Af:=[af7,af8,wv,PC,m6]
def am8:∀ k ∈ af9,k.Ok PG:=ak am5 (ak am7 (ak abr (ak SY (ak tC AR))))
def Vf:Env:=Qn af9
def aN{n f:Nat}{xs:List AV}{r:AV}(e:A6 Vf n f xs=some r):At PG f xs [] r []:=PL (md:=λ_=>none) am8 e
def bt(r:Av)(ph:Int):Av:={r with view:={r.view with phase:=ph}}
def TO(r:Av)(ch:List Be)(sy:List Bool):Av:={r with view:={r.view with phase:=2,chain:=ch},synced:=sy}
def adB{r:Av}{ph:Int}(h:r.view.phase=ph):r=bt r ph:=by cases r;rename_i v _ _ _ _ _;cases v;simp only at h;subst h;rfl
def apE{r:Av}(h:r.view.phase=2):r=TO r r.view.chain r.synced:=by cases r;rename_i v _ _ _ _ _;cases v;simp only at h;subst h;rfl
def P7(r:Av)(fin:List (Av × Be)->Option AV):List Be->List Bool->List (Av × Be)->Option AV
 | m::ms,s::ss,acc=>bif !s then gC Wh qb Wi [.agg (AJ r),.agg (DM m)] λy=>P7 r fin ms ss (acc++[y])else P7 r fin ms ss acc
 | _,_,acc=>fin acc
def X7:List (Av × Be)->Option AV
 | []=>some .Ak
 | l=>some (.A9 31 (l.map λy=>Aq (aL y.1 y.2)))
def RS(r:Av):Option AV:=bif decide (r.frozen<=r.view.Az)then some .Ak else some .Ak
def am9(r:Av)(a:Be)(s:Bool):A6 Vf 9 Pw [.agg (AJ (TO r [a] [s]))] =
  bif decide (r.frozen<=r.view.Az)then bif O8 [a] r.self then P7 (TO r [a] [s]) X7 [a] [s] []else RS r else RS r:=by kernel_rfl
def ana(r:Av)(a b:Be)(s t:Bool):A6 Vf 9 Pw [.agg (AJ (TO r [a,b] [s,t]))] =
  bif decide (r.frozen<=r.view.Az)then bif O8 [a,b] r.self then P7 (TO r [a,b] [s,t]) X7 [a,b] [s,t] []else RS r else RS r:=by kernel_rfl
def anb(r:Av)(a b c:Be)(s t u:Bool):A6 Vf 9 Pw [.agg (AJ (TO r [a,b,c] [s,t,u]))] =
  bif decide (r.frozen<=r.view.Az)then bif O8 [a,b,c] r.self then P7 (TO r [a,b,c] [s,t,u]) X7 [a,b,c] [s,t,u] []else RS r else RS r:=by kernel_rfl
def ane(r:Av)(a b c d:Be)(s t u v:Bool):A6 Vf 9 Pw [.agg (AJ (TO r [a,b,c,d] [s,t,u,v]))] =
  bif decide (r.frozen<=r.view.Az)then bif O8 [a,b,c,d] r.self then P7 (TO r [a,b,c,d] [s,t,u,v]) X7 [a,b,c,d] [s,t,u,v] []else RS r else RS r:=by kernel_rfl
def apF(r:Av):A6 Vf 9 Pw [.agg (AJ (bt r 0))]=some .Ak:=by kernel_rfl
def oQ(r:Av)(l:List (List AV)):Option AV:=gC Ve Tt XN [CD r.view.chain,.agg (DM r.self)] λz=>
 bif(Jw z.1 z.2 (-1)).isSome then gC Wh pRM Wi [.agg (AJ r),.agg (DM ((Jw z.1 z.2 (-1)).getD default))] λa=>some (.A9 31 (l++[Aq {O7 a.1 a.2 14 with Ag:=gu a.1}]))
 else match l with
  | []=>some .Ak
  | l=>some (.A9 31 l)
def xA(r:Av):Option AV:=bif decide (r.frozen<=r.view.Az)then gC Ve Tt XN [CD r.view.chain,.agg (DM r.self)] λy=>
   bif(Jw y.1 y.2 1).isSome then gC Wh pFw Wi [.agg (AJ (bt r 3)),.agg (DM ((Jw y.1 y.2 1).getD default))] λf=>oQ (bt r 3) [Aq (gv f.1 f.2)]
   else oQ (bt r 3) []
  else some .Ak
def apG(r:Av):A6 Vf 9 Pw [.agg (AJ (bt r 3))]=bif decide (r.frozen<=r.view.Az)then xA r else xA r:=by kernel_rfl
def uC{r:Av}(h:Hr r){fin:List (Av × Be)->Option AV}:∀ (l:List Be) (s:List Bool) (acc:List (Av × Be)),∃ k,P7 r fin l s acc=fin (acc++k)/\k.map (λy=>aL y.1 y.2)=fP r l s
 | [],_,acc=>⟨[],by simp[P7],rfl⟩
 | _::_,[],acc=>⟨[],by simp[P7],rfl⟩
 | m::ms,s::ss,acc=>by
  cases s with
  | true=>obtain⟨k,h1,h2⟩:=uC h (fin:=fin) ms ss acc;exact⟨k,h1,h2⟩
  | false=>obtain⟨k,h1,h2⟩:=uC h (fin:=fin) ms ss (acc++[(r,m)]);refine⟨(r,m)::k,?_,by simp[fP,h2]⟩;show(gC Wh qb Wi [.agg (AJ r),.agg (DM m)] λy=>P7 r fin ms ss (acc++[y]))=_;rw[qRM (P:=qb) h,h1,JE];rfl
def vu(l:List Ad):∀ v,(match l with | []=>AV.Ak | l=>.A9 31 (l.map Aq))=v->Br v (BB l):=by
 intro v hv;subst hv
 match l with
 | []=>exact FA
 | a::l=>exact Br.uw (e:=Aq) (z:=default) (a::l)
structure Kj(r:Av):Prop where
 short:Hr r
 ph:r.view.phase=0\/r.view.phase=2\/r.view.phase=3
 sync:r.view.phase=2->Rr r.view.chain r.self=true/\r.synced.length=r.view.chain.length
 len:r.view.chain.length<=4
 B5:AU r.B5
 log:∀ e ∈ r.tail.log,AU e.Ag
def abu{l:List Be}{m:Be}(hl:l ≠ []):O8 l m=Rr l m:=by
 cases l with
 | nil=>exact absurd rfl hl
 | cons x r=>unfold O8 Rr;rw[CV];exact wq x m
def adC{r:Av}(h:r.view.chain.length<=LB)(l:List Ad):oQ r (l.map Aq)=some (match l++n6 r with | []=>AV.Ak | l=>.A9 31 (l.map Aq)):=by
 unfold oQ n6;rw[qLM h];cases hs:Jw r.view.chain r.self (-1)with
 | none=>
  cases l with
  | nil=>rfl
  | cons a l=>simp
 | some m=>
  simp only[Option.isSome_some,Ae,LK];rw[qRM (P:=pRM) h];cases l with
  | nil=>rfl
  | cons a l=>simp
def alv(r:Av)(h:Kj r):At PG Pw [.agg (AJ r)] [] (BB (BL r)) []:=by
 have hLB:r.view.chain.length<=LB:=h.short.1;rcases h.ph with hp | hp | hp
 ·have ha:BL r=[]:=by
   unfold BL Xt Ry RP;rw[hp];rfl
  rw[ha];have:=aN (apF r);rw[<- adB hp]at this;exact this.res FA
 ·obtain⟨hf,hl⟩:=h.sync hp;have hs:Xt r=decide (r.frozen<=r.view.Az):=by
   unfold Xt RP;rw[hp];cases decide (r.frozen<=r.view.Az) <;> rfl
  have hw:Ry r=false:=by unfold Ry;rw[hp];cases RP r <;> rfl
  have key:A6 Vf 9 Pw [.agg (AJ r)]=bif decide (r.frozen<=r.view.Az)then P7 r X7 r.view.chain r.synced []else RS r:=by
   have he:=apE hp;have O3:O8 r.view.chain r.self=true:=by rw[abu (by obtain⟨x,hx⟩:=ajt hf;rw[hx];simp)];exact hf
   have hlen:=h.len;generalize r.view.chain=ch at *;generalize r.synced=sy at *
   match ch,sy,hl,hlen with
   | [a],[s],_,_=>have:=am9 r a s;rw[<- he,O3]at this;exact this
   | [a,b],[s,t],_,_=>have:=ana r a b s t;rw[<- he,O3]at this;exact this
   | [a,b,c],[s,t,u],_,_=>have:=anb r a b c s t u;rw[<- he,O3]at this;exact this
   | [a,b,c,d],[s,t,u,v],_,_=>have:=ane r a b c d s t u v;rw[<- he,O3]at this;exact this
   | [],_,_,_=>simp[Rr]at hf
  unfold BL;rw[hs,hw];cases hd:decide (r.frozen<=r.view.Az)with
  | false=>unfold RS at key;rw[hd]at key;exact(aN key).res FA
  | true=>
   rw[hd,Ae]at key;obtain⟨k,h1,h2⟩:=uC h.short (fin:=X7) r.view.chain r.synced [];rw[h1,NO]at key;simp only[Ae];rw[<- h2];refine(aN (r:=match k.map (λy=>aL y.1 y.2)with | []=>AV.Ak | l=>.A9 31 (l.map Aq)) (key.trans ?_)).res (vu _ _ rfl);cases k with
   | nil=>rfl
   | cons a k=>simp[X7,List.map_map,Function.comp_def]
 ·have hs:Xt r=false:=by
   unfold Xt;rw[hp];cases RP r <;> rfl
  have hw:Ry r=decide (r.frozen<=r.view.Az):=by unfold Ry RP;rw[hp];cases decide (r.frozen<=r.view.Az) <;> rfl
  have key:=apG r;unfold xA at key;rw[<- adB hp,qLM hLB]at key;unfold BL;rw[hs,hw];cases hd:decide (r.frozen<=r.view.Az)with
  | false=>rw[hd]at key;exact(aN key).res FA
  | true=>
   rw[hd]at key;simp only[Ae,Aj]at key ⊢;unfold aez;cases V6:Jw r.view.chain r.self 1 with
   | none=>rw[V6]at key;have:=adC hLB [];simp only[Option.isSome_none,Aj]at key;exact(aN (key.trans this)).res (vu _ _ rfl)
   | some m=>rw[V6]at key;simp only[Option.isSome_some,Ae,LK]at key;rw[qRM (P:=pFw) ⟨h.short.2.1,h.B5,h.log⟩]at key;have:=adC hLB [gv r m];exact(aN (key.trans this)).res (vu _ _ rfl)
def nz:Af:=.spec Pw Ef Kj Eg (λr=>BB (BL r))
def tO:nz.Ok PG:=Af.BJ alv
end
section
set_option maxHeartbeats 2000000
def TP(lv:List (Nat × Nat × List Nat))(md:Nat->Option Nat)(l:List Af):Env:={bq md (Vd l)with live:=λf b=>fL f b (lv++vp)}
def m7{lv:List (Nat × Nat × List Nat)}{md:Nat->Option Nat}{l:List Af}(h:∀ k ∈ l,k.Ok PG):DH PG (TP lv md l):=⟨xv rfl,nq h⟩
def mj{lv:List (Nat × Nat × List Nat)}{md:Nat->Option Nat}{l:List Af}:It PG (TP lv md l):=tM rfl
def yL{lv:List (Nat × Nat × List Nat)}{md:Nat->Option Nat}{l:List Af}(h:∀ k ∈ l,k.Ok PG){n f:Nat}{args:List AV}{r:AV}(e:A6 (TP lv md l) n f args=some r):At PG f args [] r []:=
 uu (m7 h) mj mixed e
end
def CJ.A9{sz:Nat}:∀ {a b:List (List AV)},a.length=b.length->(∀ i,i<a.length->CJ (a.getD i []) (b.getD i []))->Br (.A9 sz a) (.A9 sz b):=by
 intro a b hl h w I u hv;cases hv with
 | A9 _ _ _ h1 hz=>refine .A9 _ _ _ ?_ hz;rw[<- hl];exact Br.N2 h w I u h1
def adD{X:Type}{sz:Nat}{f g:X->List AV}(h:∀ x,CJ (f x) (g x))(l:List X):Br (.A9 sz (l.map f)) (.A9 sz (l.map g)):=by
 refine CJ.A9 (by simp) λi hi=>?_;have hi:i<l.length:=by simpa using hi
 have e1:(l.map f).getD i []=f l[i]:=by simp[List.getD,BR hi]
 have e2:(l.map g).getD i []=g l[i]:=by simp[List.getD,BR hi]
 rw[e1,e2];exact h _
def aga:List Af:=[Lo,fA,xy,br]
def anf:∀ k ∈ aga,k.Ok PG:=ak Np (ak l7 (ak aco (ak fB AR)))
def ND:Env:=Qn aga
def apH(f:Au)(l:Au)(e:Entry):A6 ND 9 ZM [AV.agg [eV f,eV l,AV.Ak],AV.agg (Bt e)] =
 gC (Dq) (V2) (Dp) ([AV.Al .f64 l.re l.im,AV.Al .f64 e.Ag.re e.Ag.im]) λy0=>
 bif !AP y0.fst y0.snd then
  some (AV.Am [AV.agg [AV.Al .f64 f.re f.im,AV.Al .f64 l.re l.im,AV.Ak],AV.bool false])
 else
  some (AV.Am [AV.agg [AV.Al .f64 f.re f.im,AV.Al .f64 e.Ag.re e.Ag.im,AV.A9 11 [Bt e]],AV.bool true]):=by kernel_rfl
def apI(f:Au)(l:Au)(e:Entry):A6 ND 9 ZM [AV.agg [eV f,eV l,AV.A9 11 []],AV.agg (Bt e)] =
 gC (Dq) (V2) (Dp) ([AV.Al .f64 l.re l.im,AV.Al .f64 e.Ag.re e.Ag.im]) λy1=>
 bif !AP y1.fst y1.snd then
  some (AV.Am [AV.agg [AV.Al .f64 f.re f.im,AV.Al .f64 l.re l.im,AV.A9 11 []],AV.bool false])
 else
  some (AV.Am [AV.agg [AV.Al .f64 f.re f.im,AV.Al .f64 e.Ag.re e.Ag.im,AV.A9 11 [Bt e]],AV.bool true]):=by kernel_rfl
def apJ(f:Au)(l:Au)(e:Entry)(n:Nat)(g:Nat->List AV):A6 ND 9 ZM [AV.agg [eV f,eV l,AV.tr 11 (n+1) g],AV.agg (Bt e)] =
 bif((0+(n+1))*112).ble 140737488355328&&(0+(n+1)).ble 140737488355328 then
  gC (Dq) (V2) (Dp) ([AV.Al .f64 l.re l.im,AV.Al .f64 e.Ag.re e.Ag.im]) λy2=>
  bif !AP y2.fst y2.snd then
   bif(n+1).ble (n+1)&&true&&true then
    some (AV.Am [AV.agg [AV.Al .f64 f.re f.im,AV.Al .f64 l.re l.im,AV.tr 11 (n+1) λi=>g i],AV.bool false])
   else none
  else
   bif(n+1).ble (n+1)then
    bif((n+1+1)*112).ble 140737488355328&&(n+1+1).ble 140737488355328 then
     bif(n+1+1).ble (n+1+1)&&true&&true then
      some (AV.Am [AV.agg [AV.Al .f64 f.re f.im,AV.Al .f64 e.Ag.re e.Ag.im,AV.tr 11 (n+1+1) λi=>bif i.blt (n+1)then g i else bif i.blt (n+1+1)then [Bt e].getD (i - (n+1)) []else g (n+1)],AV.bool true])
     else none
    else none
   else none
 else none:=by kernel_rfl
def Ue(a:Seen):Seen:=⟨1,a.num,a.Ag,a.kind,a.code,a.res,a.IT⟩
def ar7(s:Seen):A6 ND 20 Od [AV.Ak,AV.agg (BH s)] =
 some (AV.A9 7 [BH s]):=by kernel_rfl
def ar8(s:Seen):A6 ND 20 Od [AV.A9 7 [],AV.agg (BH s)] =
 some (AV.A9 7 [BH s]):=by kernel_rfl
def ar9(a:Seen)(s:Seen):A6 ND 20 Od [AV.A9 7 [BH (Ue a)],AV.agg (BH (Ue s))] =
 bif decide ((Ue a).num<(Ue s).num)then
  some (AV.A9 7 [[AV.int .i64 1,AV.int .i64 s.num,AV.Al .f64 s.Ag.re s.Ag.im,AV.int .i64 s.kind,AV.int .i64 s.code,AV.str s.res,AV.bool s.IT]])
 else
  some (AV.A9 7 [[AV.int .i64 1,AV.int .i64 a.num,AV.Al .f64 a.Ag.re a.Ag.im,AV.int .i64 a.kind,AV.int .i64 a.code,AV.str a.res,AV.bool a.IT]]):=by kernel_rfl
def Kk(t:BZ)(e:Entry):BZ × Bool:=bif AP t.last e.Ag then(⟨t.floor,e.Ag,t.log++[e]⟩,true)else(t,false)
abbrev TE:=BZ × Entry
def jF(a:List AV):TE:=(KI (Bd a 0),DG (Bd a 1))
def Wj(p:TE):Prop:=p.1.log.length<=10000/\AU p.1.last/\AU p.2.Ag
def Yw(p:TE):List AV:=[.agg (Cn p.1),.agg (Bt p.2)]
def cB(p:TE):AV:=.Am [.agg (Cn (Kk p.1 p.2).1),.bool (Kk p.1 p.2).2]
def RT{n f:Nat}{xs:List AV}{r:AV}(e:A6 ND n f xs=some r):At PG f xs [] r []:=PL (md:=λ_=>none) anf e
def UQ{f l:Au}{a b:AV}(h:Br a b):Br (.agg [eV f,eV l,a]) (.agg [eV f,eV l,b]):=.agg (.cons (.refl _) (.cons (.refl _) (.cons h .nil)))
def apK{f l:Au}{g:Nat->List AV}{x:AV}:N3 [.agg [eV f,eV l,.tr 11 0 g],x] [.agg [eV f,eV l,.Ak],x] [.agg [eV f,eV l,.A9 11 []],x]:=N3.of [] [x] (.agg (N3.of [eV f,eV l] [] .nil))
def X2{a b:AV}{c:Bool}(h:Br a b):Br (.Am [a,.bool c]) (.Am [b,.bool c]):=.Am (.cons h (.cons (.refl _) .nil))
def one_sub(e:Entry):Br (.A9 11 [Bt e]) (AY [e]):=Br.PJ [e] rfl
def adE:Br (.A9 11 []) (AY []):=Br.PJ [] rfl
def ang{F:Nat}
  (hn:∀ (f l:Au) (e:Entry),A6 ND 9 F [.agg [eV f,eV l,.Ak],.agg (Bt e)]=gC Dq V2 Dp [.Al .f64 l.re l.im,.Al .f64 e.Ag.re e.Ag.im] λy=>bif !AP y.1 y.2 then some (.Am [.agg [eV f,eV l,.Ak],.bool false])else some (.Am [.agg [eV f,eV e.Ag,.A9 11 [Bt e]],.bool true]))
  (he:∀ (f l:Au) (e:Entry),A6 ND 9 F [.agg [eV f,eV l,.A9 11 []],.agg (Bt e)]=gC Dq V2 Dp [.Al .f64 l.re l.im,.Al .f64 e.Ag.re e.Ag.im] λy=>bif !AP y.1 y.2 then some (.Am [.agg [eV f,eV l,.A9 11 []],.bool false])else some (.Am [.agg [eV f,eV e.Ag,.A9 11 [Bt e]],.bool true]))
  (hc:∀ (f l:Au) (e:Entry) (n:Nat) (g:Nat->List AV),n<=10000->AU l->AU e.Ag->A6 ND 9 F [.agg [eV f,eV l,.tr 11 (n+1) g],.agg (Bt e)] =
   bif AP l e.Ag then some (.Am [.agg [eV f,eV e.Ag,.tr 11 (n+1+1) λi=>bif i.blt (n+1)then g i else bif i.blt (n+1+1)then [Bt e].getD (i - (n+1)) []else g (n+1)],.bool true])else some (.Am [.agg [eV f,eV l,.tr 11 (n+1) λi=>g i],.bool false]))
  (p:TE) (h:Wj p):At PG F (Yw p) [] (cB p) []:=by
 obtain⟨⟨f,l,log⟩,e⟩:=p;obtain⟨h1,h2,h3⟩:=h;simp only at h1 h2 h3;cases log with
 | nil=>
  refine At.split apK ?_ ?_
  ·have k:=hn f l e;rw[Ik h2 h3]at k;unfold cB Kk;simp only at k ⊢;cases hv:AP l e.Ag with
   | false=>rw[hv]at k;exact(RT k).res (X2 (UQ FA))
   | true=>rw[hv]at k;exact(RT k).res (X2 (UQ (one_sub e)))
  ·have k:=he f l e;rw[Ik h2 h3]at k;unfold cB Kk;simp only at k ⊢;cases hv:AP l e.Ag with
   | false=>rw[hv]at k;exact(RT k).res (X2 (UQ adE))
   | true=>rw[hv]at k;exact(RT k).res (X2 (UQ (one_sub e)))
 | cons a log=>
  have k:=hc f l e log.length (λi=>Bt ((a::log).getD i default)) (by simp only[CR]at h1;omega) h2 h3;unfold cB Kk;simp only;cases hv:AP l e.Ag with
  | false=>rw[hv]at k;exact RT k
  | true=>
   rw[hv]at k;refine(RT k).res (X2 (UQ ?_));have:=ach Bt default (a::log) [e];have e2:(a::log++[e]).length=log.length+1+1:=by simp
   have e3:AY (a::log++[e])=.tr 11 (log.length+1+1) λi=>Bt ((a::log++[e]).getD i default):=by unfold AY DQ;rw[e2]
   show Br _ (AY (a::log++[e]));rw[e3,<- this];exact .refl _
def xB{n b:Nat}(hb:b<=1000)(h:n<=1000000):(Nat.ble (n*b) 140737488355328&&Nat.ble n 140737488355328)=true:=by
 have h1:n*b<=140737488355328:=by have:n*b<=1000000*1000:=RG (by omega) hb;omega
 rw[D3 h1,D3 (by omega:n<=140737488355328)];rfl
def alw(p:TE)(h:Wj p):At PG ZM (Yw p) [] (cB p) []:=
 ang apH apI (λf l e n g hn h2 h3=>by refine(apJ f l e n g).trans ?_;rw[xB (n:=0+(n+1)) (by omega) (by omega),Ae,Ik h2 h3];simp only[acn,CV,Ae,xB (n:=n+1+1) (b:=112) (by omega) (by omega)];cases AP l e.Ag <;> rfl) p h
def wx:Af:=.spec ZM jF Wj Yw cB
def abv:wx.Ok PG:=Af.BJ alw
def qTE{R:Type}{t:BZ}{e:Entry}{k:TE->Option R}(h:Wj (t,e)):gC jF Wj Yw [.agg (Cn t),.agg (Bt e)] k=k (t,e):=Bj (t,e) (Cv (Rh t) (ZD e)) h (.refl _)
abbrev SS:=List Seen × Seen
def cC(a:List AV):SS:=(Bm EU (a.getD 0 .Ak),EU (Bd a 1))
def Yx(p:SS):Prop:=(p.1.length<=1 /\ ∀ a ∈ p.1,a.Ah=1)/\p.2.Ah=1
def Uf(p:SS):List AV:=[B7 p.1,.agg (BH p.2)]
def oSS(p:SS):AV:=B7 (GC p.1 p.2)
def agb{a:Seen}(h:a.Ah=1):a=Ue a:=by cases a;simp only at h;subst h;rfl
def vv{F:Nat}(hn:∀ s,A6 ND 20 F [.Ak,.agg (BH s)]=some (.A9 7 [BH s]))(he:∀ s,A6 ND 20 F [.A9 7 [],.agg (BH s)]=some (.A9 7 [BH s]))
  (h1:∀ a s:Seen,A6 ND 20 F [.A9 7 [BH (Ue a)],.agg (BH (Ue s))]=bif decide (a.num<s.num)then some (.A9 7 [BH (Ue s)])else some (.A9 7 [BH (Ue a)]))
  (p:SS) (h:Yx p):At PG F (Uf p) [] (oSS p) []:=by
 obtain⟨l,s⟩:=p;obtain⟨⟨g1,g2⟩,g3⟩:=h;simp only at g1 g2 g3;have one:∀ s,Br (.A9 7 [BH s]) (B7 [s]):=λs=>Br.PJ [s] rfl;cases l with
 | nil=>exact At.split (N3.of [] [.agg (BH s)] .nil) ((RT (hn s)).res (one s)) ((RT (he s)).res (one s))
 | cons a l=>
  have:l=[]:=by cases l with
   | nil=>rfl
   | cons b c=>simp at g1
  subst this;have k:=h1 a s;rw[<- agb (g2 a (by simp)),<- agb g3]at k;have key:At PG F [.A9 7 [BH a],.agg (BH s)] [] (B7 (bif decide (a.num<s.num)then [s]else [a])) []:=by
   cases hd:decide (a.num<s.num)with
   | true=>rw[hd]at k;exact(RT k).res (one s)
   | false=>rw[hd]at k;exact(RT k).res (one a)
  exact key.args (.cons (Br.amP [a] (by simp)) (.refl _))
def anh(p:SS)(h:Yx p):At PG Od (Uf p) [] (oSS p) []:=vv ar7 ar8 (λa s=>(ar9 a s).trans rfl) p h
def gB:Af:=.spec Od cC Yx Uf oSS
def uD:gB.Ok PG:=Af.BJ anh
def qSS{R:Type}{l:List Seen}{s:Seen}{k:SS->Option R}(h:Yx (l,s)):gC cC Yx Uf [B7 l,.agg (BH s)] k=k (l,s):=Bj (l,s) (Cv (Nq l) (eB s)) h (.refl _)
def agc:List Af:=[wx,gB,kOf]
def ani:∀ k ∈ agc,k.Ok PG:=ak abv (ak uD (ak aeD AR))
def agd:Env:=Qn agc
def auv{n f:Nat}{xs:List AV}{r:AV}(e:A6 agd n f xs=some r):At PG f xs [] r []:=PL (md:=λ_=>none) ani e
def anj(r:Av)(e:Entry):A6 agd 9 UJ [AV.agg (AJ r),AV.agg (Bt e)] =
 gC (jF) (Wj) (Yw) ([AV.agg (Cn r.tail),AV.agg (Bt e)]) λy0=>
 bif !(Kk y0.fst y0.snd).snd then
  some (AV.Am [AV.agg (AJ r),AV.bool false])
 else
  gC (gy) (gz) (gA) ([AV.agg (Bt e)]) λy1=>
  gC (cC) (Yx) (Uf) ([B7 r.seen,AV.agg [AV.int .i64 y1.Ah,AV.int .i64 y1.num,AV.Al .f64 y1.Ag.re y1.Ag.im,AV.int .i64 y1.kind,AV.int .i64 y1.code,AV.str y1.res,AV.bool y1.IT]]) λy2=>
  some (AV.Am [AV.agg [AV.int .i64 r.AQ,AV.int .i64 r.self.node,AV.int .i64 r.self.BD,AV.int .i64 r.view.AQ,AV.int .i64 r.view.Az,AV.int .i64 r.view.gen,AV.int .i64 r.view.phase,CD r.view.chain,AV.int .i64 r.frozen,AV.Al .f64 (Kk y0.fst y0.snd).fst.floor.re (Kk y0.fst y0.snd).fst.floor.im,AV.Al .f64 (Kk y0.fst y0.snd).fst.last.re (Kk y0.fst y0.snd).fst.last.im,AY (Kk y0.fst y0.snd).fst.log,B7 (GC y2.fst y2.snd),AV.Al .f64 r.B5.re r.B5.im,E6 r.synced],AV.bool true]):=by kernel_rfl
structure Rz(r:Av)(e:Entry):Prop where
 log:r.tail.log.length<=10000
 last:AU r.tail.last
 Ag:AU e.Ag
 seen:r.seen.length<=1 /\ ∀ a ∈ r.seen,a.Ah=1
 Ah:e.Ah=1
abbrev RE:=Av × Entry
def QL(a:List AV):RE:=(Fj (Bd a 0),DG (Bd a 1))
def cD(p:RE):Prop:=Rz p.1 p.2
def MT(p:RE):List AV:=[.agg (AJ p.1),.agg (Bt p.2)]
def Ug(p:RE):AV:=.Am [.agg (AJ (Kh p.1 p.2).1),.bool (Kh p.1 p.2).2]
def qRE{R:Type}{r:Av}{e:Entry}{P:RE->Prop}{k:RE->Option R}(h:P (r,e)):gC QL P MT [.agg (AJ r),.agg (Bt e)] k=k (r,e):=Bj (r,e) (Cv (GZ r) (ZD e)) h (.refl _)
def anl{r:Av}{e:Entry}(h:Rz r e){x:Option AV}(hx:x=gC jF Wj Yw [.agg (Cn r.tail),.agg (Bt e)] λy0=>bif !(Kk y0.1 y0.2).2 then some (.Am [.agg (AJ r),.bool false])else gC gy gz gA [.agg (Bt e)] λy1=>
  gC cC Yx Uf [B7 r.seen,.agg (BH (GH y1))] λy2=>some (.Am [.agg (AJ {r with tail:=(Kk y0.1 y0.2).1,seen:=GC y2.1 y2.2}),.bool true])):x=some (Ug (r,e)):=by
 subst hx;rw[qTE ⟨h.log,h.last,h.Ag⟩];unfold Ug Kh Kk;simp only;cases hv:AP r.tail.last e.Ag with
 | false=>rfl
 | true=>simp only[Ae,Dr,Aj];rw[af3,qSS ⟨h.seen,h.Ah⟩];rfl
def alx(p:RE)(h:cD p):At PG UJ (MT p) [] (Ug p) []:=auv (anl h (anj p.1 p.2))
def aO:Af:=.spec UJ QL cD MT Ug
def mG:aO.Ok PG:=Af.BJ alx
structure fU(t:BZ)(v:Au):Prop where
 len:t.log.length<=10000
 fl:AU t.floor
 la:AU t.last
 v:AU v
 log:∀ e ∈ t.log,AU e.Ag
 le:E1 t.floor t.last
abbrev TV:=BZ × Au
def qe(a:List AV):TV:=(KI (Bd a 0),⟨(Ci a 1).1,(Ci a 1).2⟩)
def jG(p:TV):Prop:=fU p.1 p.2
def jH(p:TV):List AV:=[.agg (Cn p.1),eV p.2]
def oTV(p:TV):AV:=.agg (Cn (n7 p.1 p.2))
def qTV{R:Type}{t:BZ}{v:Au}{k:TV->Option R}(h:fU t v):gC qe jG jH [.agg (Cn t),eV v] k=k (t,v):=Bj (t,v) (Cv (Rh t) rfl) h (.refl _)
def AU.max{a b:Au}(ha:AU a)(hb:AU b):AU (Cf a b):=by rcases apj a b with e | e <;> rw[e] <;> assumption
end Go.Wk
end
