/- Part 4 of the texts that the proof needs: the abstract machine, plain laws, contracts of the program's functions. No statement is claimed here. -/
import Derived.Test.YtbalmcpknmjgkaaGreatPart3
import Derived.Maps.RangeRun
import Derived.RangeFuncNested
import Derived.RangeFuncBound
import Derived.RangeFuncCalls
import Derived.RangeFuncLeaves
import Derived.Shelf.Abstract
import Derived.WalkKit
import Derived.OwnWalkIn
import Derived.TacticsInMore
import Derived.LoopNIn
import Derived.LoopIn
import Derived.Test.YtbalmcpknmjgkaaGreatProg
import Derived.Test.YtbalmcpknmjgkaaGreatRows
import Derived.WalkSpells
import Derived.WalkLawsBesides
import Derived.Shelf.RegionOpenPlain
import Derived.Lib.AppendZerosOnto
import Derived.Shelf.Spec.SlicesInsert
set_option linter.unusedVariables false
set_option linter.unusedSimpArgs false
noncomputable section
set_option linter.unusedVariables false
set_option linter.unusedSimpArgs false
namespace Go.AM
variable {R:Type}
structure ahL(R K:Type) where
 f:List K->(K->Option R)->Option R
 sm:∀ {l:List K} {g:K->Option R} {r:R},f l g=some r -> ∀ k ∈ l,g k=some r
 ev:∀ {l:List K} {g:K->Option R} {r:R},l ≠ []->(∀ k ∈ l,g k=some r)->f l g=some r
open Classical in
theorem ZR(R K:Type):∃ f:List K->(K->Option R)->Option R,(∀ {l:List K} {g:K->Option R} {r:R},f l g=some r -> ∀ k ∈ l,g k=some r)/\(∀ {l:List K} {g:K->Option R} {r:R},l ≠ []->(∀ k ∈ l,g k=some r)->f l g=some r):=by
 refine⟨fun l g=>if h:∃ r,∀ k ∈ l,g k=some r then some (Classical.choose h)else none,fun {l g r} h=>?_,fun {l g r} hl h=>?_⟩
 ·dsimp only at h
  split at h
  ·rename_i hh
   intro k hk
   rw[Classical.choose_spec hh k hk];exact h
  ·cases h
 ·have hh:∃ r,∀ k ∈ l,g k=some r:=⟨r,h⟩
  show(if h:∃ r,∀ k ∈ l,g k=some r then some (Classical.choose h)else none)=some r
  rw[dif_pos hh]
  obtain⟨k,hk⟩:=List.exists_mem_of_ne_nil l hl
  rw[<- Classical.choose_spec hh k hk,h k hk]
instance (R K:Type):Inhabited (ahL R K):=⟨⟨Classical.choose (ZR R K),(Classical.choose_spec (ZR R K)).1,(Classical.choose_spec (ZR R K)).2⟩⟩
def aaM(R K:Type):ahL R K:=Classical.choice ⟨default⟩
def chs{K:Type}(l:List K)(f:K->Option R):Option R:=(aaM R K).f l f
theorem aaN{K:Type}{l:List K}{f:K->Option R}{r:R}(h:chs l f=some r):∀ k ∈ l,f k=some r:=(aaM R K).sm h
theorem ahM{K:Type}{l:List K}{f:K->Option R}{r:R}(hl:l ≠ [])(h:∀ k ∈ l,f k=some r):chs l f=some r:=(aaM R K).ev hl h
def GV(s:List UInt8)(l:List (List UInt8)):List (List UInt8):=l.filter fun x=>!Ah x s
def aaO(env:Env)(run:DI R)(nt:Nat)(ops:Array Oper)(draw:Bool)(s:St)(k:St->Option R):Option R:=
 match draw with
 | true=>I6 env run nt ops true ops.toList 0 [] s k
 | false=>match ops.toList with
  | []=>I6 env run nt ops false [] 0 [] s k
  | o::rest=>match o.op with
   | .next x false=>bif JR nt o.dst then TL ops o s.fr fun g fr=>match g with
     | true=>match G3 (A3 fr) x with
      | .ptr b 0 0=>match Ab s.hp b with
       | .piter true ks val rem _=>bif rem.isEmpty then I6 env run nt ops false rest 1 [] {fr:=I4 fr o.dst (.tup [.bool false]),hp:=s.hp} k
         else chs rem fun y=>I6 env run nt ops false rest 1 [] {fr:=I4 fr o.dst (.tup [.bool true,.str y,val y]),hp:=Ed s.hp b (.piter true ks val (GV y rem) (some y))} k
       | _=>none
      | _=>none
     | false=>none
    else none
   | _=>I6 env run nt ops false (o::rest) 0 [] s k
def IW(env:Env)(run:DI R)(fn nt n base:Nat):(cur:Nat)->Code->Jn R
 | _,.skip,k,s=>k .normal s
 | _,.region id ops draw,k,s=>U6 (env.frz fn id) s fun s=>aaO env run nt ops draw s fun s'=>k .normal s'
 | cur,.seq a b,k,s=>IW env run fn nt n base cur a (fun e s'=>match e with
  | .normal=>IW env run fn nt n base cur b k s'
  | e=>k e s') s
 | cur,.cond c a b,k,s=>match G3 (A3 s.fr) c with
  | .bool c=>bif c then IW env run fn nt n base cur a k s else IW env run fn nt n base cur b k s
  | _=>.none
 | _,.block id a,k,s=>IW env run fn nt n base id a (fun e s'=>match e with
  | .exit id'=>bif Nat.beq id' id then k .normal s' else k (.exit id') s'
  | e=>k e s') s
 | cur,.loop a,k,s=>JS (norm base (env.live fn cur)) (IW env run fn nt n base cur a) n k (norm base (env.live fn cur) s)
 | _,.exit id,k,s=>k (.exit id) s
 | _,.ret,k,s=>k .ret s
 | _,_,_,_=>.none
section
variable {P:Program} {env:Env} {run:DI R} {r:R} {nt n base fn:Nat}
def Us(nt base:Nat)(k:AX->St->Option R)(r:R)(s:St)(w:World)(I:Nat->Prop)(φ:Phi)(a:Act)(Q:Exit->Act->World->Prop):Prop:=
 ∀ (e:AX) (s':St) (a':Act) (w':World) (φ':Phi) (I':Nat->Prop),k e s'=some r->base<=s'.hp.length->nt<=a'.tmps.size->a'.defers=a.defers->Cc w' I' φ' s' a'->Step base (Ab s.hp) φ I w (Ab s'.hp) φ' I' w'->Q e.x a' w'
theorem Us.after{k:AX->St->Option R}{s s1:St}{w w1:World}{I I1:Nat->Prop}{φ φ1:Phi}{a a1:Act}{Q:Exit->Act->World->Prop}(h:Us nt base k r s w I φ a Q)(hd:a1.defers=a.defers)
  (hs:Step base (Ab s.hp) φ I w (Ab s1.hp) φ1 I1 w1):Us nt base k r s1 w1 I1 φ1 a1 Q:=
 fun e s' a' w' φ' I' h0 hb h1 h2 h3 h4=>h e s' a' w' φ' I' h0 hb h1 (h2.trans hd) h3 (hs.trans h4)
theorem aeU(henv:C2 P env)(hrun:Ew P run)(hm:P.follows .mixedOrders=true){id:Nat}{ops:Array Oper}{draw:Bool}{s:St}{k:St->Option R}(hok:Ak (.region id ops draw)=true)
  (h:aaO env run nt ops draw s k=some r):∀ (w:World) (I:Nat->Prop) (φ:Phi) (a:Act),Cc w I φ s a->nt<=a.tmps.size -> ∀ Q:Exit->Act->World->Prop,
   (∀ s' a' w' φ' I',k s'=some r->s.hp.length<=s'.hp.length->nt<=a'.tmps.size->a'.defers=a.defers->Cc w' I' φ' s' a'->(∀ base,base<=s.hp.length->Step base (Ab s.hp) φ I w (Ab s'.hp) φ' I' w')->Q .normal a' w') ->
    (Code.region id ops draw).wp P Q a w:=by
 have plain:I6 env run nt ops draw ops.toList 0 [] s k=some r -> ∀ (w:World) (I:Nat->Prop) (φ:Phi) (a:Act),Cc w I φ s a->nt<=a.tmps.size -> ∀ Q:Exit->Act->World->Prop,
   (∀ s' a' w' φ' I',k s'=some r->s.hp.length<=s'.hp.length->nt<=a'.tmps.size->a'.defers=a.defers->Cc w' I' φ' s' a'->(∀ base,base<=s.hp.length->Step base (Ab s.hp) φ I w (Ab s'.hp) φ' I' w')->Q .normal a' w') ->
    (Code.region id ops draw).wp P Q a w:=fun h w I φ a hs ha Q hQ=>
  let ⟨s',h1,h2,h3⟩:=Wv henv hrun hm (id:=id) hok h
  h3 w I φ a hs ha Q fun a' w' φ' I' c1 c2 c3 c4=>hQ s' a' w' φ' I' h1 h2 c1 c2 c3 c4
 cases draw with
 | true=>exact plain h
 | false=>
  unfold aaO at h
  simp only at h
  cases hl:ops.toList with
  | nil=>rw[hl]at h;exact plain (by rw[hl];exact h)
  | cons o rest=>
   rw[hl]at h
   simp only at h
   split at h
   ·rename_i x ho
    intro w I φ a hs ha Q hQ
    obtain⟨hd,h⟩:=Aj h
    obtain⟨g,fr',h,hg,hfr⟩:=O0 h
    cases g with
    | false=>cases h
    | true=>
     simp only at h
     split at h
     ·rename_i b hx0
      split at h
      ·rename_i ks val rem cur hb
       have hmut:An (Ab s.hp b)=true:=by rw[hb];rfl
       obtain⟨B,oo,sz,e1,hrb⟩:=hs.hh.blkN (b:=b) (by rw[hb];exact fun h=>h) (by rw[hb];rfl)
       have hrb':=hrb
       rw[hb]at hrb
       obtain⟨rfl,rfl,mm,since,seen,mes,clock,e3,e4,e5,hpm,⟨hsc,hold⟩,hrem,hsub,hcur⟩:=hrb
       have hfr1:FrOk w I φ (A3 fr') a:=by rw[hfr];exact hs.fr
       have hp:=hfr1.eval x
       rw[hx0]at hp
       generalize hux:a.eval x=u at hp
       cases hp with
       | ptr _ B' o' sz' _ _ q hφ hq=>
        rw[e1]at hφ;cases hφ
        simp at hq
        subst hq
        refine wp_region_list ?_
        rw[hl]
        unfold wpList
        rw[if_pos (OZ hs.fr hg)]
        refine .inl ?_
        unfold Oper.wp
        have hex:∀ ww:World,(execOp a.eval o).run P ww=((Instr.next (.pointer (some ⟨B,0,none⟩)) false o.type).run P ww).andThen fun v ww=>.ok (.value v) ww:=by
         intro ww
         simp[execOp,ho,hux]
        rw[hex]
        have memk:∀ y ∈ ks,∃ (i:Nat) (e:MapEntry),ks[i]? = some y/\mes[i]? = some e:=by
         intro y hy
         obtain⟨i,hi,rfl⟩:=List.mem_iff_getElem.1 hy
         have:i<mes.size:=by rw[hpm.1];exact hi
         exact⟨i,mes[i],List.getElem?_eq_getElem hi,Array.getElem?_eq_getElem this⟩
        have fin:∀ {w1:World} {I1:Nat->Prop} {φ1:Phi} {s1:St},Cc w1 I1 φ1 s1 a->True -> ∀ {v:AV} {u:Value} {hp':Heap} {φ2:Phi} {I2:Nat->Prop} {w2:World},
          I6 env run nt ops false rest 1 [] {fr:=I4 fr' o.dst v,hp:=hp'} k=some r->RV w2 I2 φ2 v u->FrOk w2 I2 φ2 (A3 fr') a->RH w2 I2 φ2 (Ab hp')->s.hp.length<=hp'.length ->
          (∀ base,base<=s.hp.length->Step base (Ab s.hp) φ I w (Ab hp') φ2 I2 w2)->wpList P ops Q rest (a.put o.dst u) w2:=by
         intro w1 I1 φ1 s1 _ _ v u hp' φ2 I2 w2 hk hv hf hh hle hst
         obtain⟨s',g1,g2,g3⟩:=Ws henv hrun rest 1 [] _ k hk
         refine g3 w2 I2 φ2 (a.put o.dst u) ⟨hh,hf.put hv (OY hd ha)⟩ (by simpa using ha) Q fun a' w'' φ'' I'' c1 c2 c3 c4=>hQ s' a' w'' φ'' I'' g1 (Nat.le_trans hle g2) c1 (by simpa using c2) c3 fun base hb=>?_
         exact(hst base hb).trans (c4 base (Nat.le_trans hb hle))
        rcases run_next_at (P:=P) w o.type B mm since clock seen mes clock e3 e5 (fun x hx=>by
          obtain⟨i,hi,rfl⟩:=List.mem_iff_getElem.1 hx
          exact hold i _ (by simp at hi;simp[hi])) hsc with ⟨h0,hr⟩ | ⟨e,he,w1,hw1,hr⟩
        ·
         have hrem0:rem=[]:=by
          cases hrm:rem with
          | nil=>rfl
          | cons y l=>
           exfalso
           have hy:y ∈ rem:=by rw[hrm];simp
           obtain⟨i,e,k1,k2⟩:=memk y (hsub y hy)
           have hns:e.born ∉ seen:=fun hc=>(hrem i y e k1 k2).1 hc hy
           have hem:e ∈ mes:=Array.mem_of_getElem? k2
           have:e ∈ leftOf mes seen:=by
            unfold leftOf
            rw[Array.mem_filter]
            exact⟨hem,by simpa using hns⟩
           rw[Array.eq_empty_of_size_eq_zero h0]at this
           simp at this
         rw[hrem0]at h
         simp only[List.isEmpty_nil,cond_true]at h
         rw[hr]
         exact fin hs trivial h (.tup _ _ rfl fun i c u e e'=>(by
          cases i with
          | zero=>simp at e e';subst e;subst e';exact .bool _
          | succ i=>simp at e)) hfr1 hs.hh (Nat.le_refl _) fun base _=>Step.refl _ _ _ _ _
        ·
         unfold leftOf at he
         rw[Array.mem_toList_iff,Array.mem_filter]at he
         obtain⟨hem,hns⟩:=he
         have hns:e.born ∉ seen:=by simpa using hns
         obtain⟨i,hi,rfl⟩:=Array.mem_iff_getElem.1 hem
         have k2:mes[i]? = some mes[i]:=Array.getElem?_eq_getElem hi
         have hik:i<ks.length:=by rw[<- hpm.1];exact hi
         obtain⟨y,hy⟩:∃ y,ks[i]? = some y:=⟨_,List.getElem?_eq_getElem hik⟩
         have hyr:y ∈ rem:=Classical.byContradiction fun hc=>hns ((hrem i y _ hy k2).2 hc)
         have hne:rem.isEmpty=false:=by cases rem with
          | nil=>simp at hyr
          | cons=>rfl
         rw[hne,cond_false]at h
         have h:=aaN h y hyr
         have hw:RH w1 I φ (Ab s.hp)/\(∀ base,Step base (Ab s.hp) φ I w (Ab s.hp) φ I w1)/\w1.heap=w.heap:=by
          rcases hw1 with rfl | rfl
          ·exact⟨hs.hh,fun _=>Step.refl _ _ _ _ _,rfl⟩
          ·exact⟨(hs.hh.drew (base:=0)).1,fun base=>(hs.hh.drew (base:=base)).2,rfl⟩
         obtain⟨hh1,hst1,hheap⟩:=hw
         have e3':w1.heap[B]? = some (.mapIter (some mm) since seen clock):=by rw[hheap];exact e3
         have e5':w1.heap[mm]? = some (.map mes clock):=by rw[hheap];exact e5
         have hrb1:=hh1.at e1 (by rw[hb];rfl)
         rw[hb]at hrb1
         obtain⟨_,_,mm',since',seen',mes',clock',f3,f4,f5,hpm1,_⟩:=hrb1
         rw[e3']at f3;cases f3
         rw[e5']at f5;cases f5
         have hmB:mm ≠ B:=by rintro rfl;rw[e3]at e5;cases e5
         have hIk:∀ B',I B'->I B'/\(World.setBlk w1 B (.mapIter (some mm) since (seen.push mes[i].born) clock)).heap[B']? = w1.heap[B']? := fun B' hB=>⟨hB,Cj fun e=>hs.hh.disj b B 0 0 hmut e1 (e ▸ hB)⟩
         have hcs:∀ B',csize w1 B'<=csize (World.setBlk w1 B (.mapIter (some mm) since (seen.push mes[i].born) clock)) B':=by
          intro B'
          by_cases hbb:B'=B
          ·subst hbb;unfold csize;rw[e3'];exact Nat.zero_le _
          ·unfold csize;rw[Cj hbb];exact Nat.le_refl _
         have hpm2:=hpm1.mono hIk hcs
         have hW:=fun base=>hh1.writeIter e1 hmut e3' (.mapIter (some mm) since (seen.push mes[i].born) clock) (fun _ _ _ h=>by cases h) (.piter true ks val (GV y rem) (some y)) rfl
          ⟨rfl,rfl,mm,since,seen.push mes[i].born,mes,clock,Bv (AE e3'),e4,(Cj hmB).trans e5',hpm2,⟨hsc,hold⟩,fun j z e' a1 a2=>(by
           unfold GV
           rw[Array.mem_push,List.mem_filter,hrem j z e' a1 a2]
           by_cases hz:z=y
           ·subst hz
            have hij:=hpm.2.2.2.2 j i z a1 hy
            subst hij
            rw[k2]at a2;cases a2
            simp[A7]
           ·have hnb:e'.born ≠ mes[i].born:=by
             intro hc
             rcases Nat.lt_trichotomy j i with hlt | heq | hgt
             ·have:=hpm.2.2.2.1 j i _ _ hlt a2 k2;omega
             ·subst heq;rw[hy]at a1;exact hz (Option.some.inj a1).symm
             ·have:=hpm.2.2.2.1 i j _ _ hgt k2 a2;omega
            have hst:Ah z y=false:=by rw[A7];simpa using hz
            simp[hst,hnb]),fun z hz=>hsub z (List.mem_filter.1 hz).1,fun z hz=>⟨i,mes[i],seen,(by cases hz;exact hy),k2,rfl⟩⟩ base
         have hgp:Ab (Ed s.hp b (.piter true ks val (GV y rem) (some y)))=AZ (Ab s.hp) b (.piter true ks val (GV y rem) (some y)):=funext fun b'=>JF _ _ _ _
         rw[hr]
         obtain⟨⟨t,t1,t2⟩,g2⟩:=hpm2.2.1 i y _ hy k2
         have hst:=fun base=>(hst1 base).trans (hW base).2
         refine fin (hp':=Ed s.hp b (.piter true ks val (GV y rem) (some y))) (φ2:=φ) (I2:=I) hs trivial h (.tup _ _ rfl fun i' c u ec eu=>?_) ?_ ?_ (Gt _ _ _) fun base _=>?_
         ·match i',ec,eu with
          | 0,ec,eu=>simp at ec eu;subst ec;subst eu;exact .bool _
          | 1,ec,eu=>simp at ec eu;subst ec;subst eu;rw[t1,t2];exact .str _ _ rfl
          | 2,ec,eu=>simp at ec eu;subst ec;subst eu;exact g2.mono (fun B hB=>⟨hB,rfl⟩) (fun _=>Nat.le_refl _) (Phi.no_le φ)
          | i'+3,ec,eu=>simp at ec
         ·exact hfr1.step hs.hh (hst 0) (Phi.le_refl _)
         ·rw[hgp];exact(hW 0).1
         ·rw[hgp];exact hst base
      ·cases h
     ·cases h
   ·exact plain (by rw[hl];exact h)
theorem ahN(henv:C2 P env)(hrun:Ew P run)(hm:P.follows .mixedOrders=true):∀ (c:Code) (cur:Nat) (k:AX->St->Option R) (s:St) (r:R),Ak c=true ->
  IW env run fn nt n base cur c k s=some r->base<=s.hp.length -> ∀ (w:World) (I:Nat->Prop) (φ:Phi) (a:Act),Cc w I φ s a->nt<=a.tmps.size -> ∀ Q,Us nt base k r s w I φ a Q->c.wp P Q a w:=by
 intro c
 induction c with
 | skip=>
  intro cur k s r _ h hb w I φ a hs ha Q hQ
  exact wp_skip (hQ .normal s a w φ I h hb ha rfl hs (Step.refl _ _ _ _ _))
 | region id ops draw=>
  intro cur k s r hok h hb w I φ a hs ha Q hQ
  unfold IW at h
  obtain⟨s0,g1,g2,g3⟩:=RW _ _ _ h
  obtain⟨I1,φ1,n1,n2⟩:=g3 w I φ a hs
  exact aeU henv hrun hm (id:=id) hok g1 w I1 φ1 a n1 ha Q fun s' a' w' φ' I' c0 c00 c1 c2 c3 c4=>(hQ.after rfl (n2 base hb)) .normal s' a' w' φ' I' c0 (Nat.le_trans hb (Nat.le_trans g2 c00)) c1 c2 c3 (c4 base (Nat.le_trans hb g2))
 | seq x y ihx ihy=>
  intro cur k s r hok h hb w I φ a hs ha Q hQ
  obtain⟨hok1,hok2⟩:=Ad (show(Ak x&&Ak y)=true from hok)
  unfold IW at h
  refine wp_seq (ihx _ _ _ _ hok1 h hb w I φ a hs ha _ fun e s1 a' w' φ' I' h1 b1 c1 c2 c3 c4=>?_)
  cases e with
  | normal=>exact ihy _ _ _ _ hok2 h1 b1 w' I' φ' a' c3 c1 Q (hQ.after c2 c4)
  | exit id=>exact hQ _ s1 a' w' φ' I' h1 b1 c1 c2 c3 c4
  | goto l=>exact hQ _ s1 a' w' φ' I' h1 b1 c1 c2 c3 c4
  | ret=>exact hQ _ s1 a' w' φ' I' h1 b1 c1 c2 c3 c4
 | cond c x y ihx ihy=>
  intro cur k s r hok h hb w I φ a hs ha Q hQ
  obtain⟨hok1,hok2⟩:=Ad (show(Ak x&&Ak y)=true from hok)
  unfold IW at h
  split at h
  ·rename_i b hbb
   have hev:a.eval c=.bool b:=by
    have:=hs.fr.eval c
    rw[hbb]at this
    generalize a.eval c=u at this
    cases this;rfl
   cases b with
   | true=>exact wp_cond hev (ihx _ _ _ _ hok1 h hb w I φ a hs ha Q hQ)
   | false=>exact wp_cond hev (ihy _ _ _ _ hok2 h hb w I φ a hs ha Q hQ)
  ·cases h
 | block id x ih=>
  intro cur k s r hok h hb w I φ a hs ha Q hQ
  unfold IW at h
  refine wp_block (ih _ _ _ _ hok h hb w I φ a hs ha _ fun e s1 a' w' φ' I' h1 b1 c1 c2 c3 c4=>?_)
  cases e with
  | exit id'=>
   simp only at h1
   cases hid:Nat.beq id' id with
   | true=>
    rw[hid,cond_true]at h1
    have hid:=Nat.eq_of_beq_eq_true hid
    subst hid
    simp only[AX.x,Exit.inBlock,if_true]
    exact hQ .normal s1 a' w' φ' I' h1 b1 c1 c2 c3 c4
   | false=>
    rw[hid,cond_false]at h1
    have hne:id' ≠ id:=fun e=>by subst e;simp at hid
    simp only[AX.x,Exit.inBlock,if_neg hne]
    exact hQ (.exit id') s1 a' w' φ' I' h1 b1 c1 c2 c3 c4
  | normal=>exact hQ _ s1 a' w' φ' I' h1 b1 c1 c2 c3 c4
  | goto l=>exact hQ _ s1 a' w' φ' I' h1 b1 c1 c2 c3 c4
  | ret=>exact hQ _ s1 a' w' φ' I' h1 b1 c1 c2 c3 c4
 | loop x ih=>
  intro cur k s r hok h hb w I φ a hs ha Q hQ
  unfold IW at h
  have key:∀ m k s r,JS (norm base (env.live fn cur)) (IW env run fn nt n base cur x) m k s=some r->base<=s.hp.length -> ∀ (w:World) (I:Nat->Prop) (φ:Phi) (a:Act),Cc w I φ s a->nt<=a.tmps.size -> ∀ Q,Us nt base k r s w I φ a Q->Ww P x Q a w:=by
   intro m
   induction m with
   | zero=>intro k s r h;cases h
   | succ m ihm=>
    intro k s r h hb w I φ a hs ha Q hQ
    unfold JS at h
    refine O3 (ih _ _ _ _ hok h hb w I φ a hs ha _ fun e s1 a' w' φ' I' h1 b1 c1 c2 c3 c4=>?_)
    cases e with
    | normal=>
     obtain⟨n1,φ1,n2,n3⟩:=JH base (env.live fn cur) c3 b1
     exact ihm _ _ _ h1 n1 w' I' φ1 a' n2 c1 Q (hQ.after c2 (c4.trans n3))
    | exit id=>exact hQ _ s1 a' w' φ' I' h1 b1 c1 c2 c3 c4
    | goto l=>exact hQ _ s1 a' w' φ' I' h1 b1 c1 c2 c3 c4
    | ret=>exact hQ _ s1 a' w' φ' I' h1 b1 c1 c2 c3 c4
  obtain⟨n1,φ1,n2,n3⟩:=JH base (env.live fn cur) hs hb
  exact S8 (key n k _ r h n1 w I φ1 a n2 ha Q (hQ.after rfl n3))
 | exit id=>
  intro cur k s r _ h hb w I φ a hs ha Q hQ
  exact wp_exit (hQ (.exit id) s a w φ I h hb ha rfl hs (Step.refl _ _ _ _ _))
 | ret=>
  intro cur k s r _ h hb w I φ a hs ha Q hQ
  exact wp_ret (hQ .ret s a w φ I h hb ha rfl hs (Step.refl _ _ _ _ _))
 | label l=>intro cur k s r _ h;simp[IW]at h
 | goto l=>intro cur k s r _ h;simp[IW]at h
 | scope x ih=>intro cur k s r _ h;simp[IW]at h
 | rangeFunc f p a b=>intro cur k s r _ h;simp[IW]at h
 | refuse why=>intro cur k s r _ h;simp[IW]at h
end
theorem mH{φ φ':Phi}{I I':Nat->Prop}{w w':World}{res r:AV}{hp':Heap}{u:Value}(h:Bp res hp'=some r)(h1:RV w' I' φ' res u)(h2:RH w' I' φ' (Ab hp'))(h3:Step 0 (Ab []) φ I w (Ab hp') φ' I' w') :
  ∃ φ2 I2,RV w' I2 φ2 r u/\RH w' I2 φ2 (Ab [])/\Step 0 (Ab []) φ I w (Ab []) φ2 I2 w':=by
 unfold Bp at h
 split at h
 ·rename_i r1 l1 g1 hs1
  obtain⟨hg,h⟩:=Aj h
  subst hg
  cases h
  replace hs1:=Fh.2 hs1
  obtain⟨s1,s2⟩:=(Vd h2 depth).1 _ _ _ hs1
  have hr:=s2 (fun B=>I' B\/F5 φ' l1 B) (fun B hB=>.inl hB) (fun B hB=>.inr hB) u h1
  refine⟨Phi.no,fun B=>I' B\/F5 φ' l1 B,hr,RH.empty w' _ fun B hB=>hB.elim (h2.lt B) (Oh h2 s1),fun b p hb=>absurd hb (Nat.not_lt_zero b),fun B hB=>.inl (h3.Ile B hB),?_,fun B hB=>(D6 hB).elim,h3.ext⟩
  rintro B (hB | ⟨b,hb,o,sz,e⟩)
  ·exact h3.Inew B hB
  ·cases hm:An (Ab hp' b)with
   | true=>exact .inr ((h3.mt B ⟨b,o,sz,hm,e⟩).imp id id)
   | false=>exact h3.Inew B (h2.imm b B o sz (s1 b hb) hm e)
 ·cases h
def ahO(env:Env)(fn:Func)(e:AX)(s:St):Option AV:=match e with
 | .normal | .ret=>Ef env.tt s fn.results.toList fun vs=>Bp (F0 vs) s.hp
 | _=>.none
def alR(env:Env)(f:Nat)(e:AX)(s:St):Option AV:=match env.code f with
 | some fn=>ahO env fn e s
 | .none=>.none
def XS(env:Env)(n f:Nat)(args:List AV):Option AV:=match env.code f with
 | some fn=>match fn.body with
  | some c=>IW env (D2 env n) f fn.ntmps n 0 0 c (ahO env fn) {fr:=Ce 0 args,hp:=[]}
  | .none=>.none
 | .none=>.none
theorem aaP{P:Program}{env:Env}(henv:C2 P env)(hcode:F8 P env)(hm:P.follows .mixedOrders=true){n f:Nat}{args:List AV}{r:AV}
  (h:XS env n f args=some r):Aa P f args [] r []:=by
 unfold XS at h
 cases hf:env.code f with
 | none=>rw[hf]at h;cases h
 | some fn=>
  rw[hf]at h
  simp only at h
  obtain⟨hfn,hbody,hname,hok⟩:=hcode f fn hf
  cases hb:fn.body with
  | none=>rw[hb]at h;cases h
  | some c=>
   rw[hb]at h
   simp only at h
   intro w I φ ra hh hx
   refine .inl ⟨?_,calls_of_wp hfn hb ?_⟩
   ·simp only[callFunc,Sem.run_bind,run_program,Result.andThen_ok,hfn,hname,hbody,Bool.false_eq_true,if_false,Sem.run_pure]
   ·have hst:Cc w I φ {fr:=Ce 0 args,hp:=[]} {tmps:=ra++Array.replicate (fn.ntmps - ra.size) undef,defers:=[]}:=⟨hh,Ta hx _⟩
    refine ahN henv (K5 henv hcode hm n) hm c 0 _ _ _ (hok c hb) h (Nat.le_refl _) w I φ _ hst (by simp;omega) _ fun e s' a' w' φ' I' h1 b1 c1 c2 c3 c4=>?_
    have key:(e=.normal\/e=.ret)/\Ef env.tt s' fn.results.toList (fun vs=>Bp (F0 vs) s'.hp)=some r:=by
     cases e with
     | normal=>exact⟨.inl rfl,h1⟩
     | ret=>exact⟨.inr rfl,h1⟩
     | exit id=>cases h1
     | goto l=>cases h1
    obtain⟨he,h3⟩:=key
    obtain⟨vs,h4,h5⟩:=O6 henv.tt _ _ h3
    obtain⟨us,d1,d2,d3⟩:=h5 w' I' φ' a' c3
    have hres:(results fn a'.tmps).run P w'=.ok (if h:us.toArray.size=1 then us.toArray[0]else .tuple us.toArray) w':=by
     unfold results
     rw[Array.mapM_eq_mapM_toList]
     simp only[map_eq_pure_bind,bind_assoc,pure_bind,Sem.run_bind]
     exact(congrArg (fun(x:Result (List Value))=>x.andThen fun us w=>(pure (if h:us.toArray.size=1 then us.toArray[0]else Value.tuple us.toArray):Sem Value).run P w) d1)
    have hfin:bodyPost P fn (fun e w'=>∃ u,e=.returned u /\ ∃ φ' I',RV w' I' φ' r u/\RH w' I' φ' (Ab [])/\Step ([]:Heap).length (Ab []) φ I w (Ab []) φ' I' w') .normal a' w':=by
     refine⟨c2,_,hres,_,rfl,?_⟩
     refine mH h4 ?_ c3.hh c4
     have htup:us.length ≠ 1->RV w' I' φ' (.tup vs) (if h:us.toArray.size=1 then us.toArray[0]else .tuple us.toArray):=by
      intro hne
      rw[dif_neg (by simpa using hne)]
      exact .tup _ _ (by simpa using d2) fun i x u e e'=>d3 i x u e (by simpa using e')
     cases vs with
     | nil=>exact htup (by simp at d2;omega)
     | cons v l=>
      cases l with
      | nil=>
       cases us with
       | nil=>simp at d2
       | cons u us=>
        cases us with
        | nil=>exact d3 0 v u rfl rfl
        | cons u' us=>simp at d2
      | cons v' l=>exact htup (by simp at d2;omega)
    rcases he with rfl | rfl
    ·exact hfin
    ·exact hfin
section
variable (env:Env) (run:DI R) (fn nt n base:Nat)
def PB:Nat->Code->List PE->(AX->St->Option R)->AX->St->Option R
 | _,_,[],k=>k
 | cur,.seq a b,.L::p,k=>PB cur a p fun e s'=>match e with
  | .normal=>IW env run fn nt n base cur b k s'
  | e=>k e s'
 | cur,.seq _ b,.R::p,k=>PB cur b p k
 | cur,.cond _ a _,.L::p,k=>PB cur a p k
 | cur,.cond _ _ b,.R::p,k=>PB cur b p k
 | _,.block id a,_::p,k=>PB id a p fun e s'=>match e with
  | .exit id'=>bif Nat.beq id' id then k .normal s' else k (.exit id') s'
  | e=>k e s'
 | cur,.loop a,.lp m::p,k=>PB cur a p fun e s'=>match e with
  | .normal=>JS (norm base (env.live fn cur)) (IW env run fn nt n base cur a) m k (norm base (env.live fn cur) s')
  | e=>k e s'
 | _,_,_::_,k=>k
end
def alS(env:Env)(n f:Nat)(p:List PE)(m:Nat)(s:St):Option AV:=
 match sub (CM env f) p with
 | .loop a=>JS (norm 0 (env.live f (IH 0 (CM env f) p))) (IW env (D2 env n) f (Ig env f) n 0 (IH 0 (CM env f) p) a) m
   (PB env (D2 env n) f (Ig env f) n 0 0 (CM env f) p (alR env f)) s
 | _=>.none
def LU(env:Env)(n f b:Nat)(fs:List Nat)(m:Nat)(s:St):Option AV:=
 match Mg b (CM env f) 0 fs with
 | some p=>alS env n f p m s
 | .none=>.none
end Go.AM
end
noncomputable section
open Go Go.AM Go.Md
namespace Go.Hd
open Go.Wk
set_option maxRecDepth 100000
set_option maxHeartbeats 400000
def Lu(l:List Known):Env:=BU [(Bj,0,[1,2,3,4,9,21,22,23,1001]),(Bj,2,[3,4,12,13,45,1013999]),(Bj,4,[4,16,71,72,73,11016999])] [(Bj,0),(Eb,1),(GN,5),(AY,5),(EJ,0)] [] l
def Iv:List Known:=[Fz,XR,Px,ac0]
theorem aka(N:Nat)(t:Tail)(upto:Ver)(done:List Itm)(most:Int):XS (Lu Iv) N Bj [AV.agg (AJ t),eV upto,Al done,AV.int IntKind.i64 most] =
 LU (Lu Iv) (N) (Bj) 0 [] (N) ({fr:=[(1,AV.cplx FloatKind.f64 upto.re upto.im),(2,AV.tr 4 done.length fun i=>Af (done.getD i default)),(3,AV.int IntKind.i64 most),(4,AV.ptr 0 0 0),(9,AV.mp 1),(21,Ae t.log),(22,AV.int IntKind.i64 (↑t.log.length:Int)),(23,AV.int IntKind.i64 0),(1001,AV.undef)],hp:=[BS.arr true 3 [AJ t],BS.pmap true [] fun x=>AV.int IntKind.i64 0]}):=by kernel_rfl
structure BaA where
 t:Tail
 upto:Ver
 done:List Itm
 most:Int
def SB0(p:BaA)(M:MC)(i:Int):St:={fr:=[(1,eV p.upto),(2,Al p.done),(3,.int .i64 p.most),(4,.ptr 0 0 0),(9,.mp 1),(21,Ae p.t.log),(22,.int .i64 p.t.log.length),(23,.int .i64 i),(1001,.undef)],hp:=[.arr true 3 [AJ p.t],.pmap true M.1 fun k=>.int .i64 (M.2 k)]}
theorem ac1(N:Nat)(m:Nat)(p:BaA)(M:MC)(i:Int):LU (Lu Iv) N Bj 0 [] (m+1) (SB0 p M i) =
 bif decide (i<(↑p.t.log.length:Int))then
  bif decide (0<=i)&&decide (i<(↑p.t.log.length:Int))then
   bif(p.t.log.getD i.toNat default).write then
    gC (DA) (V2) (Dz) ([AV.cplx FloatKind.f64 p.upto.re p.upto.im,AV.cplx FloatKind.f64 (p.t.log.getD i.toNat default).ver.re (p.t.log.getD i.toNat default).ver.im]) fun y0=>
    bif !AH y0.fst y0.snd then
     LU (Lu Iv) (N) (Bj) 0 ([]) (m) ({fr:=[(1,AV.cplx FloatKind.f64 p.upto.re p.upto.im),(2,AV.tr 4 p.done.length fun i=>Af (p.done.getD i default)),(3,AV.int IntKind.i64 p.most),(4,AV.ptr 0 0 0),(9,AV.mp 1),(21,Ae p.t.log),(22,AV.int IntKind.i64 (↑p.t.log.length:Int)),(23,AV.int IntKind.i64 (IntKind.i64.wrap (i+1))),(1001,AV.undef)],hp:=[BS.arr true 3 [AJ p.t],BS.pmap true (bif BH (p.t.log.getD i.toNat default).key M.fst then M.fst else M.fst++[(p.t.log.getD i.toNat default).key]) fun x=>bif Ah x (p.t.log.getD i.toNat default).key then AV.int IntKind.i64 i else AV.int IntKind.i64 (M.snd x)]})
    else
     LU (Lu Iv) (N) (Bj) 0 ([]) (m) (SB0 p M (IntKind.i64.wrap (i+1)))
   else
    LU (Lu Iv) (N) (Bj) 0 ([]) (m) (SB0 p M (IntKind.i64.wrap (i+1)))
  else none
 else
  gC (fun a=>AN Bd (a.getD 0 AV.nils)) (fun l=>l.length<=100000) (fun l=>[Al l]) ([AV.tr 4 p.done.length fun i=>Af (p.done.getD i default)]) fun y1=>
  LU (Lu Iv) (N) (Bj) 2 ([]) (N) ({fr:=[(3,AV.int IntKind.i64 p.most),(4,AV.ptr 0 0 0),(12,AV.mp 1),(13,AV.sn 1 2 0),(45,AV.ptr 3 0 0),(1013999,AV.undef)],hp:=[BS.arr true 3 [AJ p.t],BS.pmap true (Cb y1).fst fun k=>AV.cplx FloatKind.f64 ((Cb y1).snd k).re ((Cb y1).snd k).im,BS.seq true 1 0 fun x=>[],BS.piter true M.fst (fun k=>AV.int IntKind.i64 (M.snd k)) M.fst none]}):=by kernel_rfl
def SB2(p:BaA)(E:MV)(M:MC)(n:Nat)(F:Nat->List AV)(rem:List Txt)(cur:Option Txt):St:={fr:=[(3,.int .i64 p.most),(4,.ptr 0 0 0),(12,.mp 1),(13,.sn 1 2 n),(45,.ptr 3 0 0),(1013999,.undef)],hp:=[.arr true 3 [AJ p.t],.pmap true E.1 fun k=>eV (E.2 k),.seq true 1 n F,.piter true M.1 (fun k=>.int .i64 (M.2 k)) rem cur]}
theorem ac2(N:Nat)(m:Nat)(p:BaA)(E:MV)(M:MC)(n:Nat)(F:Nat->List AV)(rem:List Txt)(cur:Option Txt):LU (Lu Iv) N Bj 2 [] (m+1) (SB2 p E M n F rem cur) =
 bif rem.isEmpty then
  BF (Ki) (JM) (eLV) ([AV.sn 1 0 n,AV.fn (Fn.func CB) [] [AV.ptr 1 0 0]]) ([BS.seq true 1 n F,BS.arr true 3 [AJ p.t]]) fun y2=>
  bif decide (0<=bif decide ((bif decide (p.most<0)then 0 else p.most)<(↑n:Int))then bif decide (p.most<0)then 0 else p.most else(↑n:Int))&&decide ((bif decide ((bif decide (p.most<0)then 0 else p.most)<(↑n:Int))then bif decide (p.most<0)then 0 else p.most else(↑n:Int))<=(↑n:Int))then
   LU (Lu Iv) (N) (Bj) 4 ([]) (N) ({fr:=[(4,AV.ptr 0 0 0),(16,AV.sn 11 1 0),(71,AV.sn 1 2 (bif decide ((bif decide (p.most<0)then 0 else p.most)<(↑n:Int))then bif decide (p.most<0)then 0 else p.most else(↑n:Int)).toNat),(72,AV.int IntKind.i64 (↑(bif decide ((bif decide (p.most<0)then 0 else p.most)<(↑n:Int))then bif decide (p.most<0)then 0 else p.most else(↑n:Int)).toNat:Int)),(73,AV.int IntKind.i64 0),(11016999,AV.undef)],hp:=[BS.arr true 3 [AJ y2.snd],BS.seq true 11 0 fun x=>[],BS.seq true 1 (Kg (IU y2.snd) y2.fst).length fun i=>[AV.int IntKind.i64 ((Kg (IU y2.snd) y2.fst).getD i 0)]]})
  else none
 else
  chs (rem) fun y3=>
  bif decide (0<=M.snd y3)&&decide (M.snd y3<(↑p.t.log.length:Int))then
   BF (dEM) (sZ) (QU) ([AV.agg (Ai (p.t.log.getD (M.snd y3).toNat default)),AV.mp 0]) ([BS.pmap true E.fst fun k=>AV.cplx FloatKind.f64 (E.snd k).re (E.snd k).im]) fun y4=>
   bif !EE y4.fst y4.snd then
    bif n.ble n then
     bif((n+1)*8).ble 140737488355328&&(n+1).ble 140737488355328 then
      LU (Lu Iv) (N) (Bj) 2 ([]) (m) ({fr:=[(3,AV.int IntKind.i64 p.most),(4,AV.ptr 0 0 0),(12,AV.mp 1),(13,AV.sn 1 2 (n+1)),(45,AV.ptr 3 0 0),(1013999,AV.undef)],hp:=[BS.arr true 3 [AJ p.t],BS.pmap true y4.snd.fst fun k=>AV.cplx FloatKind.f64 (y4.snd.snd k).re (y4.snd.snd k).im,BS.seq true 1 (n+1) (Be n F (View.list [[AV.int IntKind.i64 (M.snd y3)]])),BS.piter true M.fst (fun k=>AV.int IntKind.i64 (M.snd k)) (List.filter (fun x=>!Ah x y3) rem) (some y3)]})
     else none
    else none
   else
    LU (Lu Iv) (N) (Bj) 2 ([]) (m) ({fr:=[(3,AV.int IntKind.i64 p.most),(4,AV.ptr 0 0 0),(12,AV.mp 1),(13,AV.sn 1 2 n),(45,AV.ptr 3 0 0),(1013999,AV.undef)],hp:=[BS.arr true 3 [AJ p.t],BS.pmap true y4.snd.fst fun k=>AV.cplx FloatKind.f64 (y4.snd.snd k).re (y4.snd.snd k).im,BS.seq true 1 n F,BS.piter true M.fst (fun k=>AV.int IntKind.i64 (M.snd k)) (List.filter (fun x=>!Ah x y3) rem) (some y3)]})
  else none:=by kernel_rfl
def SB4(t:Tail)(L:List Int)(k n:Nat)(G:Nat->List AV)(i:Int):St:={fr:=[(4,.ptr 0 0 0),(16,.sn 11 1 n),(71,.sn 1 2 k),(72,.int .i64 k),(73,.int .i64 i),(11016999,.undef)],hp:=[.arr true 3 [AJ t],.seq true 11 n G,Bc 1 eI 0 L]}
theorem ac3(N:Nat)(m:Nat)(t:Tail)(L:List Int)(k:Nat)(n:Nat)(G:Nat->List AV)(i:Int):LU (Lu Iv) N Bj 4 [] (m+1) (SB4 t L k n G i) =
 bif decide (i<(↑k:Int))then
  bif decide (0<=i)&&decide (i<(↑k:Int))then
   bif i.toNat.blt L.length then
    bif decide (0<=L.getD i.toNat 0)&&decide (L.getD i.toNat 0<(↑t.log.length:Int))then
     bif n.ble n then
      bif((n+1)*112).ble 140737488355328&&(n+1).ble 140737488355328 then
       LU (Lu Iv) (N) (Bj) 4 ([]) (m) ({fr:=[(4,AV.ptr 0 0 0),(16,AV.sn 11 1 (n+1)),(71,AV.sn 1 2 k),(72,AV.int IntKind.i64 (↑k:Int)),(73,AV.int IntKind.i64 (IntKind.i64.wrap (i+1))),(11016999,AV.undef)],hp:=[BS.arr true 3 [AJ t],BS.seq true 11 (n+1) (Be n G (View.list [Ai (t.log.getD (L.getD i.toNat 0).toNat default)])),BS.seq true 1 L.length fun i=>[AV.int IntKind.i64 (L.getD i 0)]]})
      else none
     else none
    else none
   else none
  else none
 else
  bif n.ble n then
   some (AV.tr 11 n G)
  else none:=by kernel_rfl
def Lg(upto:Ver)(M:MC)(i:Nat)(e:Entry):MC:=bif e.write && !AH upto e.ver then(Gy M.1 e.key,Dx M.2 e.key (i:Int))else M
def Iw(upto:Ver):List Entry->Nat->MC->MC
 | [],_,M=>M
 | e::r,i,M=>Iw upto r (i+1) (Lg upto M i e)
def Ut(p:BaA):MC:=Iw p.upto p.t.log 0 ([],fun _=>0)
def Gh(t:Tail)(E:MV)(M:MC)(ks:List Txt):List Int:=(ks.map M.2).filter fun i=>!EE (t.log.getD i.toNat default) E
def Kj(most:Int)(n:Nat):Int:=bif decide ((bif decide (most<0)then 0 else most)<(n:Int))then bif decide (most<0)then 0 else most else(n:Int)
def QY(t:Tail)(most:Int)(l:List Int):List Entry:=((Kg (IU t) l).take (Kj most l.length).toNat).map fun i=>t.log.getD i.toNat default
def E7(p:BaA):List Entry:=QY p.t p.most (Gh p.t (Cb p.done) (Ut p) (Ut p).1)
theorem aaQ(most:Int)(n:Nat):0<=Kj most n/\Kj most n<=n:=by
 unfold Kj
 by_cases h1:most<0
 ·rw[decide_eq_true h1,cond_true]
  by_cases h2:(0:Int)<n
  ·rw[decide_eq_true h2,cond_true];omega
  ·rw[decide_eq_false h2,cond_false];omega
 ·rw[decide_eq_false h1,cond_false]
  by_cases h2:most<n
  ·rw[decide_eq_true h2,cond_true];omega
  ·rw[decide_eq_false h2,cond_false];omega
theorem Sh(t:Tail)(a b:Int):IU t a b=true ↔ ep (t.log.getD a.toNat default).ver<ep (t.log.getD b.toNat default).ver\/(ep (t.log.getD a.toNat default).ver=ep (t.log.getD b.toNat default).ver /\
  (nu (t.log.getD a.toNat default).ver<nu (t.log.getD b.toNat default).ver\/(nu (t.log.getD a.toNat default).ver=nu (t.log.getD b.toNat default).ver/\a<b))):=by
 unfold IU QX
 cases h1:AH (t.log.getD a.toNat default).ver (t.log.getD b.toNat default).ver with
 | true=>
  rw[Mw]at h1
  simp only[cond_true]
  constructor
  ·intro _;omega
  ·intro _;rfl
 | false=>
  have h1':¬ _:=fun h=>by rw[Mw.2 h]at h1;cases h1
  cases h2:AH (t.log.getD b.toNat default).ver (t.log.getD a.toNat default).ver with
  | true=>
   rw[Mw]at h2
   simp only[cond_true,cond_false]
   constructor
   ·intro h;simp at h
   ·intro h;omega
  | false=>
   have h2':¬ _:=fun h=>by rw[Mw.2 h]at h2;cases h2
   simp only[cond_false]
   rw[MT,decide_eq_true_iff]
   constructor
   ·intro h;omega
   ·intro h;omega
theorem ahP(t:Tail):∀ a b c,IU t a b=true->IU t b c=true->IU t a c=true:=by
 intro a b c h1 h2
 rw[Sh]at h1 h2 ⊢
 omega
theorem ahQ(t:Tail)(a:Int):IU t a a=false:=by
 cases h:IU t a a with
 | false=>rfl
 | true=>rw[Sh]at h;omega
theorem aeV(t:Tail){a b:Int}(h:a ≠ b):IU t a b=true\/IU t b a=true:=by
 rw[Sh,Sh];omega
theorem Xa{t:Tail}{most:Int}{l l':List Int}(h:l.Perm l')(hn:l.Nodup):QY t most l=QY t most l':=by
 unfold QY
 rw[aaJ (ahP t) (ahQ t) h (hn.imp fun {a b} hab=>aeV t hab),h.length_eq]
def iA(log:List Entry)(M:MC):Prop:=M.1.Nodup /\ ∀ k ∈ M.1,0<=M.2 k/\M.2 k<log.length/\(log.getD (M.2 k).toNat default).key=k
theorem mI{ks:List Txt}{s:Txt}(h:ks.Nodup):(Gy ks s).Nodup:=by
 unfold Gy
 cases hm:BH s ks with
 | true=>exact h
 | false=>
  rw[cond_false]
  have:s ∉ ks:=fun hc=>by rw[(Dy s ks).2 hc]at hm;cases hm
  rw[List.nodup_append]
  exact⟨h,by simp,fun a ha b hb=>by simp at hb;subst hb;exact fun hc=>this (hc ▸ ha)⟩
theorem ZS{log:List Entry}{upto:Ver}{M:MC}{i:Nat}(h:iA log M)(hi:i<log.length):iA log (Lg upto M i (log.getD i default)):=by
 unfold Lg
 cases (log.getD i default).write && !AH upto (log.getD i default).ver with
 | false=>exact h
 | true=>
  rw[cond_true]
  refine⟨mI h.1,fun k hk=>?_⟩
  show 0<=Dx M.2 _ _ k/\Dx M.2 _ _ k<_/\(log.getD (Dx M.2 _ _ k).toNat default).key=k
  unfold Dx
  cases hb:Ah k (log.getD i default).key with
  | true=>
   rw[A7]at hb
   have hb:k=(log.getD i default).key:=by simpa using hb
   rw[cond_true,Int.toNat_natCast]
   exact⟨by omega,by omega,hb.symm⟩
  | false=>
   rw[cond_false]
   rcases MU.1 hk with e | e
   ·rw[e,Ji]at hb;cases hb
   ·exact h.2 k e
theorem ZT(ks:List Txt)(s:Txt):(Gy ks s).length<=ks.length+1:=by
 unfold Gy
 cases BH s ks <;> simp
theorem Xb{log:List Entry}{upto:Ver}:∀ (r:List Entry) (i:Nat) (M:MC),iA log M->M.1.length<=i->log.drop i=r->iA log (Iw upto r i M)/\(Iw upto r i M).1.length<=i+r.length
 | [],i,M,h,hl,_=>⟨h,by simpa [Iw] using hl⟩
 | e::r,i,M,h,hl,hr=>by
  have hi:i<log.length:=by
   rcases Nat.lt_or_ge i log.length with h | h
   ·exact h
   ·rw[List.drop_eq_nil_of_le h]at hr;cases hr
  rw[drop_cons (z:=(default:Entry)) hi]at hr
  obtain⟨he,hr⟩:=List.cons.inj hr
  have:=Xb (upto:=upto) r (i+1) (Lg upto M i e) (by rw[<- he];exact ZS h hi) (by
   unfold Lg
   cases e.write && !AH upto e.ver
   ·exact Nat.le_succ_of_le hl
   ·exact Nat.le_trans (ZT _ _) (by omega)) hr
  refine⟨this.1,?_⟩
  have:=this.2
  rw[List.length_cons]
  unfold Iw
  omega
theorem akb{lv:List (Nat × Nat × List Nat)}{md:List (Nat × Nat)}{fz:List (Nat × Nat × List Nat)}{l:List Known}(h:∀ k ∈ l,k.Ok PG){n f:Nat}{args:List AV}{r:AV}
  (e:XS (BU lv md fz l) n f args=some r):Aa PG f args [] r []:=aaP (Fo h) Dm mixed e
theorem Aq{a b:Nat}(h:a<=b):Nat.ble a b=true:=Nat.ble_eq_true_of_le h
def gx{X:Type}(e:X->List AV)(z:X)(l:List X):Nat->List AV:=fun j=>bif Nat.blt j l.length then e (l.getD j z)else []
theorem tL{X:Type}(e:X->List AV)(z:X)(l:List X)(x:X):Be l.length (gx e z l) (View.list [e x])=gx e z (l++[x]):=by
 funext j
 unfold gx
 rw[List.length_append,List.length_singleton]
 by_cases h:j<l.length
 ·rw[JW h,AB h,AB (show j<l.length+1 by omega),cond_true,cond_true]
  simp only[List.getD]
  rw[List.getElem?_append_left h]
 ·by_cases h2:j=l.length
  ·subst h2
   rw[JX (Nat.le_refl _) (show l.length<l.length+1 by omega),AB (show l.length<l.length+1 by omega),cond_true]
   simp only[List.getD]
   rw[List.getElem?_append_right (Nat.le_refl _),Nat.sub_self];rfl
  ·rw[CI (show l.length+1<=j by omega),cond_false]
   have e1:Be l.length (fun j=>bif Nat.blt j l.length then e (l.getD j z)else []) (View.list [e x]) j=(fun j=>bif Nat.blt j l.length then e (l.getD j z)else []) l.length:=by
    unfold Be
    rw[CI (show l.length<=j by omega),cond_false,show Nat.blt j (l.length+(View.list [e x]).len)=false from CI (show l.length+1<=j by omega)];rfl
   rw[e1]
   dsimp only
   rw[CI (Nat.le_refl _)];rfl
theorem mJ{X:Type}{e:X->List AV}{z:X}{l:List X}{i:Nat}(h:i<l.length):gx e z l i=e (l.getD i z):=by unfold gx;rw[AB h];rfl
theorem aeW{X:Type}{sz:Nat}{e:X->List AV}{d:List AV->X}{z:X}(h:∀ x,d (e x)=x)(l:List X):Iu d (.seq true sz l.length (gx e z l))=l:=by
 show(List.range l.length).map (fun i=>d (gx e z l i))=l
 refine List.ext_getElem (by simp) fun i g1 g2=>?_
 simp[mJ g2,h,List.getD,List.getElem?_eq_getElem g2]
def fE(t:Tail)(i:Int):Entry:=t.log.getD i.toNat default
def aE(out:List Entry):AV:=.tr 11 out.length (gx Ai default out)
theorem aaR{t:Tail}{L:List Int}{k:Nat}(N:Nat)(hk:k<=L.length)(hk2:k<=100000)(hP:ZP t L):∀ (d i m:Nat) (out:List Entry),out=(L.take i).map (fE t)->i+d=k->d<m ->
  LU (Lu Iv) N Bj 4 [] m (SB4 t L k out.length (gx Ai default out) (i:Nat))=some (aE ((L.take k).map (fE t))):=by
 intro d
 induction d with
 | zero=>
  intro i m out ho hi hm
  obtain⟨m,rfl⟩:∃ k,m=k+1:=⟨m - 1,by omega⟩
  have hik:i=k:=by omega
  subst hik
  rw[ac3,decide_eq_false (by omega),cond_false,Aq (Nat.le_refl _),cond_true,ho]
  rfl
 | succ d ih=>
  intro i m out ho hi hm
  obtain⟨m,rfl⟩:∃ k,m=k+1:=⟨m - 1,by omega⟩
  have hil:i<L.length:=by omega
  have hol:out.length=i:=by rw[ho];simp;omega
  have hp:=hP _ (getD_mem (z:=(0:Int)) hil)
  have e:=ih (i+1) m (out++[fE t (L.getD i 0)]) (by rw[ho,List.take_add_one,List.map_append,List.getD,List.getElem?_eq_getElem hil];rfl) (by omega) (by omega)
  rw[List.length_append,<- tL Ai default out (fE t (L.getD i 0))]at e
  rw[ac3,decide_eq_true (show((i:Nat):Int)<(k:Int) by omega),decide_eq_true (show(0:Int)<=(i:Int) by omega),Int.toNat_natCast,AB hil,decide_eq_true hp.1,decide_eq_true hp.2,Aq (Nat.le_refl _),
   Aq (show(out.length+1)*112<=140737488355328 by omega),Aq (show out.length+1<=140737488355328 by omega),Bz (by omega)]
  exact e
theorem aaS{rem:List Txt}(hn:rem.Nodup){y:Txt}(hy:y ∈ rem):rem.Perm (y::GV y rem):=by
 have h:=List.perm_cons_erase hy
 rw[hn.erase_eq_filter]at h
 have:GV y rem=rem.filter (· != y):=by
  unfold GV
  congr 1
  funext x
  rw[A7];rfl
 rw[this];exact h
theorem mK{t:Tail}{E:MV}{M:MC}{a b:List Txt}(h:a.Perm b):(Gh t E M a).Perm (Gh t E M b):=(h.map _).filter _
theorem QZ{p:BaA}{E:MV}{M:MC}(N:Nat)(hN:100000<=N)(hlog:VT p.t)(hE:∀ k ∈ E.1,Au (E.2 k))(hM:iA p.t.log M):∀ (c m:Nat) (rem:List Txt) (l:List Int) (cur:Option Txt),rem.length=c->c<m->rem.Nodup->(∀ y ∈ rem,y ∈ M.1) ->
  (l++rem.map M.2).Nodup->ZP p.t l->l.length+c<=12 ->
  LU (Lu Iv) N Bj 2 [] m (SB2 p E M l.length (gx eI 0 l) rem cur)=some (aE (QY p.t p.most (l++Gh p.t E M rem))):=by
 intro c
 induction c with
 | zero=>
  intro m rem l cur hc hm hn hs hnd hP hl
  obtain⟨m,rfl⟩:∃ k,m=k+1:=⟨m - 1,by omega⟩
  have:rem=[]:=List.length_eq_zero_iff.1 hc
  subst this
  have hq:∀ {K:LT->Option AV},BF Ki JM eLV (eLV (l,p.t)).1 (.seq true 1 l.length (gx eI 0 l)::hS p.t) K=K (l,p.t):=fun {K}=>BT (l,p.t) (Prod.ext (aeW (sz:=1) (e:=eI) (z:=0) (d:=fun c=>Ar c 0) (fun _=>rfl) l) (D9 p.t)) ⟨by simpa using hl,hlog,hP⟩ (.refl _) (.cons (aeA (Nat.le_refl _) fun i hi=>mJ hi) (.refl _))
  have hcl:=aaQ p.most l.length
  refine(ac2 N m p E M l.length (gx eI 0 l) [] cur).trans ?_
  rw[List.isEmpty_nil,cond_true]
  refine hq.trans ?_
  have hL:(Kg (IU p.t) l).length=l.length:=(IQ _ l).length_eq
  show(bif decide (0<=Kj p.most l.length)&&decide (Kj p.most l.length<=(l.length:Int))then LU (Lu Iv) N Bj 4 [] N (SB4 p.t (Kg (IU p.t) l) (Kj p.most l.length).toNat 0 (fun _=>[]) ((0:Nat):Int))else none)=_
  rw[decide_eq_true hcl.1,decide_eq_true hcl.2,Bool.and_true,cond_true]
  have e:=aaR (t:=p.t) (L:=Kg (IU p.t) l) (k:=(Kj p.most l.length).toNat) N (by rw[hL];omega) (by omega) (fun a ha=>hP a ((IQ _ l).mem_iff.1 ha)) (Kj p.most l.length).toNat 0 N [] rfl (by omega) (by omega)
  rw[show l++Gh p.t E M []=l from List.append_nil l]
  refine Eq.trans ?_ e
  rfl
 | succ c ih=>
  intro m rem l cur hc hm hn hs hnd hP hl
  obtain⟨m,rfl⟩:∃ k,m=k+1:=⟨m - 1,by omega⟩
  have hne:rem ≠ []:=fun h=>by rw[h]at hc;cases hc
  have hie:rem.isEmpty=false:=by cases rem with
   | nil=>exact absurd rfl hne
   | cons=>rfl
  refine(ac2 N m p E M l.length (gx eI 0 l) rem cur).trans ?_
  rw[hie,cond_false]
  refine ahM hne fun y hy=>?_
  have hyM:=hM.2 y (hs y hy)
  have hper:=aaS hn hy
  have hlen:(GV y rem).length=c:=by have:=hper.length_eq;rw[hc,List.length_cons]at this;omega
  have hpp:(Gh p.t E M rem).Perm (Gh p.t E M (y::GV y rem)):=mK hper
  have hnd2:(l++Gh p.t E M rem).Nodup:=hnd.sublist ((List.Sublist.refl l).append List.filter_sublist)
  have hnd3:(l++M.2 y::(GV y rem).map M.2).Nodup:=(((hper.map M.2).append_left l).nodup_iff).1 hnd
  have hdn:(GV y rem).Nodup:=hn.sublist List.filter_sublist
  have hds:∀ z ∈ GV y rem,z ∈ M.1:=fun z hz=>hs z (List.mem_filter.1 hz).1
  rw[decide_eq_true hyM.1,decide_eq_true hyM.2.1,Bool.and_true,cond_true]
  have hv:=hlog.2 _ (getD_mem (z:=(default:Entry)) (show(M.2 y).toNat<p.t.log.length by omega))
  refine(SQ (p:=(p.t.log.getD (M.2 y).toNat default,E)) ⟨hv,hE⟩).trans ?_
  dsimp only
  cases hst:EE (p.t.log.getD (M.2 y).toNat default) E with
  | true=>
   have e:=ih m (GV y rem) l (some y) hlen (by omega) hdn hds (hnd3.sublist ((List.Sublist.refl l).append (List.sublist_cons_self _ _))) hP (by omega)
   refine e.trans (congrArg (fun x=>some (aE x)) (Xa ?_ ?_))
   ·refine List.Perm.append_left l (List.Perm.symm ?_)
    refine hpp.trans ?_
    have:Gh p.t E M (y::GV y rem)=Gh p.t E M (GV y rem):=by
     unfold Gh
     rw[List.map_cons,List.filter_cons,hst];rfl
    rw[this]
   ·exact(hnd3.sublist ((List.Sublist.refl l).append (List.sublist_cons_self _ _))).sublist ((List.Sublist.refl l).append List.filter_sublist)
  | false=>
   have hPl:ZP p.t (l++[M.2 y]):=fun a ha=>by
    rcases List.mem_append.1 ha with ha | ha
    ·exact hP a ha
    ·rw[List.mem_singleton.1 ha];exact⟨hyM.1,hyM.2.1⟩
   have e:=ih m (GV y rem) (l++[M.2 y]) (some y) hlen (by omega) hdn hds (by rw[List.append_assoc];exact hnd3) hPl (by rw[List.length_append,List.length_singleton];omega)
   rw[List.length_append,<- tL eI 0 l (M.2 y)]at e
   rw[Aq (Nat.le_refl _),Aq (show(l.length+1)*8<=140737488355328 by omega),Aq (show l.length+1<=140737488355328 by omega)]
   refine Eq.trans e (congrArg (fun x=>some (aE x)) (Xa ?_ ?_))
   ·rw[List.append_assoc]
    refine List.Perm.append_left l (List.Perm.symm (hpp.trans ?_))
    have:Gh p.t E M (y::GV y rem)=M.2 y::Gh p.t E M (GV y rem):=by
     unfold Gh
     rw[List.map_cons,List.filter_cons,hst];rfl
    rw[this];exact .refl _
   ·rw[List.append_assoc]
    exact hnd3.sublist ((List.Sublist.refl l).append (List.Sublist.cons_cons _ List.filter_sublist))
def Xc(p:BaA):Prop:=p.t.log.length<=12/\p.done.length<=100000/\Au p.upto/\(∀ e ∈ p.t.log,Au e.ver) /\ ∀ x ∈ p.done,Au x.ver
def Vw(p:BaA):List AV:=[.agg (AJ p.t),eV p.upto,Al p.done,.int .i64 p.most]
theorem aaT{p:BaA}(h:Xc p):∀ (d i m:Nat) (M:MC),i+d=p.t.log.length->d<m->iA p.t.log M->M.1.length<=i ->
  LU (Lu Iv) 200000 Bj 0 [] m (SB0 p M (i:Nat))=some (aE (QY p.t p.most (Gh p.t (Cb p.done) (Iw p.upto (p.t.log.drop i) i M) (Iw p.upto (p.t.log.drop i) i M).1))):=by
 obtain⟨h1,h2,h3,h4,h5⟩:=h
 intro d
 induction d with
 | zero=>
  intro i m M hi hm hM hl
  obtain⟨m,rfl⟩:∃ k,m=k+1:=⟨m - 1,by omega⟩
  rw[ac1,decide_eq_false (by omega),cond_false,List.drop_eq_nil_of_le (by omega)]
  refine(Aw p.done (E1 p.done) h2 (.refl _)).trans ?_
  have e:=QZ (p:=p) (E:=Cb p.done) (M:=M) 200000 (by omega) ⟨by omega,h4⟩ (ZL h5) hM M.1.length 200000 M.1 [] none rfl (by omega) hM.1 (fun y hy=>hy) (by
   rw[List.nil_append,List.Nodup,List.pairwise_map]
   refine hM.1.imp_of_mem fun {a b} ha hb hab hc=>hab ?_
   rw[<- (hM.2 a ha).2.2,<- (hM.2 b hb).2.2,hc]) (fun a ha=>by simp at ha) (by simp;omega)
  exact e
 | succ d ih=>
  intro i m M hi hm hM hl
  obtain⟨m,rfl⟩:∃ k,m=k+1:=⟨m - 1,by omega⟩
  have hil:i<p.t.log.length:=by omega
  have hv:=h4 _ (getD_mem (z:=(default:Entry)) hil)
  have e:=ih (i+1) m (Lg p.upto M i (p.t.log.getD i default)) (by omega) (by omega) (ZS hM hil) (by
   unfold Lg
   cases (p.t.log.getD i default).write && !AH p.upto (p.t.log.getD i default).ver
   ·exact Nat.le_succ_of_le hl
   ·exact Nat.le_trans (ZT _ _) (by omega))
  have hw:IntKind.i64.wrap ((i:Int)+1)=((i+1:Nat):Int):=Bz (by omega)
  rw[drop_cons (z:=(default:Entry)) hil]
  unfold Iw
  refine Eq.trans ?_ e
  rw[ac1,decide_eq_true (show((i:Nat):Int)<(p.t.log.length:Int) by omega),decide_eq_true (show(0:Int)<=(i:Int) by omega),Int.toNat_natCast,Jj h3 hv,hw]
  unfold Lg
  dsimp only [Bool.and_true,cond_true]
  cases hwr:(p.t.log.getD i default).write with
  | false=>rfl
  | true=>
   cases hvl:AH p.upto (p.t.log.getD i default).ver with
   | true=>rfl
   | false=>
    dsimp only [Bool.and_true,Bool.not_false,cond_true]
    have key:BS.pmap true (bif BH (p.t.log.getD i default).key M.1 then M.1 else M.1++[(p.t.log.getD i default).key]) (fun x=>bif Ah x (p.t.log.getD i default).key then AV.int IntKind.i64 i else AV.int IntKind.i64 (M.2 x))=.pmap true (Gy M.1 (p.t.log.getD i default).key) fun k=>.int .i64 (Dx M.2 (p.t.log.getD i default).key (i:Int) k):=by
     rw[Tg (fun n=>AV.int IntKind.i64 n)];rfl
    rw[key];rfl
theorem tM(p:BaA)(h:Xc p):Aa PG Bj (Vw p) [] (Ae (E7 p)) []:=by
 have hc:Aa PG Bj (Vw p) [] (aE (E7 p)) []:=by
  refine akb (ak DW (ak ZJ (ak SP (ak aaL AL)))) (n:=200000) ((aka 200000 p.t p.upto p.done p.most).trans ?_)
  exact aaT h p.t.log.length 0 200000 ([],fun _=>0) (by omega) (by have:=h.1;omega) ⟨by simp,fun k hk=>by simp at hk⟩ (by simp)
 exact hc.res (.trs fun i hi=>by rw[mJ hi];exact .refl _)
def dBa(a:List AV):BaA:=⟨El (AA a 0),⟨(BE a 1).1,(BE a 1).2⟩,AN Bd (a.getD 2 .nils),Ar a 3⟩
theorem ahR(p:BaA):dBa (Vw p)=p:=by
 show(⟨El (AJ p.t),⟨p.upto.re,p.upto.im⟩,AN Bd (Al p.done),p.most⟩:BaA)=p
 rw[D9,E1]
def tN:Known:=.spec Bj dBa Xc Vw fun p=>Ae (E7 p)
theorem tO:tN.Ok PG:=Known.spec_ok tM
def ePs(l:List Known):Env:=BU [] [(AK,0),(GM,1),(Hq,0),(HC,0),(Bj,0)] [] l
theorem akc(p:Pump)(r:Rep)(upto:Ver)(most:Int):Am (ePs [kCp,tN,FH AK 11]) 9 Hq [AV.agg (Bg p),AV.agg (Ag r),eV upto,AV.int IntKind.i64 most] =
 gC (fun a=>De (AA a 0)) (Nz) (fun p=>[AV.agg (Bg p)]) ([AV.agg (Bg p)]) fun y0=>
 bif decide (0<(↑p.out.length:Int))then
  bif y0.done.length.ble y0.done.length&&true&&true then
   some (AV.tup [AV.agg (Bg y0),AV.bool false])
  else none
 else
  gC (dBa) (Xc) (Vw) ([AV.agg (AJ r.tail),AV.cplx FloatKind.f64 upto.re upto.im,Al p.done,AV.int IntKind.i64 most]) fun y1=>
  bif decide ((↑(E7 y1).length:Int)=0)then
   bif y0.done.length.ble y0.done.length&&true&&true then
    some (AV.tup [AV.agg (Bg y0),AV.bool false])
   else none
  else
   gC (Ep) (Es) (Er 11) ([Ae (E7 y1)]) fun y2=>
   bif y0.done.length.ble y0.done.length&&true&&true then
    some (AV.tup [AV.agg [AV.int IntKind.i64 (IntKind.i64.wrap (y0.num+1)),AV.tr 11 y2.fst y2.snd,Al y0.done],AV.bool true])
   else none:=by kernel_rfl
theorem akd(p:Pump)(r:Rep):Am (ePs [FH AK 11]) 9 HC [AV.agg (Bg p),AV.agg (Ag r)] =
 bif decide ((↑p.out.length:Int)=0)then
  some (AV.nils)
 else
  gC (Ep) (Es) (Er 11) ([Ae p.out]) fun y3=>
  some (AV.trl 31 [[AV.int IntKind.i64 15,AV.int IntKind.i64 r.self.node,AV.int IntKind.i64 0,AV.int IntKind.i64 0,AV.int IntKind.i64 r.self.boot,AV.int IntKind.i64 r.shard,AV.int IntKind.i64 r.view.epoch,AV.int IntKind.i64 0,AV.int IntKind.i64 0,AV.int IntKind.i64 p.num,AV.int IntKind.i64 0,AV.int IntKind.i64 0,AV.bool false,AV.bool false,AV.str [],AV.str [],AV.cplx FloatKind.f64 0 0,AV.cplx FloatKind.f64 r.tail.floor.re r.tail.floor.im,AV.int IntKind.i64 0,AV.str [],AV.str [],AV.str [],AV.bool false,AV.tr 11 y3.fst y3.snd,AV.nils,AV.nils,AV.cplx FloatKind.f64 0 0,AV.cplx FloatKind.f64 0 0,AV.int IntKind.i64 0,AV.nils,AV.nils]]):=by kernel_rfl
structure StA where
 p:Pump
 r:Rep
 upto:Ver
 most:Int
def StA.ba(x:StA):BaA:=⟨x.r.tail,x.upto,x.p.done,x.most⟩
def Cn(x:StA):Pump × Bool:=bif x.p.out.isEmpty then(bif(E7 x.ba).isEmpty then(x.p,false)else(⟨IntKind.i64.wrap (x.p.num+1),E7 x.ba,x.p.done⟩,true))else(x.p,false)
def iB(x:StA):Prop:=Nz x.p/\Xc x.ba
def tP(x:StA):List AV:=[.agg (Bg x.p),.agg (Ag x.r),eV x.upto,.int .i64 x.most]
def oSt(y:Pump × Bool):AV:=.tup [.agg (Bg y.1),.bool y.2]
theorem Xd{p:BaA}(h:Xc p):(E7 p).length<=12:=by
 have hl:=(Xb (log:=p.t.log) (upto:=p.upto) p.t.log 0 ([],fun _=>0) ⟨by simp,fun k hk=>by simp at hk⟩ (by simp) rfl).2
 have h1:=h.1
 unfold E7 QY Gh
 rw[List.length_map,List.length_take,(IQ _ _).length_eq]
 refine Nat.le_trans (Nat.min_le_right _ _) (Nat.le_trans (List.length_filter_le _ _) ?_)
 rw[List.length_map]
 exact Nat.le_trans hl (by omega)
theorem ac4{X:Type}(l:List X):decide ((l.length:Int)=0)=l.isEmpty:=by cases l with
 | nil=>rfl
 | cons a r=>exact decide_eq_false (by simp;omega)
theorem ake{X:Type}(l:List X):decide (0<(l.length:Int))=!l.isEmpty:=by cases l with
 | nil=>rfl
 | cons a r=>exact decide_eq_true (by simp)
theorem tQ(x:StA)(h:iB x):Aa PG Hq (tP x) [] (oSt (Cn x)) []:=by
 refine BQ (ak ZM (ak tO (ak (Dn Gf) AL))) ((akc x.p x.r x.upto x.most).trans ?_)
 have hb:∀ {K:BaA->Option AV},gC dBa Xc Vw [.agg (AJ x.r.tail),.cplx .f64 x.upto.re x.upto.im,Al x.p.done,.int .i64 x.most] K=K x.ba:=fun {K}=>Aw x.ba (ahR x.ba) h.2 (.refl _)
 rw[qCp h.1,hb,ake,ac4,Aq (Nat.le_refl _)]
 have hq:∀ {K:Nat × (Nat->List AV)->Option AV},gC Ep Es (Er 11) [Ae (E7 x.ba)] K=K ((E7 x.ba).length,fun i=>Ai ((E7 x.ba).getD i default)):=fun {K}=>WT (sz:=11) (Nat.le_trans (Xd h.2) (by omega))
 rw[hq]
 unfold Cn
 cases x.p.out.isEmpty with
 | false=>rfl
 | true=>cases (E7 x.ba).isEmpty <;> rfl
def dSt(a:List AV):StA:=⟨De (AA a 0),Cy (AA a 1),⟨(BE a 2).1,(BE a 2).2⟩,Ar a 3⟩
theorem ahS(x:StA):dSt (tP x)=x:=by
 show(⟨De (Bg x.p),Cy (Ag x.r),⟨x.upto.re,x.upto.im⟩,x.most⟩:StA)=x
 rw[HK,B8]
def tR:Known:=.spec Hq dSt iB tP fun x=>oSt (Cn x)
theorem tS:tR.Ok PG:=Known.spec_ok tQ
def Uu(p:Pump)(r:Rep):Msg:={(default:Msg)with kind:=15,src:=r.self.node,sboot:=r.self.boot,shard:=r.shard,epoch:=r.view.epoch,num:=p.num,floor:=r.tail.floor,entries:=p.out}
def A8(q:Pump × Rep):List Msg:=bif q.1.out.isEmpty then []else [Uu q.1 q.2]
def ZU(q:Pump × Rep):List AV:=[.agg (Bg q.1),.agg (Ag q.2)]
theorem aaU(q:Pump × Rep)(h:q.1.out.length<=100000):Aa PG HC (ZU q) [] (AG (A8 q)) []:=by
 have e:=akd q.1 q.2
 have hq:∀ {K:Nat × (Nat->List AV)->Option AV},gC Ep Es (Er 11) [Ae q.1.out] K=K (q.1.out.length,fun i=>Ai (q.1.out.getD i default)):=fun {K}=>WT (sz:=11) h
 rw[ac4,hq]at e
 unfold A8
 cases ho:q.1.out.isEmpty with
 | true=>
  rw[ho]at e
  exact(BQ (ak (Dn Gf) AL) e).res Df
 | false=>
  rw[ho]at e
  exact(BQ (ak (Dn Gf) AL) e).res (AR.trans (fB (X:=Unit) (f:=fun _=>_) (g:=fun _=>Ac (Uu q.1 q.2)) (fun _=>Ei (by repeat' (first | exact trivial | exact Df | exact AR.refl _ | refine⟨?_,?_⟩))) [()]) (AR.trl_of [Uu q.1 q.2] rfl))
def mL:Known:=.spec HC (fun a=>(De (AA a 0),Cy (AA a 1))) (fun q=>q.1.out.length<=100000) ZU fun q=>AG (A8 q)
theorem ZV:mL.Ok PG:=Known.spec_ok aaU
theorem N0{n:Nat}(f:Nat->List AV)(h:n<=100000):Aa PG BW [.tr 2 n f] [] (.sn 2 0 n) [.seq true 2 n f]:=Hc (b:=16) (by omega) (by kernel_rfl) (by kernel_rfl) (fun n f=>by kernel_rfl) f h
theorem tU{n:Nat}(f:Nat->List AV)(h:n<=100000):Aa PG DD [.tr 1 n f] [] (.sn 1 0 n) [.seq true 1 n f]:=Hc (b:=1) (by omega) (by kernel_rfl) (by kernel_rfl) (fun n f=>by kernel_rfl) f h
theorem Xe{n:Nat}(f:Nat->List AV)(h:n<=100000):Aa PG Ck [.tr 7 n f] [] (.sn 7 0 n) [.seq true 7 n f]:=Hc (b:=72) (by omega) (by kernel_rfl) (by kernel_rfl) (fun n f=>by kernel_rfl) f h
def Kk(l:List Known):Env:=BU [(DG,0,[0,7,8]),(Cf,0,[0,7,8,9])] [(AK,0),(BW,0),(Ck,0),(DD,0),(FR,5),(Gw,5),(DG,0),(Cf,0),(J7,0),(J5,0)] [] l
def Si:List Known:=[Nx FR 5,FH BW 2]
theorem akf(N:Nat)(l:List Md.View):Am (Kk Si) (N+1) DG [CY l] =
 gC (Ep) (Es) (Er 5) ([CY l]) fun y0=>
 LP (Kk Si) (N) 0 (DG) Bp 0 [] (N) ({fr:=[(0,AV.sn 5 0 y0.fst),(7,AV.int IntKind.i64 (↑y0.fst:Int)),(8,AV.int IntKind.i64 0)],hp:=[BS.seq true 5 y0.fst y0.snd]}):=by kernel_rfl
def SVw(n:Nat)(F:Nat->List AV)(i:Int):St:={fr:=[(0,.sn 5 0 n),(7,.int .i64 n),(8,.int .i64 i)],hp:=[.seq true 5 n F]}
theorem ac5(N:Nat)(m:Nat)(l:List Md.View)(i:Int):LP (Kk Si) N 0 DG Bp 0 [] (m+1) (SVw l.length (fun i=>JJ (l.getD i default)) i) =
 bif decide (i<(↑l.length:Int))then
  bif decide (0<=i)&&decide (i<(↑l.length:Int))then
   bif i.toNat.blt l.length then
    gC (Ep) (Es) (Er 2) ([Ay (l.getD i.toNat default).chain]) fun y1=>
    bif decide (0<=i)&&decide (i<(↑l.length:Int))then
     bif i.toNat.blt l.length&&true then
      LP (Kk Si) (N) (0) (DG) (Bp) 0 ([]) (m) ({fr:=[(0,AV.sn 5 0 l.length),(7,AV.int IntKind.i64 (↑l.length:Int)),(8,AV.int IntKind.i64 (IntKind.i64.wrap (i+1)))],hp:=[BS.seq true 5 l.length fun i'=>bif i'.beq i.toNat then [AV.int IntKind.i64 (l.getD i.toNat default).shard,AV.int IntKind.i64 (l.getD i.toNat default).epoch,AV.int IntKind.i64 (l.getD i.toNat default).gen,AV.int IntKind.i64 (l.getD i.toNat default).phase,AV.tr 2 y1.fst y1.snd]else JJ (l.getD i' default)]})
     else none
    else none
   else none
  else none
 else
  bif l.length.ble l.length then
   some (CY l)
  else none:=by kernel_rfl
theorem akg(r:Rep):Am (Kk [FH BW 2,FH AK 11,FH Ck 7,FH DD 1]) 9 J5 [AV.agg (Ag r)] =
 gC (Ep) (Es) (Er 2) ([Ay r.view.chain]) fun y2=>
 gC (Ep) (Es) (Er 11) ([Ae r.tail.log]) fun y3=>
 gC (Ep) (Es) (Er 7) ([Ax r.seen]) fun y4=>
 gC (Ep) (Es) (Er 1) ([Ch r.synced]) fun y5=>
 some (AV.agg [AV.int IntKind.i64 r.shard,AV.int IntKind.i64 r.self.node,AV.int IntKind.i64 r.self.boot,AV.int IntKind.i64 r.view.shard,AV.int IntKind.i64 r.view.epoch,AV.int IntKind.i64 r.view.gen,AV.int IntKind.i64 r.view.phase,AV.tr 2 y2.fst y2.snd,AV.int IntKind.i64 r.frozen,AV.cplx FloatKind.f64 r.tail.floor.re r.tail.floor.im,AV.cplx FloatKind.f64 r.tail.last.re r.tail.last.im,AV.tr 11 y3.fst y3.snd,AV.tr 7 y4.fst y4.snd,AV.cplx FloatKind.f64 r.got.re r.got.im,AV.tr 1 y5.fst y5.snd]):=by kernel_rfl
theorem XT{l:List Known}(h:∀ k ∈ l,k.Ok PG){n f:Nat}{xs:List AV}{r:AV}(e:Am (Kk l) n f xs=some r):Aa PG f xs [] r []:=BQ h e
theorem FT{R:Type}{X:Type}{sz:Nat}{e:X->List AV}{z:X}{l:List X}{k:Nat × (Nat->List AV)->Option R}(h:l.length<=100000):gC Ep Es (Er sz) [C5 sz e z l] k=k (l.length,fun i=>e (l.getD i z)):=WT (sz:=sz) h
def Vx(l:List Md.View):Prop:=l.length<=100000 /\ ∀ v ∈ l,v.chain.length<=100000
theorem set_same{X:Type}(e:X->List AV)(z:X)(l:List X)(i:Nat):(fun i'=>bif Nat.beq i' i then e (l.getD i z)else e (l.getD i' z))=fun i'=>e (l.getD i' z):=by
 funext k
 cases h:Nat.beq k i with
 | true=>rw[Nat.eq_of_beq_eq_true h];rfl
 | false=>rfl
theorem tV(l:List Md.View)(h:Vx l):Aa PG DG [CY l] [] (CY l) []:=by
 obtain⟨N,hN⟩:∃ N,N=200000:=⟨_,rfl⟩
 have run:∀ d i m,i+d=l.length->d<m->LP (Kk Si) N 0 DG Bp 0 [] m (SVw l.length (fun i=>JJ (l.getD i default)) (i:Nat))=some (CY l):=by
  intro d
  induction d with
  | zero=>
   intro i m hi hm
   obtain⟨m,rfl⟩:∃ k,m=k+1:=⟨m - 1,by omega⟩
   rw[ac5,decide_eq_false (by omega),cond_false,Aq (Nat.le_refl _)];rfl
  | succ d ih=>
   intro i m hi hm
   obtain⟨m,rfl⟩:∃ k,m=k+1:=⟨m - 1,by omega⟩
   have hil:i<l.length:=by omega
   have hc:=h.2 _ (getD_mem (z:=(default:Md.View)) hil)
   have e:=ih (i+1) m (by omega) (by omega)
   have h1:=h.1
   have hw:IntKind.i64.wrap ((i:Int)+1)=((i+1:Nat):Int):=Bz (by omega)
   have hs:=set_same JJ default l i
   have hq:∀ {K:Nat × (Nat->List AV)->Option AV},gC Ep Es (Er 2) [Ay (l.getD i default).chain] K=K ((l.getD i default).chain.length,fun j=>A6 ((l.getD i default).chain.getD j default)):=fun {K}=>FT hc
   rw[ac5,decide_eq_true (show((i:Nat):Int)<(l.length:Int) by omega),decide_eq_true (show(0:Int)<=(i:Int) by omega),Int.toNat_natCast,AB hil,hq,hw]
   refine Eq.trans ?_ e
   show LP (Kk Si) N 0 DG Bp 0 [] m (SVw l.length (fun i'=>bif Nat.beq i' i then JJ (l.getD i default)else JJ (l.getD i' default)) ((i+1:Nat):Int))=_
   rw[hs]
 refine XT (n:=N+1) (ak (It rV) (ak (Dn N0) AL)) ((akf N l).trans ?_)
 refine(FT h.1).trans ?_
 exact run l.length 0 N (by omega) (by have:=h.1;omega)
def tW:Known:=.spec DG (fun a=>AN KM (a.getD 0 .nils)) Vx (fun l=>[CY l]) fun l=>CY l
theorem tX:tW.Ok PG:=Known.spec_ok tV
theorem ahT{R:Type}{l:List Md.View}{k:List Md.View->Option R}(h:Vx l):gC (fun a=>AN KM (a.getD 0 .nils)) Vx (fun l=>[CY l]) [CY l] k=k l:=Aw l (YD l) h (.refl _)
def PC(r:Rep):Prop:=r.view.chain.length<=100000/\r.tail.log.length<=100000/\r.seen.length<=100000/\r.synced.length<=100000
theorem aeX(r:Rep)(h:PC r):Aa PG J5 [.agg (Ag r)] [] (.agg (Ag r)) []:=by
 obtain⟨h1,h2,h3,h4⟩:=h
 refine XT (ak (Dn N0) (ak (Dn Gf) (ak (Dn Xe) (ak (Dn tU) AL)))) ((akg r).trans ?_)
 refine(FT h1).trans ((FT h2).trans ((FT h3).trans ((FT h4).trans ?_)))
 rfl
def ac6:Known:=.spec J5 (fun a=>Cy (AA a 0)) PC (fun r=>[.agg (Ag r)]) fun r=>.agg (Ag r)
theorem ZW:ac6.Ok PG:=Known.spec_ok aeX
theorem ac7{R:Type}{r:Rep}{k:Rep->Option R}(h:PC r):gC (fun a=>Cy (AA a 0)) PC (fun r=>[.agg (Ag r)]) [.agg (Ag r)] k=k r:=Aw r (B8 r) h (.refl _)
def akh:List Known:=[FH BW 2,FH AK 11,FH Ck 7,tW]
theorem aki(m:Msg):Am (Kk akh) 9 J7 [AV.agg (Ac m)] =
 gC (Ep) (Es) (Er 11) ([Ae m.entries]) fun y6=>
 gC (Ep) (Es) (Er 2) ([Ay m.chain]) fun y7=>
 gC (fun a=>AN KM (a.getD 0 AV.nils)) (Vx) (fun l=>[CY l]) ([CY m.views]) fun y8=>
 gC (Ep) (Es) (Er 11) ([Ae m.image.log]) fun y9=>
 gC (Ep) (Es) (Er 7) ([Ax m.image.seen]) fun y10=>
 some (AV.agg [AV.int IntKind.i64 m.kind,AV.int IntKind.i64 m.src,AV.int IntKind.i64 m.dst,AV.int IntKind.i64 m.boot,AV.int IntKind.i64 m.sboot,AV.int IntKind.i64 m.shard,AV.int IntKind.i64 m.epoch,AV.int IntKind.i64 m.gen,AV.int IntKind.i64 m.sess,AV.int IntKind.i64 m.num,AV.int IntKind.i64 m.a,AV.int IntKind.i64 m.code,AV.bool m.has,AV.bool m.fresh,AV.str m.key,AV.str m.val,AV.cplx FloatKind.f64 m.ver.re m.ver.im,AV.cplx FloatKind.f64 m.floor.re m.floor.im,AV.int IntKind.i64 m.op.kind,AV.str m.op.key,AV.str m.op.val,AV.str m.op.old,AV.bool m.op.hasOld,AV.tr 11 y6.fst y6.snd,AV.tr 2 y7.fst y7.snd,CY y8,AV.cplx FloatKind.f64 m.image.floor.re m.image.floor.im,AV.cplx FloatKind.f64 m.image.last.re m.image.last.im,AV.int IntKind.i64 m.image.gen,AV.tr 11 y9.fst y9.snd,AV.tr 7 y10.fst y10.snd]):=by kernel_rfl
def I7(m:Msg):Prop:=m.entries.length<=100000/\m.chain.length<=100000/\Vx m.views/\m.image.log.length<=100000/\m.image.seen.length<=100000
theorem aeY(m:Msg)(h:I7 m):Aa PG J7 [.agg (Ac m)] [] (.agg (Ac m)) []:=by
 obtain⟨h1,h2,h3,h4,h5⟩:=h
 refine XT (ak (Dn N0) (ak (Dn Gf) (ak (Dn Xe) (ak tX AL)))) ((aki m).trans ?_)
 refine(FT h1).trans ((FT h2).trans ((ahT h3).trans ((FT h4).trans ((FT h5).trans ?_))))
 rfl
def mM:Known:=.spec J7 (fun a=>BI (AA a 0)) I7 (fun m=>[.agg (Ac m)]) fun m=>.agg (Ac m)
theorem Ti:mM.Ok PG:=Known.spec_ok aeY
theorem XU{R:Type}{m:Msg}{k:Msg->Option R}(h:I7 m):gC (fun a=>BI (AA a 0)) I7 (fun m=>[.agg (Ac m)]) [.agg (Ac m)] k=k m:=Aw m (C8 m) h (.refl _)
def N1:List Known:=[Nx Gw 31,mM]
theorem akj(N:Nat)(l:List Msg):Am (Kk N1) (N+1) Cf [AG l] =
 gC (Ep) (Es) (Er 31) ([AG l]) fun y0=>
 LP (Kk N1) (N) 0 (Cf) Bp 0 [] (N) ({fr:=[(0,AV.sn 31 0 y0.fst),(7,AV.sn 31 0 y0.fst),(8,AV.int IntKind.i64 (↑y0.fst:Int)),(9,AV.int IntKind.i64 0)],hp:=[BS.seq true 31 y0.fst y0.snd]}):=by kernel_rfl
def iC(n:Nat)(F:Nat->List AV)(i:Int):St:={fr:=[(0,.sn 31 0 n),(7,.sn 31 0 n),(8,.int .i64 n),(9,.int .i64 i)],hp:=[.seq true 31 n F]}
theorem ac8(N:Nat)(m:Nat)(l:List Msg)(i:Int):LP (Kk N1) N 0 Cf Bp 0 [] (m+1) (iC l.length (fun i=>Ac (l.getD i default)) i) =
 bif decide (i<(↑l.length:Int))then
  bif decide (0<=i)&&decide (i<(↑l.length:Int))then
   bif i.toNat.blt l.length then
    gC (fun a=>BI (AA a 0)) (I7) (fun m=>[AV.agg (Ac m)]) ([AV.agg (Ac (l.getD i.toNat default))]) fun y1=>
    bif decide (0<=i)&&decide (i<(↑l.length:Int))then
     bif i.toNat.blt l.length&&true then
      LP (Kk N1) (N) (0) (Cf) (Bp) 0 ([]) (m) ({fr:=[(0,AV.sn 31 0 l.length),(7,AV.sn 31 0 l.length),(8,AV.int IntKind.i64 (↑l.length:Int)),(9,AV.int IntKind.i64 (IntKind.i64.wrap (i+1)))],hp:=[BS.seq true 31 l.length fun i'=>bif i'.beq i.toNat then Ac y1 else Ac (l.getD i' default)]})
     else none
    else none
   else none
  else none
 else
  bif l.length.ble l.length then
   some (AG l)
  else none:=by kernel_rfl
def Kl(l:List Msg):Prop:=l.length<=100000 /\ ∀ m ∈ l,I7 m
theorem aaV(l:List Msg)(h:Kl l):Aa PG Cf [AG l] [] (AG l) []:=by
 obtain⟨N,hN⟩:∃ N,N=200000:=⟨_,rfl⟩
 have run:∀ d i m,i+d=l.length->d<m->LP (Kk N1) N 0 Cf Bp 0 [] m (iC l.length (fun i=>Ac (l.getD i default)) (i:Nat))=some (AG l):=by
  intro d
  induction d with
  | zero=>
   intro i m hi hm
   obtain⟨m,rfl⟩:∃ k,m=k+1:=⟨m - 1,by omega⟩
   rw[ac8,decide_eq_false (by omega),cond_false,Aq (Nat.le_refl _)];rfl
  | succ d ih=>
   intro i m hi hm
   obtain⟨m,rfl⟩:∃ k,m=k+1:=⟨m - 1,by omega⟩
   have hil:i<l.length:=by omega
   have hc:=h.2 _ (getD_mem (z:=(default:Msg)) hil)
   have e:=ih (i+1) m (by omega) (by omega)
   have h1:=h.1
   have hw:IntKind.i64.wrap ((i:Int)+1)=((i+1:Nat):Int):=Bz (by omega)
   have hs:=set_same Ac default l i
   rw[ac8,decide_eq_true (show((i:Nat):Int)<(l.length:Int) by omega),decide_eq_true (show(0:Int)<=(i:Int) by omega),Int.toNat_natCast,AB hil,XU hc,hw,hs]
   exact e
 refine XT (n:=N+1) (ak (It Zo) (ak Ti AL)) ((akj N l).trans ?_)
 refine(FT h.1).trans ?_
 exact run l.length 0 N (by omega) (by have:=h.1;omega)
def ac9:Known:=.spec Cf (fun a=>AN BI (a.getD 0 .nils)) Kl (fun l=>[AG l]) fun l=>AG l
theorem ZX:ac9.Ok PG:=Known.spec_ok aaV
theorem ada{R:Type}{l:List Msg}{k:List Msg->Option R}(h:Kl l):gC (fun a=>AN BI (a.getD 0 .nils)) Kl (fun l=>[AG l]) [AG l] k=k l:=Aw l (R1 l) h (.refl _)
def OB(l:List Known):Env:=BU [(BV,0,[1,2,34,35]),(SG,0,[1,2,10,11,12])] [(AK,0),(Br,0),(FQ,5),(Gv,5),(Na,5),(Cf,0),(J5,0),(BV,0),(SG,0)] [] l
def Km:List Known:=[ac6,FH AK 11,FH Br 4,Nx FQ 4,Nx Gv 3,ac9]
theorem akk(N:Nat)(d:Desk):BA 0 (OB Km) (N+1) BV [AV.agg (AP d)] [] =
 gC (fun a=>Cy (AA a 0)) (PC) (fun r=>[AV.agg (Ag r)]) ([AV.agg (Ag d.rep)]) fun y0=>
 gC (Ep) (Es) (Er 11) ([Ae d.pump.out]) fun y1=>
 gC (Ep) (Es) (Er 4) ([Al d.pump.done]) fun y2=>
 gC (Ep) (Es) (Er 4) ([Al d.clean]) fun y3=>
 gC (Ep) (Es) (Er 4) ([DN d.waits]) fun y4=>
 gC (Ep) (Es) (Er 3) ([CF d.asks]) fun y5=>
 LP (OB Km) (N) (0) (BV) (Cr (0) (0)) 0 [] (N) ({fr:=[(1,AV.ptr 0 0 0),(2,AV.ptr 3 0 0),(34,AV.int IntKind.i64 (↑y5.fst:Int)),(35,AV.int IntKind.i64 0)],hp:=[BS.arr true 23 [[AV.int IntKind.i64 y0.shard,AV.int IntKind.i64 y0.self.node,AV.int IntKind.i64 y0.self.boot,AV.int IntKind.i64 y0.view.shard,AV.int IntKind.i64 y0.view.epoch,AV.int IntKind.i64 y0.view.gen,AV.int IntKind.i64 y0.view.phase,Ay y0.view.chain,AV.int IntKind.i64 y0.frozen,AV.cplx FloatKind.f64 y0.tail.floor.re y0.tail.floor.im,AV.cplx FloatKind.f64 y0.tail.last.re y0.tail.last.im,Ae y0.tail.log,Ax y0.seen,AV.cplx FloatKind.f64 y0.got.re y0.got.im,Ch y0.synced,AV.int IntKind.i64 d.pump.num,AV.tr 11 y1.fst y1.snd,AV.tr 4 y2.fst y2.snd,AV.tr 4 y3.fst y3.snd,AV.bool d.busy,AV.sn 4 1 y4.fst,AV.sn 3 2 y5.fst,AV.int IntKind.i64 d.next]],BS.seq true 4 y4.fst y4.snd,BS.seq true 3 y5.fst y5.snd,BS.arr true 23 [[AV.int IntKind.i64 0,AV.int IntKind.i64 0,AV.int IntKind.i64 0,AV.int IntKind.i64 0,AV.int IntKind.i64 0,AV.int IntKind.i64 0,AV.int IntKind.i64 0,AV.nils,AV.int IntKind.i64 0,AV.cplx FloatKind.f64 0 0,AV.cplx FloatKind.f64 0 0,AV.nils,AV.nils,AV.cplx FloatKind.f64 0 0,AV.nils,AV.int IntKind.i64 0,AV.nils,AV.nils,AV.nils,AV.bool false,AV.nils,AV.nils,AV.int IntKind.i64 0]]]}):=by kernel_rfl
def ZY:List AV:=[.int .i64 0,.int .i64 0,.int .i64 0,.int .i64 0,.int .i64 0,.int .i64 0,.int .i64 0,.nils,.int .i64 0,.cplx .f64 0 0,.cplx .f64 0 0,.nils,.nils,.cplx .f64 0 0,.nils,.int .i64 0,.nils,.nils,.nils,.bool false,.nils,.nils,.int .i64 0]
def Ej(a:Nat)(d:Md.Desk):List AV:=[.int .i64 d.rep.shard,.int .i64 d.rep.self.node,.int .i64 d.rep.self.boot,.int .i64 d.rep.view.shard,.int .i64 d.rep.view.epoch,.int .i64 d.rep.view.gen,.int .i64 d.rep.view.phase,Ay d.rep.view.chain,.int .i64 d.rep.frozen,.cplx .f64 d.rep.tail.floor.re d.rep.tail.floor.im,.cplx .f64 d.rep.tail.last.re d.rep.tail.last.im,Ae d.rep.tail.log,Ax d.rep.seen,.cplx .f64 d.rep.got.re d.rep.got.im,Ch d.rep.synced,.int .i64 d.pump.num,Ae d.pump.out,Al d.pump.done,Al d.clean,.bool d.busy,.sn 4 a d.waits.length,.sn 3 (a+1) d.asks.length,.int .i64 d.next]
def Uv(d:Md.Desk)(i:Int):St:={fr:=[(1,.ptr 0 0 0),(2,.ptr 3 0 0),(34,.int .i64 d.asks.length),(35,.int .i64 i)],hp:=[.arr true 23 [Ej 1 d],Bc 4 Ba default d.waits,Bc 3 B4 default d.asks,.arr true 23 [ZY]]}
theorem adb(N:Nat)(m:Nat)(d:Desk)(i:Int):LP (OB Km) N 0 BV (Cr 0 0) 0 [] (m+1) (Uv d i) =
 bif decide (i<(↑d.asks.length:Int))then
  bif decide (0<=i)&&decide (i<(↑d.asks.length:Int))then
   bif i.toNat.blt d.asks.length then
    gC (fun a=>AN BI (a.getD 0 AV.nils)) (Kl) (fun l=>[AG l]) ([AG (d.asks.getD i.toNat default).calls]) fun y6=>
    bif decide (0<=i)&&decide (i<(↑d.asks.length:Int))then
     bif i.toNat.blt d.asks.length&&true then
      LP (OB Km) (N) (0) (BV) (Cr 0 0) 0 ([]) (m) ({fr:=[(1,AV.ptr 0 0 0),(2,AV.ptr 3 0 0),(34,AV.int IntKind.i64 (↑d.asks.length:Int)),(35,AV.int IntKind.i64 (IntKind.i64.wrap (i+1)))],hp:=[BS.arr true 23 [[AV.int IntKind.i64 d.rep.shard,AV.int IntKind.i64 d.rep.self.node,AV.int IntKind.i64 d.rep.self.boot,AV.int IntKind.i64 d.rep.view.shard,AV.int IntKind.i64 d.rep.view.epoch,AV.int IntKind.i64 d.rep.view.gen,AV.int IntKind.i64 d.rep.view.phase,Ay d.rep.view.chain,AV.int IntKind.i64 d.rep.frozen,AV.cplx FloatKind.f64 d.rep.tail.floor.re d.rep.tail.floor.im,AV.cplx FloatKind.f64 d.rep.tail.last.re d.rep.tail.last.im,Ae d.rep.tail.log,Ax d.rep.seen,AV.cplx FloatKind.f64 d.rep.got.re d.rep.got.im,Ch d.rep.synced,AV.int IntKind.i64 d.pump.num,Ae d.pump.out,Al d.pump.done,Al d.clean,AV.bool d.busy,AV.sn 4 1 d.waits.length,AV.sn 3 2 d.asks.length,AV.int IntKind.i64 d.next]],BS.seq true 4 d.waits.length fun i=>Ba (d.waits.getD i default),BS.seq true 3 d.asks.length fun i'=>bif i'.beq i.toNat then [AV.int IntKind.i64 (d.asks.getD i.toNat default).num,AV.str (d.asks.getD i.toNat default).key,AG y6]else B4 (d.asks.getD i' default),BS.arr true 23 [[AV.int IntKind.i64 0,AV.int IntKind.i64 0,AV.int IntKind.i64 0,AV.int IntKind.i64 0,AV.int IntKind.i64 0,AV.int IntKind.i64 0,AV.int IntKind.i64 0,AV.nils,AV.int IntKind.i64 0,AV.cplx FloatKind.f64 0 0,AV.cplx FloatKind.f64 0 0,AV.nils,AV.nils,AV.cplx FloatKind.f64 0 0,AV.nils,AV.int IntKind.i64 0,AV.nils,AV.nils,AV.nils,AV.bool false,AV.nils,AV.nils,AV.int IntKind.i64 0]]]})
     else none
    else none
   else none
  else none
 else
  some ((AV.agg [AV.int IntKind.i64 d.rep.shard,AV.int IntKind.i64 d.rep.self.node,AV.int IntKind.i64 d.rep.self.boot,AV.int IntKind.i64 d.rep.view.shard,AV.int IntKind.i64 d.rep.view.epoch,AV.int IntKind.i64 d.rep.view.gen,AV.int IntKind.i64 d.rep.view.phase,Ay d.rep.view.chain,AV.int IntKind.i64 d.rep.frozen,AV.cplx FloatKind.f64 d.rep.tail.floor.re d.rep.tail.floor.im,AV.cplx FloatKind.f64 d.rep.tail.last.re d.rep.tail.last.im,Ae d.rep.tail.log,Ax d.rep.seen,AV.cplx FloatKind.f64 d.rep.got.re d.rep.got.im,Ch d.rep.synced,AV.int IntKind.i64 d.pump.num,Ae d.pump.out,Al d.pump.done,Al d.clean,AV.bool d.busy,AV.sn 4 0 d.waits.length,AV.sn 3 1 d.asks.length,AV.int IntKind.i64 d.next],[BS.seq true 4 d.waits.length fun i=>Ba (d.waits.getD i default),BS.seq true 3 d.asks.length fun i=>B4 (d.asks.getD i default)])):=by kernel_rfl
def MY(d:Md.Desk):Prop:=PC d.rep/\d.pump.out.length<=100000/\d.pump.done.length<=100000/\d.clean.length<=100000/\d.waits.length<=100000/\d.asks.length<=100000 /\ ∀ a ∈ d.asks,Kl a.calls
def aaW(d:Md.Desk):Heap:=[Bc 4 Ba default d.waits,Bc 3 B4 default d.asks]
theorem aaX(d:Md.Desk)(h:MY d):Aa PG BV [.agg (AP d)] [] (.agg (Ej 0 d)) (aaW d):=by
 obtain⟨N,hN⟩:∃ N,N=200000:=⟨_,rfl⟩
 obtain⟨h1,h2,h3,h4,h5,h6,h7⟩:=h
 have run:∀ k i m,i+k=d.asks.length->k<m->LP (OB Km) N 0 BV (Cr 0 0) 0 [] m (Uv d (i:Nat))=some (.agg (Ej 0 d),aaW d):=by
  intro k
  induction k with
  | zero=>
   intro i m hi hm
   obtain⟨m,rfl⟩:∃ k,m=k+1:=⟨m - 1,by omega⟩
   rw[adb,decide_eq_false (by omega),cond_false];rfl
  | succ k ih=>
   intro i m hi hm
   obtain⟨m,rfl⟩:∃ k,m=k+1:=⟨m - 1,by omega⟩
   have hil:i<d.asks.length:=by omega
   have hc:=h7 _ (getD_mem (z:=(default:Md.Ask)) hil)
   have e:=ih (i+1) m (by omega) (by omega)
   have hw:IntKind.i64.wrap ((i:Int)+1)=((i+1:Nat):Int):=Bz (by omega)
   have hs:=set_same B4 default d.asks i
   rw[adb,decide_eq_true (show((i:Nat):Int)<(d.asks.length:Int) by omega),decide_eq_true (show(0:Int)<=(i:Int) by omega),Int.toNat_natCast,AB hil,ada hc,hw]
   refine Eq.trans ?_ e
   show LP (OB Km) N 0 BV (Cr 0 0) 0 [] m {fr:=[(1,.ptr 0 0 0),(2,.ptr 3 0 0),(34,.int .i64 d.asks.length),(35,.int .i64 ((i+1:Nat):Int))],hp:=[.arr true 23 [Ej 1 d],Bc 4 Ba default d.waits,.seq true 3 d.asks.length (fun i'=>bif Nat.beq i' i then B4 (d.asks.getD i default)else B4 (d.asks.getD i' default)),.arr true 23 [ZY]]}=_
   rw[hs];rfl
 refine Zm (n:=N+1) (ak ZW (ak (Dn Gf) (ak (Dn Nw) (ak (It WR) (ak (It Zn) (ak ZX AL)))))) ((akk N d).trans ?_)
 refine(ac7 h1).trans ((FT h2).trans ((FT h3).trans ((FT h4).trans ((FT h5).trans ((FT h6).trans ?_)))))
 exact run d.asks.length 0 N (by omega) (by omega)
def ZZ:Known:=.specB BV (fun a=>IP (AA a 0)) MY (fun d=>[.agg (AP d)]) (fun d=>(.agg (Ej 0 d),aaW d))
theorem Xf:ZZ.Ok PG:=Known.specB_ok aaX
def eHN(l:List Known):Env:=BU [] [(cU,0),(J3,0),(HE,0)] [] l
theorem akl(s:Int)(m:Member):Am (eHN []) 9 J3 [AV.int IntKind.i64 s,AV.agg (A6 m)] =
 some (AV.agg [AV.int IntKind.i64 s,AV.int IntKind.i64 m.node,AV.int IntKind.i64 m.boot,AV.int IntKind.i64 0,AV.int IntKind.i64 0,AV.int IntKind.i64 0,AV.int IntKind.i64 0,AV.nils,AV.int IntKind.i64 0,AV.cplx FloatKind.f64 0 0,AV.cplx FloatKind.f64 0 0,AV.nils,AV.nils,AV.cplx FloatKind.f64 0 0,AV.nils,AV.int IntKind.i64 0,AV.nils,AV.nils,AV.nils,AV.bool false,AV.nils,AV.nils,AV.int IntKind.i64 0]):=by kernel_rfl
theorem akm(r:Rep)(a:Md.Ask):Am (eHN []) 9 HE [AV.agg (Ag r),AV.agg (B4 a)] =
 some (AV.agg [AV.int IntKind.i64 17,AV.int IntKind.i64 r.self.node,AV.int IntKind.i64 0,AV.int IntKind.i64 0,AV.int IntKind.i64 r.self.boot,AV.int IntKind.i64 r.shard,AV.int IntKind.i64 r.view.epoch,AV.int IntKind.i64 0,AV.int IntKind.i64 0,AV.int IntKind.i64 a.num,AV.int IntKind.i64 0,AV.int IntKind.i64 0,AV.bool false,AV.bool false,AV.str a.key,AV.str [],AV.cplx FloatKind.f64 0 0,AV.cplx FloatKind.f64 0 0,AV.int IntKind.i64 0,AV.str [],AV.str [],AV.str [],AV.bool false,AV.nils,AV.nils,AV.nils,AV.cplx FloatKind.f64 0 0,AV.cplx FloatKind.f64 0 0,AV.int IntKind.i64 0,AV.nils,AV.nils]):=by kernel_rfl
def Z0(p:Int × Member):Md.Desk:={(default:Md.Desk)with rep:={(default:Rep)with shard:=p.1,self:=p.2}}
def eNw(p:Int × Member):List AV:=[.int .i64 p.1,.agg (A6 p.2)]
theorem aeZ(p:Int × Member)(_:True):Aa PG J3 (eNw p) [] (.agg (AP (Z0 p))) []:=
 (BQ SO (akl p.1 p.2)).res (.agg (Ei (by repeat' (first | exact trivial | exact Df | exact AR.refl _ | refine⟨?_,?_⟩))))
def ade:Known:=.spec J3 (fun a=>(Ar a 0,Ca (AA a 1))) (fun _=>True) eNw fun p=>.agg (AP (Z0 p))
theorem aaY:ade.Ok PG:=Known.spec_ok aeZ
def GF(p:Rep × Md.Ask):Msg:={(default:Msg)with kind:=17,src:=p.1.self.node,sboot:=p.1.self.boot,shard:=p.1.shard,epoch:=p.1.view.epoch,num:=p.2.num,key:=p.2.key}
def Z5(p:Rep × Md.Ask):List AV:=[.agg (Ag p.1),.agg (B4 p.2)]
theorem aaZ(p:Rep × Md.Ask)(_:True):Aa PG HE (Z5 p) [] (.agg (Ac (GF p))) []:=
 (BQ SO (akm p.1 p.2)).res (.agg (Ei (by repeat' (first | exact trivial | exact Df | exact AR.refl _ | refine⟨?_,?_⟩))))
def mN:Known:=.spec HE (fun a=>(Cy (AA a 0),Ge (AA a 1))) (fun _=>True) Z5 fun p=>.agg (Ac (GF p))
theorem Z6:mN.Ok PG:=Known.spec_ok aaZ
theorem adf{R:Type}{r:Rep}{a:Md.Ask}{k:Rep × Md.Ask->Option R}:gC (fun a=>(Cy (AA a 0),Ge (AA a 1))) (fun _=>True) Z5 [.agg (Ag r),.agg (B4 a)] k=k (r,a):=Aw (r,a) (Prod.ext (B8 r) (Mp a)) trivial (.refl _)
def KF(l:List Known):Env:=BU [(BJ,0,[1,3,19,20,21,31003999])] [(BJ,0),(C1,0),(HC,0),(HE,0)] [] l
def HP:List Known:=[Uc,mL,mN]
theorem akn(N:Nat)(d:Desk):Am (KF HP) (N+1) BJ [AV.agg (AP d)] =
 gC (CO) (Gc) (CP) ([AV.agg (Ag d.rep)]) fun y0=>
 bif((0+(AD y0).length)*392).ble 140737488355328&&(0+(AD y0).length).ble 140737488355328 then
  bif(AD y0).length.beq 0 then
   gC (fun a=>(De (AA a 0),Cy (AA a 1))) (fun q=>q.fst.out.length<=100000) (ZU) ([AV.agg (Bg d.pump),AV.agg (Ag d.rep)]) fun y1=>
   bif((0+(A8 y1).length)*392).ble 140737488355328&&(0+(A8 y1).length).ble 140737488355328 then
    bif(A8 y1).length.beq 0 then
     LP (KF HP) (N) 0 (BJ) Bp 0 [] (N) ({fr:=[(1,AV.ptr 0 0 0),(3,AV.sn 31 1 0),(19,CF d.asks),(20,AV.int IntKind.i64 (↑d.asks.length:Int)),(21,AV.int IntKind.i64 0),(31003999,AV.undef)],hp:=[BS.arr true 23 [AP d],BS.seq true 31 0 fun x=>[]]})
    else
     LP (KF HP) (N) 0 (BJ) Bp 0 [] (N) ({fr:=[(1,AV.ptr 0 0 0),(3,AV.sl 31 1 0 (A8 y1).length 0),(19,CF d.asks),(20,AV.int IntKind.i64 (↑d.asks.length:Int)),(21,AV.int IntKind.i64 0),(31003999,AV.undef)],hp:=[BS.arr true 23 [AP d],BS.seq true 31 (A8 y1).length fun i=>Ac ((A8 y1).getD i default)]})
   else none
  else
   gC (fun a=>(De (AA a 0),Cy (AA a 1))) (fun q=>q.fst.out.length<=100000) (ZU) ([AV.agg (Bg d.pump),AV.agg (Ag d.rep)]) fun y2=>
   bif(AD y0).length.beq 0||(AD y0).length.ble (AD y0).length then
    bif(((AD y0).length+(A8 y2).length)*392).ble 140737488355328&&((AD y0).length+(A8 y2).length).ble 140737488355328 then
     bif(A8 y2).length.beq 0 then
      LP (KF HP) (N) 0 (BJ) Bp 0 [] (N) ({fr:=[(1,AV.ptr 0 0 0),(3,AV.sl 31 1 0 (AD y0).length 0),(19,CF d.asks),(20,AV.int IntKind.i64 (↑d.asks.length:Int)),(21,AV.int IntKind.i64 0),(31003999,AV.undef)],hp:=[BS.arr true 23 [AP d],BS.seq true 31 (AD y0).length fun i=>Ac ((AD y0).getD i default)]})
     else
      LP (KF HP) (N) 0 (BJ) Bp 0 [] (N) ({fr:=[(1,AV.ptr 0 0 0),(3,AV.sl 31 1 0 ((AD y0).length+(A8 y2).length) 0),(19,CF d.asks),(20,AV.int IntKind.i64 (↑d.asks.length:Int)),(21,AV.int IntKind.i64 0),(31003999,AV.undef)],hp:=[BS.arr true 23 [AP d],BS.seq true 31 ((AD y0).length+(A8 y2).length) fun i=>bif i.blt (AD y0).length then Ac ((AD y0).getD i default)else bif i.blt ((AD y0).length+(A8 y2).length)then Ac ((A8 y2).getD (i - (AD y0).length) default)else Ac ((AD y0).getD (AD y0).length default)]})
    else none
   else none
 else none:=by kernel_rfl
def STk(d:Md.Desk)(v:AV)(n:Nat)(F:Nat->List AV)(i:Int):St:={fr:=[(1,.ptr 0 0 0),(3,v),(19,CF d.asks),(20,.int .i64 d.asks.length),(21,.int .i64 i),(31003999,.undef)],hp:=[.arr true 23 [AP d],.seq true 31 n F]}
theorem adg(N:Nat)(m:Nat)(d:Desk)(n:Nat)(F:Nat->List AV)(i:Int):LP (KF HP) N 0 BJ Bp 0 [] (m+1) (STk d (AV.sn 31 1 n) n F i) =
 bif decide (i<(↑d.asks.length:Int))then
  bif decide (0<=i)&&decide (i<(↑d.asks.length:Int))then
   gC (fun a=>(Cy (AA a 0),Ge (AA a 1))) (fun x=>True) (Z5) ([AV.agg (Ag d.rep),AV.agg (B4 (d.asks.getD i.toNat default))]) fun y3=>
   bif n.ble n then
    bif((n+1)*392).ble 140737488355328&&(n+1).ble 140737488355328 then
     LP (KF HP) (N) (0) (BJ) (Bp) 0 ([]) (m) ({fr:=[(1,AV.ptr 0 0 0),(3,AV.sn 31 1 (n+1)),(19,CF d.asks),(20,AV.int IntKind.i64 (↑d.asks.length:Int)),(21,AV.int IntKind.i64 (IntKind.i64.wrap (i+1))),(31003999,AV.undef)],hp:=[BS.arr true 23 [AP d],BS.seq true 31 (n+1) (Be n F (View.list [[AV.int IntKind.i64 17,AV.int IntKind.i64 y3.fst.self.node,AV.int IntKind.i64 0,AV.int IntKind.i64 0,AV.int IntKind.i64 y3.fst.self.boot,AV.int IntKind.i64 y3.fst.shard,AV.int IntKind.i64 y3.fst.view.epoch,AV.int IntKind.i64 0,AV.int IntKind.i64 0,AV.int IntKind.i64 y3.snd.num,AV.int IntKind.i64 0,AV.int IntKind.i64 0,AV.bool false,AV.bool false,AV.str y3.snd.key,AV.str [],AV.cplx FloatKind.f64 default default,AV.cplx FloatKind.f64 default default,AV.int IntKind.i64 0,AV.str [],AV.str [],AV.str [],AV.bool false,Ae [],Ay [],CY [],AV.cplx FloatKind.f64 default default,AV.cplx FloatKind.f64 default default,AV.int IntKind.i64 0,Ae [],Ax []]]))]})
    else none
   else none
  else none
 else
  bif n.ble n then
   some (AV.tr 31 n F)
  else none:=by kernel_rfl
theorem adh(N:Nat)(m:Nat)(d:Desk)(n:Nat)(F:Nat->List AV)(i:Int):LP (KF HP) N 0 BJ Bp 0 [] (m+1) (STk d (AV.sl 31 1 0 n 0) n F i) =
 bif decide (i<(↑d.asks.length:Int))then
  bif decide (0<=i)&&decide (i<(↑d.asks.length:Int))then
   gC (fun a=>(Cy (AA a 0),Ge (AA a 1))) (fun x=>True) (Z5) ([AV.agg (Ag d.rep),AV.agg (B4 (d.asks.getD i.toNat default))]) fun y4=>
   bif n.beq 0||n.ble n then
    bif((n+1)*392).ble 140737488355328&&(n+1).ble 140737488355328 then
     LP (KF HP) (N) (0) (BJ) (Bp) 0 ([]) (m) ({fr:=[(1,AV.ptr 0 0 0),(3,AV.sl 31 1 0 (n+1) 0),(19,CF d.asks),(20,AV.int IntKind.i64 (↑d.asks.length:Int)),(21,AV.int IntKind.i64 (IntKind.i64.wrap (i+1))),(31003999,AV.undef)],hp:=[BS.arr true 23 [AP d],BS.seq true 31 (n+1) fun i=>bif i.blt n then F i else bif i.blt (n+1)then [[AV.int IntKind.i64 17,AV.int IntKind.i64 y4.fst.self.node,AV.int IntKind.i64 0,AV.int IntKind.i64 0,AV.int IntKind.i64 y4.fst.self.boot,AV.int IntKind.i64 y4.fst.shard,AV.int IntKind.i64 y4.fst.view.epoch,AV.int IntKind.i64 0,AV.int IntKind.i64 0,AV.int IntKind.i64 y4.snd.num,AV.int IntKind.i64 0,AV.int IntKind.i64 0,AV.bool false,AV.bool false,AV.str y4.snd.key,AV.str [],AV.cplx FloatKind.f64 default default,AV.cplx FloatKind.f64 default default,AV.int IntKind.i64 0,AV.str [],AV.str [],AV.str [],AV.bool false,Ae [],Ay [],CY [],AV.cplx FloatKind.f64 default default,AV.cplx FloatKind.f64 default default,AV.int IntKind.i64 0,Ae [],Ax []]].getD (i - n) []else F n]})
    else none
   else none
  else none
 else
  bif n.beq 0||n.ble n then
   some (AV.tr 31 n fun i=>F i)
  else none:=by kernel_rfl
def Ex(d:Md.Desk):List Msg:=AD d.rep++A8 (d.pump,d.rep)++d.asks.map fun a=>GF (d.rep,a)
def Tj(d:Md.Desk):Prop:=Gc d.rep/\d.pump.out.length<=100000/\d.asks.length<=100000/\(AD d.rep).length<=100000
def Sj(n:Nat)(F:Nat->List AV)(l:List Msg):Prop:=n=l.length /\ ∀ j,j<n->F j=Ac (l.getD j default)
theorem Sj.app{n:Nat}{F:Nat->List AV}{l:List Msg}(h:Sj n F l)(x:Msg):Sj (n+1) (Be n F (View.list [Ac x])) (l++[x]):=by
 obtain⟨rfl,h⟩:=h
 refine⟨by simp,fun j hj=>?_⟩
 by_cases hjl:j<l.length
 ·rw[JW hjl,h j hjl]
  simp only[List.getD]
  rw[List.getElem?_append_left hjl]
 ·have:j=l.length:=by omega
  subst this
  rw[JX (Nat.le_refl _) (show l.length<l.length+1 by omega)]
  simp only[List.getD]
  rw[List.getElem?_append_right (Nat.le_refl _),Nat.sub_self];rfl
theorem tY(N:Nat)(d:Md.Desk)(V:Nat->AV)(hst:∀ (m n:Nat) (F:Nat->List AV) (i:Nat),i<d.asks.length->n<=400000->LP (KF HP) N 0 BJ Bp 0 [] (m+1) (STk d (V n) n F (i:Nat))=LP (KF HP) N 0 BJ Bp 0 [] m (STk d (V (n+1)) (n+1) (Be n F (View.list [Ac (GF (d.rep,d.asks.getD i default))])) ((i+1:Nat):Int)))
  (hen:∀ (m n:Nat) (F:Nat->List AV),LP (KF HP) N 0 BJ Bp 0 [] (m+1) (STk d (V n) n F (d.asks.length:Nat))=some (.tr 31 n F)) :
  ∀ (k i m n:Nat) (F:Nat->List AV) (l:List Msg),i+k=d.asks.length->k<m->n+k<=400000->Sj n F l ->
   ∃ F',LP (KF HP) N 0 BJ Bp 0 [] m (STk d (V n) n F (i:Nat))=some (.tr 31 (n+k) F')/\Sj (n+k) F' (l++(d.asks.drop i).map fun a=>GF (d.rep,a)):=by
 intro k
 induction k with
 | zero=>
  intro i m n F l hi hm hn hH
  obtain⟨m,rfl⟩:∃ k,m=k+1:=⟨m - 1,by omega⟩
  have:i=d.asks.length:=by omega
  subst this
  rw[hen,List.drop_eq_nil_of_le (Nat.le_refl _),List.map_nil,List.append_nil]
  exact⟨F,rfl,hH⟩
 | succ k ih=>
  intro i m n F l hi hm hn hH
  obtain⟨m,rfl⟩:∃ k,m=k+1:=⟨m - 1,by omega⟩
  have hil:i<d.asks.length:=by omega
  obtain⟨F',h1,h2⟩:=ih (i+1) m (n+1) _ _ (by omega) (by omega) (by omega) (hH.app (GF (d.rep,d.asks.getD i default)))
  rw[hst m n F i hil (by omega)]
  rw[drop_cons (z:=(default:Md.Ask)) hil,List.map_cons]
  rw[List.append_assoc]at h2
  rw[show n+1+k=n+(k+1) by omega]at h1 h2
  exact⟨F',h1,h2⟩
theorem ahU(N:Nat)(d:Md.Desk)(hd:d.asks.length<=100000)(m n:Nat)(F:Nat->List AV)(i:Nat)(hil:i<d.asks.length)(hn:n<=400000):LP (KF HP) N 0 BJ Bp 0 [] (m+1) (STk d (.sn 31 1 n) n F (i:Nat))=LP (KF HP) N 0 BJ Bp 0 [] m (STk d (.sn 31 1 (n+1)) (n+1) (Be n F (View.list [Ac (GF (d.rep,d.asks.getD i default))])) ((i+1:Nat):Int)):=by
 have hw:IntKind.i64.wrap ((i:Int)+1)=((i+1:Nat):Int):=Bz (by omega)
 rw[adg,decide_eq_true (show((i:Nat):Int)<(d.asks.length:Int) by omega),decide_eq_true (show(0:Int)<=(i:Int) by omega),Int.toNat_natCast,adf,hw,Aq (Nat.le_refl _),Aq (show(n+1)*392<=140737488355328 by omega),Aq (show n+1<=140737488355328 by omega)]
 rfl
theorem ahV(N:Nat)(d:Md.Desk)(hd:d.asks.length<=100000)(m n:Nat)(F:Nat->List AV)(i:Nat)(hil:i<d.asks.length)(hn:n<=400000):LP (KF HP) N 0 BJ Bp 0 [] (m+1) (STk d (.sl 31 1 0 n 0) n F (i:Nat))=LP (KF HP) N 0 BJ Bp 0 [] m (STk d (.sl 31 1 0 (n+1) 0) (n+1) (Be n F (View.list [Ac (GF (d.rep,d.asks.getD i default))])) ((i+1:Nat):Int)):=by
 have hw:IntKind.i64.wrap ((i:Int)+1)=((i+1:Nat):Int):=Bz (by omega)
 rw[adh,decide_eq_true (show((i:Nat):Int)<(d.asks.length:Int) by omega),decide_eq_true (show(0:Int)<=(i:Int) by omega),Int.toNat_natCast,adf,hw,Aq (Nat.le_refl _),Bool.or_true,Aq (show(n+1)*392<=140737488355328 by omega),Aq (show n+1<=140737488355328 by omega)]
 rfl
theorem dG(q:Pump × Rep):(A8 q).length<=1:=by
 unfold A8
 cases q.1.out.isEmpty <;> simp
theorem aa0(d:Md.Desk)(h:Tj d):Aa PG BJ [.agg (AP d)] [] (AG (Ex d)) []:=by
 obtain⟨N,hN⟩:∃ N,N=200000:=⟨_,rfl⟩
 obtain⟨h1,h2,h3,h4⟩:=h
 have hB:=dG (d.pump,d.rep)
 have key:∃ n F,Am (KF HP) (N+1) BJ [.agg (AP d)]=some (.tr 31 n F)/\Sj n F (Ex d):=by
  have hq1:∀ {K:Rep->Option AV},gC CO Gc CP [.agg (Ag d.rep)] K=K d.rep:=fun {K}=>Aw d.rep (B8 d.rep) h1 (.refl _)
  have hq2:∀ {K:Pump × Rep->Option AV},gC (fun a=>(De (AA a 0),Cy (AA a 1))) (fun q=>q.fst.out.length<=100000) ZU [.agg (Bg d.pump),.agg (Ag d.rep)] K=K (d.pump,d.rep):=fun {K}=>Aw (d.pump,d.rep) (Prod.ext (HK d.pump) (B8 d.rep)) h2 (.refl _)
  have hsn:=tY N d (fun n=>.sn 31 1 n) (fun m n F i hil hn=>ahU N d h3 m n F i hil hn) (fun m n F=>by rw[adg,decide_eq_false (by omega),cond_false,Aq (Nat.le_refl _)];rfl)
  have hsl:=tY N d (fun n=>.sl 31 1 0 n 0) (fun m n F i hil hn=>ahV N d h3 m n F i hil hn) (fun m n F=>by rw[adh,decide_eq_false (by omega),cond_false,Aq (Nat.le_refl _),Bool.or_true];rfl)
  rw[akn,hq1,Aq (show(0+(AD d.rep).length)*392<=140737488355328 by omega),Aq (show 0+(AD d.rep).length<=140737488355328 by omega),Bool.and_true,cond_true]
  have T0:Ex d=(AD d.rep++A8 (d.pump,d.rep))++(d.asks.drop 0).map fun a=>GF (d.rep,a):=rfl
  by_cases ha:(AD d.rep).length=0
  ·rw[AM.beq_true ha,cond_true,hq2,Aq (show(0+(A8 (d.pump,d.rep)).length)*392<=140737488355328 by omega),Aq (show 0+(A8 (d.pump,d.rep)).length<=140737488355328 by omega),Bool.and_true,cond_true]
   have ha':=List.length_eq_zero_iff.1 ha
   by_cases hb:(A8 (d.pump,d.rep)).length=0
   ·rw[AM.beq_true hb,cond_true]
    have hb':=List.length_eq_zero_iff.1 hb
    obtain⟨F',e1,e2⟩:=hsn d.asks.length 0 N 0 (fun _=>[]) [] (by omega) (by omega) (by omega) ⟨rfl,fun j hj=>absurd hj (Nat.not_lt_zero j)⟩
    refine⟨_,F',e1,?_⟩
    rw[T0,ha',hb'];exact e2
   ·rw[AM.beq_false hb,cond_false]
    obtain⟨F',e1,e2⟩:=hsl d.asks.length 0 N (A8 (d.pump,d.rep)).length (fun i=>Ac ((A8 (d.pump,d.rep)).getD i default)) (A8 (d.pump,d.rep)) (by omega) (by omega) (by omega) ⟨rfl,fun j hj=>rfl⟩
    refine⟨_,F',e1,?_⟩
    rw[T0,ha',List.nil_append];exact e2
  ·rw[AM.beq_false ha,cond_false,hq2,Aq (Nat.le_refl _),Bool.false_or,cond_true,Aq (show((AD d.rep).length+(A8 (d.pump,d.rep)).length)*392<=140737488355328 by omega),Aq (show(AD d.rep).length+(A8 (d.pump,d.rep)).length<=140737488355328 by omega),Bool.and_true,cond_true]
   by_cases hb:(A8 (d.pump,d.rep)).length=0
   ·rw[AM.beq_true hb,cond_true]
    have hb':=List.length_eq_zero_iff.1 hb
    obtain⟨F',e1,e2⟩:=hsl d.asks.length 0 N (AD d.rep).length (fun i=>Ac ((AD d.rep).getD i default)) (AD d.rep) (by omega) (by omega) (by omega) ⟨rfl,fun j hj=>rfl⟩
    refine⟨_,F',e1,?_⟩
    rw[T0,hb',List.append_nil];exact e2
   ·rw[AM.beq_false hb,cond_false]
    obtain⟨F',e1,e2⟩:=hsl d.asks.length 0 N ((AD d.rep).length+(A8 (d.pump,d.rep)).length) (fun i=>bif i.blt (AD d.rep).length then Ac ((AD d.rep).getD i default)else bif i.blt ((AD d.rep).length+(A8 (d.pump,d.rep)).length)then Ac ((A8 (d.pump,d.rep)).getD (i - (AD d.rep).length) default)else Ac ((AD d.rep).getD (AD d.rep).length default)) (AD d.rep++A8 (d.pump,d.rep)) (by omega) (by omega) (by omega) ⟨by rw[List.length_append],fun j hj=>by
     dsimp only
     by_cases hj2:j<(AD d.rep).length
     ·rw[AB hj2,cond_true]
      simp only[List.getD]
      rw[List.getElem?_append_left hj2]
     ·rw[CI (by omega),cond_false,AB hj,cond_true]
      simp only[List.getD]
      rw[List.getElem?_append_right (by omega)]⟩
    refine⟨_,F',e1,?_⟩
    rw[T0];exact e2
 obtain⟨n,F,e,rfl,hF⟩:=key
 exact(BQ (ak QN (ak ZV (ak Z6 AL))) e).res (.trs fun i hi=>by rw[hF i hi];exact .refl _)
def Uw:Known:=.spec BJ (fun a=>IP (AA a 0)) Tj (fun d=>[.agg (AP d)]) fun d=>AG (Ex d)
theorem tZ:Uw.Ok PG:=Known.spec_ok aa0
structure Wrk where
 d:Md.Desk
 c:Conf
 out:List Msg
 just:Itm
 isRead:Bool
deriving Inhabited
def Z7(w:Wrk):List AV:=Ej 1 w.d++(CG w.c++(.sn 31 3 w.out.length::(Af w.just++[.bool w.isRead])))
def Bl(w:Wrk):Heap:=[.arr true 44 [Z7 w],Bc 4 Ba default w.d.waits,Bc 3 B4 default w.d.asks,Bc 31 Ac default w.out]
def eWk(l:List Known):Env:=BU [] [(DM,5),(II,5),(Cz,5),(Dk,5),(Eh,0)] [] l
theorem ako(w:Wrk)(m:Msg):BA 4 (eWk [Mn]) 9 DM [AV.ptr 0 0 0,AV.agg (Ac m)] (Bl w)=gC CO EK CP [AV.agg (Ag w.d.rep)] fun y0=>
 bif Co y0 then bif decide (m.dst=w.d.rep.self.node)then bif decide (m.boot=w.d.rep.self.boot)then bif decide (m.shard=w.d.rep.shard)then some (.bool (decide (m.epoch=w.d.rep.view.epoch)),Bl w)else some (.bool false,Bl w)else some (.bool false,Bl w)else some (.bool false,Bl w)else some (.bool false,Bl w):=by kernel_rfl
def Gi(w:Wrk)(m:Msg):Bool:=Co w.d.rep&&(decide (m.dst=w.d.rep.self.node)&&(decide (m.boot=w.d.rep.self.boot)&&(decide (m.shard=w.d.rep.shard)&&decide (m.epoch=w.d.rep.view.epoch))))
theorem aa1(w:Wrk)(m:Msg)(h:EK w.d.rep):Aa PG DM [.ptr 0 0 0,.agg (Ac m)] (Bl w) (.bool (Gi w m)) (Bl w)/\(Bl w).length<=(Bl w).length:=by
 refine conC (ak Ir AL) (c:=4) (n:=9) (Nat.le_refl 4) ((ako w m).trans ?_)
 refine(R7 h).trans ?_
 unfold Gi
 cases Co w.d.rep <;> cases decide (m.dst=w.d.rep.self.node) <;> cases decide (m.boot=w.d.rep.self.boot) <;> cases decide (m.shard=w.d.rep.shard) <;> rfl
def Ux(cs:List AV)(ws:List Wait)(ks:List Md.Ask):Md.Desk:={IP cs with waits:=ws,asks:=ks}
theorem mO(a:Nat)(l:List AV)(x:Md.Desk):Ux (Ej a x++l) x.waits x.asks=x:=by
 show(⟨⟨x.rep.shard,⟨x.rep.self.node,x.rep.self.boot⟩,⟨x.rep.view.shard,x.rep.view.epoch,x.rep.view.gen,x.rep.view.phase,AN Ca (Ay x.rep.view.chain)⟩,x.rep.frozen,⟨⟨x.rep.tail.floor.re,x.rep.tail.floor.im⟩,⟨x.rep.tail.last.re,x.rep.tail.last.im⟩,AN Bf (Ae x.rep.tail.log)⟩,AN BZ (Ax x.rep.seen),⟨x.rep.got.re,x.rep.got.im⟩,AN HA (Ch x.rep.synced)⟩,⟨x.pump.num,AN Bf (Ae x.pump.out),AN Bd (Al x.pump.done)⟩,AN Bd (Al x.clean),x.busy,x.waits,x.asks,x.next⟩:Md.Desk)=x
 simp only[EH,Eo,EB,O7,E1]
def Hf(h:Heap):Wrk:=⟨Ux (OA (Ab h 0)) (Iu IN (Ab h 1)) (Iu Ge (Ab h 2)),JK ((OA (Ab h 0)).drop 23),Iu BI (Ab h 3),Bd ((OA (Ab h 0)).drop 39),Ih (OA (Ab h 0)) 43⟩
theorem HM(w:Wrk):Hf (Bl w)=w:=by
 have h1:Iu IN (Bc 4 Ba default w.d.waits)=w.d.waits:=He (fun _=>rfl) _
 have h2:Iu Ge (Bc 3 B4 default w.d.asks)=w.d.asks:=He Mp _
 have h3:Iu BI (Bc 31 Ac default w.out)=w.out:=He C8 _
 have h0:Ux (Z7 w) w.d.waits w.d.asks=w.d:=mO 1 _ w.d
 show(⟨Ux (Z7 w) (Iu IN (Bc 4 Ba default w.d.waits)) (Iu Ge (Bc 3 B4 default w.d.asks)),w.c,Iu BI (Bc 31 Ac default w.out),w.just,w.isRead⟩:Wrk)=w
 rw[h1,h2,h3,h0]
abbrev WM:=Wrk × Msg
def Gj(a:List AV)(h:Heap):WM:=(Hf h,BI (AA a 1))
def FN(p:WM):List AV × Heap:=([.ptr 0 0 0,.agg (Ac p.2)],Bl p.1)
theorem OD(p:WM):Gj (FN p).1 (FN p).2=p:=Prod.ext (HM p.1) (C8 p.2)
def XV:Known:=.specG DM Gj (fun _=>True) FN (fun p=>(.bool (Gi p.1 p.2),Bl p.1))
theorem Tk:XV.Ok PG:=Known.specG_ok fun p _=>aa1 p.1 p.2 trivial
def iD(a:Nat)(w:Wrk):List AV:=Ej a w.d++(CG w.c++(.sn 31 (a+2) w.out.length::(Af w.just++[.bool w.isRead])))
def BG(w:Wrk):Heap:=[.arr true 44 [iD 4 w],.dead,.dead,.dead,Bc 4 Ba default w.d.waits,Bc 3 B4 default w.d.asks,Bc 31 Ac default w.out]
def Mq(w:Wrk)(dst sess num code:Int):Msg:={(default:Msg)with kind:=6,src:=w.d.rep.self.node,dst:=dst,shard:=w.d.rep.shard,sess:=sess,num:=num,code:=code}
def eWj(l:List Known):Env:=BU [] [(II,3),(Cz,5),(Dk,5),(GO,0),(Jh,0)] [] l
theorem mk_eq(w:Wrk):BA 1 (eWj [sU,acT]) 9 Dk [AV.ptr 0 0 0] (Bl w) =
 gC (fun a=>El (AA a 0)) (fun t=>Ke t.log) (fun t=>[AV.agg (AJ t)]) ([AV.agg (AJ w.d.rep.tail)]) fun y0=>
 gC (fun a=>(Ih a 0,Ar a 1,Ar a 2,Ar a 3)) (fun x=>True) (eBM) ([AV.bool w.d.busy,AV.int IntKind.i64 (↑(DY y0.log):Int),AV.int IntKind.i64 w.c.high,AV.int IntKind.i64 w.c.low]) fun y1=>
 some ((AV.tup [],[BS.arr true 44 [[AV.int IntKind.i64 w.d.rep.shard,AV.int IntKind.i64 w.d.rep.self.node,AV.int IntKind.i64 w.d.rep.self.boot,AV.int IntKind.i64 w.d.rep.view.shard,AV.int IntKind.i64 w.d.rep.view.epoch,AV.int IntKind.i64 w.d.rep.view.gen,AV.int IntKind.i64 w.d.rep.view.phase,Ay w.d.rep.view.chain,AV.int IntKind.i64 w.d.rep.frozen,AV.cplx FloatKind.f64 w.d.rep.tail.floor.re w.d.rep.tail.floor.im,AV.cplx FloatKind.f64 w.d.rep.tail.last.re w.d.rep.tail.last.im,Ae w.d.rep.tail.log,Ax w.d.rep.seen,AV.cplx FloatKind.f64 w.d.rep.got.re w.d.rep.got.im,Ch w.d.rep.synced,AV.int IntKind.i64 w.d.pump.num,Ae w.d.pump.out,Al w.d.pump.done,Al w.d.clean,AV.bool (Sd y1.fst y1.snd.fst y1.snd.snd.fst y1.snd.snd.snd),AV.sn 4 4 w.d.waits.length,AV.sn 3 5 w.d.asks.length,AV.int IntKind.i64 w.d.next,AV.int IntKind.i64 w.c.nodes,AV.int IntKind.i64 w.c.chain,AV.int IntKind.i64 w.c.shards,AV.int IntKind.i64 w.c.clients,AV.int IntKind.i64 w.c.maxKey,AV.int IntKind.i64 w.c.maxVal,AV.int IntKind.i64 w.c.high,AV.int IntKind.i64 w.c.low,AV.int IntKind.i64 w.c.room,AV.int IntKind.i64 w.c.maxLog,AV.int IntKind.i64 w.c.batch,AV.int IntKind.i64 w.c.sessions,AV.int IntKind.i64 w.c.suspect,AV.int IntKind.i64 w.c.patience,AV.int IntKind.i64 w.c.maxSeq,AV.sn 31 6 w.out.length,AV.str w.just.key,AV.str w.just.val,AV.bool w.just.has,AV.cplx FloatKind.f64 w.just.ver.re w.just.ver.im,AV.bool w.isRead]],BS.dead,BS.dead,BS.dead,BS.seq true 4 w.d.waits.length fun i=>Ba (w.d.waits.getD i default),BS.seq true 3 w.d.asks.length fun i=>B4 (w.d.asks.getD i default),BS.seq true 31 w.out.length fun i=>Ac (w.out.getD i default)])):=by kernel_rfl
def C9(w:Wrk):Wrk:={w with d:={w.d with busy:=Sd w.d.busy (DY w.d.rep.tail.log) w.c.high w.c.low}}
theorem uA(w:Wrk)(h:Ke w.d.rep.tail.log):Aa PG Dk [.ptr 0 0 0] (Bl w) (.tup []) (BG (C9 w))/\(Bl w).length<=(BG (C9 w)).length:=by
 refine conC (ak sV (ak aaB AL)) (c:=1) (n:=9) (by show 1<=4;omega) ((mk_eq w).trans ?_)
 have hq1:∀ {K:Tail->Option (AV × Heap)},gC (fun a=>El (AA a 0)) (fun t=>Ke t.log) (fun t=>[AV.agg (AJ t)]) [AV.agg (AJ w.d.rep.tail)] K=K w.d.rep.tail:=fun {K}=>Aw w.d.rep.tail (D9 w.d.rep.tail) h (.refl _)
 have hq2:∀ {n:Int} {K:BM->Option (AV × Heap)},gC (fun a=>(Ih a 0,Ar a 1,Ar a 2,Ar a 3)) (fun _=>True) eBM [AV.bool w.d.busy,AV.int IntKind.i64 n,AV.int IntKind.i64 w.c.high,AV.int IntKind.i64 w.c.low] K=K (w.d.busy,n,w.c.high,w.c.low):=fun {n K}=>Aw (w.d.busy,n,w.c.high,w.c.low) rfl trivial (.refl _)
 rw[hq1,hq2]
 rfl
def Z8:Known:=.specG Dk (fun _ h=>Hf h) (fun w=>Ke w.d.rep.tail.log) (fun w=>([.ptr 0 0 0],Bl w)) (fun w=>(.tup [],BG (C9 w)))
theorem Xg:Z8.Ok PG:=Known.specG_ok uA
def HQ(w:Wrk)(x y z:AV):List AV:=[.int .i64 w.d.rep.shard,.int .i64 w.d.rep.self.node,.int .i64 w.d.rep.self.boot,.int .i64 w.d.rep.view.shard,.int .i64 w.d.rep.view.epoch,.int .i64 w.d.rep.view.gen,.int .i64 w.d.rep.view.phase,Ay w.d.rep.view.chain,.int .i64 w.d.rep.frozen,.cplx .f64 w.d.rep.tail.floor.re w.d.rep.tail.floor.im,.cplx .f64 w.d.rep.tail.last.re w.d.rep.tail.last.im,Ae w.d.rep.tail.log,Ax w.d.rep.seen,.cplx .f64 w.d.rep.got.re w.d.rep.got.im,Ch w.d.rep.synced,.int .i64 w.d.pump.num,Ae w.d.pump.out,Al w.d.pump.done,Al w.d.clean,.bool w.d.busy,x,y,.int .i64 w.d.next]++(CG w.c++(z::(Af w.just++[.bool w.isRead])))
def Kn(w:Wrk)(nW:Nat)(FW:Nat->List AV)(nK:Nat)(FK:Nat->List AV)(nO:Nat)(FO:Nat->List AV):Heap:=
 [.arr true 44 [HQ w (.sn 4 4 nW) (.sn 3 5 nK) (.sn 31 6 nO)],.dead,.dead,.dead,.seq true 4 nW FW,.seq true 3 nK FK,.seq true 31 nO FO]
def D5(l:List Wait):Nat->List AV:=fun i=>Ba (l.getD i default)
def B5(l:List Md.Ask):Nat->List AV:=fun i=>B4 (l.getD i default)
def BX(l:List Msg):Nat->List AV:=fun i=>Ac (l.getD i default)
theorem Q0(w:Wrk)(W:List Wait)(K:List Md.Ask)(O:List Msg):Kn w W.length (D5 W) K.length (B5 K) O.length (BX O)=BG {w with d:={w.d with waits:=W,asks:=K},out:=O}:=rfl
def adi(w:Wrk)(dst sess num code:Int):List AV:=[.int .i64 6,.int .i64 w.d.rep.self.node,.int .i64 dst,.int .i64 0,.int .i64 0,.int .i64 w.d.rep.shard,.int .i64 0,.int .i64 0,.int .i64 sess,.int .i64 num,.int .i64 0,.int .i64 code,.bool false,.bool false,.str [],.str [],.cplx .f64 0 0,.cplx .f64 0 0,.int .i64 0,.str [],.str [],.str [],.bool false,.nils,.nils,.nils,.cplx .f64 0 0,.cplx .f64 0 0,.int .i64 0,.nils,.nils]
theorem uB(w:Wrk)(dst sess num code:Int):Cg (adi w dst sess num code) (Ac (Mq w dst sess num code)):=Ei (by repeat' (first | exact trivial | exact Df | exact AR.refl _ | refine⟨?_,?_⟩))
theorem Tl{X:Type}{e:X->List AV}{z:X}{l:List X}{x:X}{cs:List AV}(h:Cg cs (e x))(i:Nat)(hi:i<l.length+1):Cg (Be l.length (fun i=>e (l.getD i z)) (.list [cs]) i) (e ((l++[x]).getD i z)):=by
 by_cases hl:i<l.length
 ·rw[JW hl]
  simp only[List.getD]
  rw[List.getElem?_append_left hl];exact .refl _
 ·have:i=l.length:=by omega
  subst this
  rw[JX (Nat.le_refl _) (show l.length<l.length+1 by omega)]
  simp only[List.getD]
  rw[List.getElem?_append_right (Nat.le_refl _),Nat.sub_self];exact h
theorem ae0(w:Wrk){n:Nat}{F G:Nat->List AV}{a:Nat}{A:Nat->List AV}{b:Nat}{B:Nat->List AV}(h:∀ i,i<n->Cg (F i) (G i)):HSub (Kn w a A b B n F) (Kn w a A b B n G):=
 .cons (.refl _) (.cons (.refl _) (.cons (.refl _) (.cons (.refl _) (.cons (.refl _) (.cons (.refl _) (.cons (.seq true 31 n n F G (Nat.le_refl _) h) .nil))))))
def eWr(l:List Known):Env:=BU [] [(II,3),(Cz,5),(Dk,5),(Di,5),(BN,5)] [] l
theorem akp(w:Wrk)(m:Msg)(code:Int):BA 1 (eWr []) 9 Cz [.ptr 0 0 0,.agg (Ac m),.int .i64 code] (Bl w) =
 bif w.out.length.ble w.out.length then bif((w.out.length+1)*392).ble 140737488355328&&(w.out.length+1).ble 140737488355328 then
  some (.tup [],Kn w w.d.waits.length (D5 w.d.waits) w.d.asks.length (B5 w.d.asks) (w.out.length+1) (Be w.out.length (BX w.out) (.list [adi w m.src m.sess m.num code])))else none else none:=by kernel_rfl
def Vy(w:Wrk)(l:List Msg):Wrk:={w with out:=w.out++l}
def FY(w:Wrk)(m:Msg)(code:Int):Wrk:=Vy w [Mq w m.src m.sess m.num code]
theorem uC{X:Type}(e:X->List AV)(z:X)(l:List X)(x:X):Be l.length (fun i=>e (l.getD i z)) (.list [e x])=fun i=>e ((l++[x]).getD i z):=Pt e z l x
theorem mP(w:Wrk)(m:Msg)(code:Int)(h:w.out.length<=1000000):Aa PG Cz [.ptr 0 0 0,.agg (Ac m),.int .i64 code] (Bl w) (.tup []) (BG (FY w m code))/\(Bl w).length<=(BG (FY w m code)).length:=by
 have e:=akp w m code
 rw[Aq (Nat.le_refl _),Aq (show(w.out.length+1)*392<=140737488355328 by omega),Aq (show w.out.length+1<=140737488355328 by omega)]at e
 have c:=conC (fun k hk=>by cases hk) (c:=1) (n:=9) (by show 1<=4;omega) e
 refine⟨?_,by show 4<=7;omega⟩
 have hd:BG (FY w m code)=Kn w w.d.waits.length (D5 w.d.waits) w.d.asks.length (B5 w.d.asks) (w.out.length+1) (BX (w.out++[Mq w m.src m.sess m.num code])):=by
  rw[show w.out.length+1=(w.out++[Mq w m.src m.sess m.num code]).length by simp,Q0];rfl
 rw[hd]
 exact c.1.resub (.refl _) (ae0 w fun i hi=>Tl (uB w m.src m.sess m.num code) i hi)
abbrev WMI:=Wrk × Msg × Int
def aa2(a:List AV)(h:Heap):WMI:=(Hf h,BI (AA a 1),Ar a 2)
def mQ(p:WMI):List AV × Heap:=([.ptr 0 0 0,.agg (Ac p.2.1),.int .i64 p.2.2],Bl p.1)
theorem ae1(p:WMI):aa2 (mQ p).1 (mQ p).2=p:=Prod.ext (HM p.1) (Prod.ext (C8 p.2.1) rfl)
def iE:Known:=.specG Cz aa2 (fun p=>p.1.out.length<=1000000) mQ (fun p=>(.tup [],BG (FY p.1 p.2.1 p.2.2)))
theorem mR:iE.Ok PG:=Known.specG_ok fun p h=>mP p.1 p.2.1 p.2.2 h
theorem akq(w:Wrk)(v:Ver)(m:Msg):BA 1 (eWr [kDW]) 9 Di [.ptr 0 0 0,eV v,.agg (Ac m)] (Bl w) =
 BF Zz SN ES (ES (w.d.waits,m)).1 (ES (w.d.waits,m)).2 fun y=>
 bif(y.1.filter fun x=>!pW y.2 x).length.ble (y.1.filter fun x=>!pW y.2 x).length then bif(((y.1.filter fun x=>!pW y.2 x).length+1)*40).ble 140737488355328&&((y.1.filter fun x=>!pW y.2 x).length+1).ble 140737488355328 then
  some (.tup [],Kn w ((y.1.filter fun x=>!pW y.2 x).length+1) (Be (y.1.filter fun x=>!pW y.2 x).length (D5 (y.1.filter fun x=>!pW y.2 x)) (.list [Ba ⟨v,y.2.src,y.2.sess,y.2.num⟩])) w.d.asks.length (B5 w.d.asks) w.out.length (BX w.out))else none else none:=by kernel_rfl
def Fa(w:Wrk)(v:Ver)(m:Msg):Wrk:={w with d:={w.d with waits:=(w.d.waits.filter fun x=>!pW m x)++[⟨v,m.src,m.sess,m.num⟩]}}
theorem aa3(w:Wrk)(v:Ver)(m:Msg)(h:w.d.waits.length<=100000):Aa PG Di [.ptr 0 0 0,eV v,.agg (Ac m)] (Bl w) (.tup []) (BG (Fa w v m))/\(Bl w).length<=(BG (Fa w v m)).length:=by
 refine conC (ak ahq AL) (c:=1) (n:=9) (by show 1<=4;omega) ((akq w v m).trans ?_)
 have hq:∀ {K:YW->Option (AV × Heap)},BF Zz SN ES (ES (w.d.waits,m)).1 (ES (w.d.waits,m)).2 K=K (w.d.waits,m):=fun {K}=>BT (w.d.waits,m) (sI _) h (.refl _) (.refl _)
 rw[hq]
 dsimp only
 generalize hW:(w.d.waits.filter fun x=>!pW m x)=W
 have hl:W.length<=100000:=by rw[<- hW];exact Nat.le_trans (List.length_filter_le _ _) h
 rw[Aq (Nat.le_refl _),Aq (show(W.length+1)*40<=140737488355328 by omega),Aq (show W.length+1<=140737488355328 by omega)]
 have:Be W.length (D5 W) (.list [Ba ⟨v,m.src,m.sess,m.num⟩])=D5 (W++[⟨v,m.src,m.sess,m.num⟩]):=uC _ _ _ _
 rw[this,show W.length+1=(W++[(⟨v,m.src,m.sess,m.num⟩:Wait)]).length by simp,Q0]
 unfold Fa
 rw[hW]
 rfl
abbrev WVM:=Wrk × Ver × Msg
def Z9(a:List AV)(h:Heap):WVM:=(Hf h,⟨(BE a 1).1,(BE a 1).2⟩,BI (AA a 2))
def Vz(p:WVM):List AV × Heap:=([.ptr 0 0 0,eV p.2.1,.agg (Ac p.2.2)],Bl p.1)
theorem iF(p:WVM):Z9 (Vz p).1 (Vz p).2=p:=Prod.ext (HM p.1) (Prod.ext rfl (C8 p.2.2))
def mS:Known:=.specG Di Z9 (fun p=>p.1.d.waits.length<=100000) Vz (fun p=>(.tup [],BG (Fa p.1 p.2.1 p.2.2)))
theorem aA:mS.Ok PG:=Known.specG_ok fun p h=>aa3 p.1 p.2.1 p.2.2 h
def eAn(l:List Known):Env:=BU [(CR,0,[0,1,4,5,21,22,23,4005999])] [(II,3),(CR,5),(Ea,0),(EJ,0)] [] l
def aa4:List Known:=[Up,Fz]
def ahW(w:Wrk)(v:Ver)(r l nL:Nat)(i:Int):Fr:=[(0,.ptr 0 0 0),(1,eV v),(4,.ptr r 0 0),(5,.sn 4 l nL),(21,.sn 4 1 w.d.waits.length),(22,.int .i64 w.d.waits.length),(23,.int .i64 i),(4005999,.undef)]
def hAn(w:Wrk)(nL:Nat)(FL:Nat->List AV):Heap:=[.arr true 44 [HQ w (.sn 4 1 w.d.waits.length) (.sn 3 2 w.d.asks.length) (.sn 31 3 w.out.length)],.seq true 4 w.d.waits.length (D5 w.d.waits),.seq true 3 w.d.asks.length (B5 w.d.asks),.seq true 31 w.out.length (BX w.out),.arr true 15 [Ag w.d.rep],.seq true 4 nL FL]
def iG(w:Wrk)(nO:Nat)(FO:Nat->List AV)(nL:Nat)(FL:Nat->List AV):Heap:=[.arr true 44 [HQ w (.sn 4 1 w.d.waits.length) (.sn 3 2 w.d.asks.length) (.sn 31 4 nO)],.seq true 4 w.d.waits.length (D5 w.d.waits),.seq true 3 w.d.asks.length (B5 w.d.asks),.dead,.seq true 31 nO FO,.arr true 15 [Ag w.d.rep],.seq true 4 nL FL]
def iH(w:Wrk)(v:Ver)(N m nL:Nat)(FL:Nat->List AV)(i:Int):Option (AV × Heap):=LP (eAn aa4) (N+1) 4 CR (Cr 1 4) 0 [] m {fr:=ahW w v 4 5 nL i,hp:=hAn w nL FL}
def Q9(w:Wrk)(v:Ver)(N m nO:Nat)(FO:Nat->List AV)(nL:Nat)(FL:Nat->List AV)(i:Int):Option (AV × Heap):=LP (eAn aa4) (N+1) 4 CR (Cr 1 4) 0 [] m {fr:=ahW w v 5 6 nL i,hp:=iG w nO FO nL FL}
theorem akr(N:Nat)(w:Wrk)(v:Ver):BA 1 (eAn aa4) (N+2) CR [AV.ptr 0 0 0,eV v] (Bl w)=iH w v N (N+1) 0 (fun _=>[]) 0:=by kernel_rfl
def Tm(w:Wrk)(x:Wait)(s:Seen):List AV:=[.int .i64 6,.int .i64 w.d.rep.self.node,.int .i64 x.dst,.int .i64 0,.int .i64 0,.int .i64 w.d.rep.shard,.int .i64 0,.int .i64 0,.int .i64 x.sess,.int .i64 x.num,.int .i64 0,.int .i64 s.code,.bool s.hasRes,.bool false,.str [],.str s.res,.cplx .f64 s.ver.re s.ver.im,.cplx .f64 0 0,.int .i64 0,.str [],.str [],.str [],.bool false,.nils,.nils,.nils,.cplx .f64 0 0,.cplx .f64 0 0,.int .i64 0,.nils,.nils]
theorem adj(N m:Nat)(w:Wrk)(v:Ver)(nL:Nat)(FL:Nat->List AV)(i:Int):iH w v N (m+1) nL FL i =
 bif decide (i<(w.d.waits.length:Int))then rg i w.d.waits.length (bif i.toNat.blt w.d.waits.length then
  gC Uo (fun p=>FM p.1) Ny [Ax w.d.rep.seen,.int .i64 (w.d.waits.getD i.toNat default).sess] fun y=>
  gC DA V2 Dz [eV v,eV (w.d.waits.getD i.toNat default).ver] fun z=>
  bif AH z.1 z.2 then bif nL.ble nL then bif((nL+1)*40).ble 140737488355328&&(nL+1).ble 140737488355328 then iH w v N m (nL+1) (Be nL FL (.list [Ba (w.d.waits.getD i.toNat default)])) (IntKind.i64.wrap (i+1))else none else none
  else bif decide ((Bt y.1 y.2).1.kind=5)then gC DA V2 Dz [eV w.d.rep.tail.floor,eV (w.d.waits.getD i.toNat default).ver] fun u=>bif AH u.1 u.2 then bif nL.ble nL then bif((nL+1)*40).ble 140737488355328&&(nL+1).ble 140737488355328 then iH w v N m (nL+1) (Be nL FL (.list [Ba (w.d.waits.getD i.toNat default)])) (IntKind.i64.wrap (i+1))else none else none
   else bif w.out.length.ble w.out.length then bif((w.out.length+1)*392).ble 140737488355328&&(w.out.length+1).ble 140737488355328 then Q9 w v N m (w.out.length+1) (Be w.out.length (BX w.out) (.list [Tm w (w.d.waits.getD i.toNat default) (Bt y.1 y.2).1])) nL FL (IntKind.i64.wrap (i+1))else none else none
  else bif w.out.length.ble w.out.length then bif((w.out.length+1)*392).ble 140737488355328&&(w.out.length+1).ble 140737488355328 then Q9 w v N m (w.out.length+1) (Be w.out.length (BX w.out) (.list [Tm w (w.d.waits.getD i.toNat default) (Bt y.1 y.2).1])) nL FL (IntKind.i64.wrap (i+1))else none else none else none)
 else some (.tup [],Kn w nL FL w.d.asks.length (B5 w.d.asks) w.out.length (BX w.out)):=by kernel_rfl
theorem adk(N m:Nat)(w:Wrk)(v:Ver)(nO:Nat)(FO:Nat->List AV)(nL:Nat)(FL:Nat->List AV)(i:Int):Q9 w v N (m+1) nO FO nL FL i =
 bif decide (i<(w.d.waits.length:Int))then rg i w.d.waits.length (bif i.toNat.blt w.d.waits.length then
  gC Uo (fun p=>FM p.1) Ny [Ax w.d.rep.seen,.int .i64 (w.d.waits.getD i.toNat default).sess] fun y=>
  gC DA V2 Dz [eV v,eV (w.d.waits.getD i.toNat default).ver] fun z=>
  bif AH z.1 z.2 then bif nL.ble nL then bif((nL+1)*40).ble 140737488355328&&(nL+1).ble 140737488355328 then Q9 w v N m nO FO (nL+1) (Be nL FL (.list [Ba (w.d.waits.getD i.toNat default)])) (IntKind.i64.wrap (i+1))else none else none
  else bif decide ((Bt y.1 y.2).1.kind=5)then gC DA V2 Dz [eV w.d.rep.tail.floor,eV (w.d.waits.getD i.toNat default).ver] fun u=>bif AH u.1 u.2 then bif nL.ble nL then bif((nL+1)*40).ble 140737488355328&&(nL+1).ble 140737488355328 then Q9 w v N m nO FO (nL+1) (Be nL FL (.list [Ba (w.d.waits.getD i.toNat default)])) (IntKind.i64.wrap (i+1))else none else none
   else bif nO.ble nO then bif((nO+1)*392).ble 140737488355328&&(nO+1).ble 140737488355328 then Q9 w v N m (nO+1) (Be nO FO (.list [Tm w (w.d.waits.getD i.toNat default) (Bt y.1 y.2).1])) nL FL (IntKind.i64.wrap (i+1))else none else none
  else bif nO.ble nO then bif((nO+1)*392).ble 140737488355328&&(nO+1).ble 140737488355328 then Q9 w v N m (nO+1) (Be nO FO (.list [Tm w (w.d.waits.getD i.toNat default) (Bt y.1 y.2).1])) nL FL (IntKind.i64.wrap (i+1))else none else none else none)
 else some (.tup [],Kn w nL FL w.d.asks.length (B5 w.d.asks) nO FO):=by kernel_rfl
theorem aa5(w:Wrk){n:Nat}{F G:Nat->List AV}{a:Nat}{A A':Nat->List AV}{b:Nat}{B:Nat->List AV}(hA:∀ i,i<a->Cg (A i) (A' i))(h:∀ i,i<n->Cg (F i) (G i)):HSub (Kn w a A b B n F) (Kn w a A' b B n G):=
 .cons (.refl _) (.cons (.refl _) (.cons (.refl _) (.cons (.refl _) (.cons (.seq true 4 a a A A' (Nat.le_refl _) hA) (.cons (.refl _) (.cons (.seq true 31 n n F G (Nat.le_refl _) h) .nil))))))
def Gk(w:Wrk)(v:Ver)(x:Wait):Bool:=AH v x.ver||(decide ((Bt w.d.rep.seen x.sess).1.kind=5)&&AH w.d.rep.tail.floor x.ver)
def aa6(w:Wrk)(x:Wait):Msg:={Mq w x.dst x.sess x.num (Bt w.d.rep.seen x.sess).1.code with has:=(Bt w.d.rep.seen x.sess).1.hasRes,val:=(Bt w.d.rep.seen x.sess).1.res,ver:=(Bt w.d.rep.seen x.sess).1.ver}
theorem aB(w:Wrk)(x:Wait):Cg (Tm w x (Bt w.d.rep.seen x.sess).1) (Ac (aa6 w x)):=Ei (by repeat' (first | exact trivial | exact Df | exact AR.refl _ | refine⟨?_,?_⟩))
def Hg(w:Wrk)(v:Ver)(l:List Wait):List Wait:=l.filter (Gk w v)
def Fb(w:Wrk)(v:Ver)(l:List Wait):List Msg:=(l.filter fun x=>!Gk w v x).map (aa6 w)
def KS(w:Wrk)(v:Ver):Wrk:={w with d:={w.d with waits:=Hg w v w.d.waits},out:=w.out++Fb w v w.d.waits}
def Tn(w:Wrk)(v:Ver):Prop:=FM w.d.rep.seen/\Au v/\Au w.d.rep.tail.floor/\w.d.waits.length<=100000/\w.out.length<=1000000 /\ ∀ x ∈ w.d.waits,Au x.ver
def Reads(n:Nat)(F:Nat->List AV)(l:List Msg):Prop:=n=l.length /\ ∀ j,j<n->Cg (F j) (BX l j)
theorem Reads.refl(l:List Msg):Reads l.length (BX l) l:=⟨rfl,fun _ _=>.refl _⟩
theorem Reads.app{n:Nat}{F:Nat->List AV}{l:List Msg}{cs:List AV}{x:Msg}(h:Reads n F l)(hx:Cg cs (Ac x)):Reads (n+1) (Be n F (.list [cs])) (l++[x]):=by
 obtain⟨rfl,h⟩:=h
 refine⟨by simp,fun j hj=>?_⟩
 by_cases hl:j<l.length
 ·rw[JW hl]
  have:BX (l++[x]) j=BX l j:=by
   unfold BX
   simp only[List.getD]
   rw[List.getElem?_append_left hl]
  rw[this];exact h j hl
 ·have:j=l.length:=by omega
  subst this
  rw[JX (Nat.le_refl _) (show l.length<l.length+1 by omega)]
  have:BX (l++[x]) l.length=Ac x:=by
   unfold BX
   simp only[List.getD]
   rw[List.getElem?_append_right (Nat.le_refl _),Nat.sub_self];rfl
  rw[this,Nat.sub_self];exact hx
def Sk(n:Nat)(F:Nat->List AV)(l:List Wait):Prop:=n=l.length /\ ∀ j,j<n->F j=D5 l j
theorem Sk.app{n:Nat}{F:Nat->List AV}{l:List Wait}(h:Sk n F l)(x:Wait):Sk (n+1) (Be n F (.list [Ba x])) (l++[x]):=by
 obtain⟨rfl,h⟩:=h
 refine⟨by simp,fun j hj=>?_⟩
 by_cases hl:j<l.length
 ·rw[JW hl,h j hl]
  unfold D5
  simp only[List.getD]
  rw[List.getElem?_append_left hl]
 ·have:j=l.length:=by omega
  subst this
  rw[JX (Nat.le_refl _) (show l.length<l.length+1 by omega)]
  unfold D5
  simp only[List.getD]
  rw[List.getElem?_append_right (Nat.le_refl _),Nat.sub_self];rfl
def Sl(w:Wrk)(W:List Wait)(O:List Msg)(r:Option (AV × Heap)):Prop:=∃ a A n F,Sk a A W/\Reads n F O/\r=some (.tup [],Kn w a A w.d.asks.length (B5 w.d.asks) n F)
theorem aks(w:Wrk)(v:Ver)(h:Tn w v)(N:Nat):∀ (d i m:Nat) (L:List Wait) (a:Nat) (A:Nat->List AV) (n:Nat) (F:Nat->List AV) (O:List Msg),i+d=w.d.waits.length->d<m->a<=i->Sk a A L->Reads n F O->n<=1000000+i ->
  Sl w (L++Hg w v (w.d.waits.drop i)) (O++Fb w v (w.d.waits.drop i)) (Q9 w v N m n F a A (i:Nat)):=by
 obtain⟨h1,h2,h3,h4,h5,h6⟩:=h
 intro d
 induction d with
 | zero=>
  intro i m L a A n F O hi hm hL hW hR hn
  obtain⟨m,rfl⟩:∃ k,m=k+1:=⟨m - 1,by omega⟩
  rw[adk,decide_eq_false (by omega),cond_false,List.drop_eq_nil_of_le (by omega)]
  exact⟨a,A,n,F,by simpa [Hg] using hW,by simpa [Fb] using hR,rfl⟩
 | succ d ih=>
  intro i m L a A n F O hi hm hL hW hR hn
  obtain⟨m,rfl⟩:∃ k,m=k+1:=⟨m - 1,by omega⟩
  have hil:i<w.d.waits.length:=by omega
  have hx:=h6 _ (getD_mem (z:=(default:Wait)) hil)
  have hd:=drop_cons (z:=(default:Wait)) hil
  have hw:IntKind.i64.wrap ((i:Int)+1)=((i+1:Nat):Int):=Bz (by omega)
  generalize hX:w.d.waits.getD i default=x at *
  have eE:Gk w v x=true->Sl w (L++Hg w v (w.d.waits.drop i)) (O++Fb w v (w.d.waits.drop i)) (Q9 w v N m n F (a+1) (Be a A (.list [Ba x])) ((i+1:Nat):Int)):=by
   intro he
   have k:=ih (i+1) m (L++[x]) _ _ n F O (by omega) (by omega) (by omega) (hW.app x) hR (by omega)
   rw[hd]
   simpa [Hg,Fb,he] using k
  have eL:Gk w v x=false->Sl w (L++Hg w v (w.d.waits.drop i)) (O++Fb w v (w.d.waits.drop i)) (Q9 w v N m (n+1) (Be n F (.list [Tm w x (Bt w.d.rep.seen x.sess).1])) a A ((i+1:Nat):Int)):=by
   intro he
   have k:=ih (i+1) m L a A _ _ _ (by omega) (by omega) (by omega) hW (hR.app (aB w x)) (by omega)
   rw[hd]
   simpa [Hg,Fb,he] using k
  have t1:∀ {K:SI->Option (AV × Heap)},gC Uo (fun p=>FM p.1) Ny [Ax w.d.rep.seen,.int .i64 x.sess] K=K (w.d.rep.seen,x.sess):=fun {K}=>Uq h1
  have t2:∀ {K:Ver × Ver->Option (AV × Heap)},gC DA V2 Dz [eV v,eV x.ver] K=K (v,x.ver):=fun {K}=>Jj h2 hx
  have t3:∀ {K:Ver × Ver->Option (AV × Heap)},gC DA V2 Dz [eV w.d.rep.tail.floor,eV x.ver] K=K (w.d.rep.tail.floor,x.ver):=fun {K}=>Jj h3 hx
  rw[adk,decide_eq_true (show((i:Nat):Int)<(w.d.waits.length:Int) by omega),cond_true,Bq hil,Int.toNat_natCast,AB hil,cond_true,hX,t1,t2,hw,Aq (Nat.le_refl a),Aq (show(a+1)*40<=140737488355328 by omega),Aq (show a+1<=140737488355328 by omega),Aq (Nat.le_refl n),Aq (show(n+1)*392<=140737488355328 by omega),Aq (show n+1<=140737488355328 by omega)]
  dsimp only [Bool.and_true,cond_true]
  cases c1:AH v x.ver with
  | true=>exact eE (by simp[Gk,c1])
  | false=>
   rw[cond_false]
   cases c2:decide ((Bt w.d.rep.seen x.sess).1.kind=5)with
   | false=>exact eL (by simp[Gk,c1,c2])
   | true=>
    rw[cond_true,t3]
    cases c3:AH w.d.rep.tail.floor x.ver with
    | true=>exact eE (by simp[Gk,c1,c2,c3])
    | false=>exact eL (by simp[Gk,c1,c2,c3])
theorem akt(w:Wrk)(v:Ver)(h:Tn w v)(N:Nat):∀ (d i m:Nat) (L:List Wait) (a:Nat) (A:Nat->List AV),i+d=w.d.waits.length->d<m->a<=i->Sk a A L ->
  Sl w (L++Hg w v (w.d.waits.drop i)) (w.out++Fb w v (w.d.waits.drop i)) (iH w v N m a A (i:Nat)):=by
 have hB:=aks w v h N
 obtain⟨h1,h2,h3,h4,h5,h6⟩:=h
 intro d
 induction d with
 | zero=>
  intro i m L a A hi hm hL hW
  obtain⟨m,rfl⟩:∃ k,m=k+1:=⟨m - 1,by omega⟩
  rw[adj,decide_eq_false (by omega),cond_false,List.drop_eq_nil_of_le (by omega)]
  exact⟨a,A,_,_,by simpa [Hg] using hW,by simpa [Fb] using Reads.refl w.out,rfl⟩
 | succ d ih=>
  intro i m L a A hi hm hL hW
  obtain⟨m,rfl⟩:∃ k,m=k+1:=⟨m - 1,by omega⟩
  have hil:i<w.d.waits.length:=by omega
  have hx:=h6 _ (getD_mem (z:=(default:Wait)) hil)
  have hd:=drop_cons (z:=(default:Wait)) hil
  have hw:IntKind.i64.wrap ((i:Int)+1)=((i+1:Nat):Int):=Bz (by omega)
  generalize hX:w.d.waits.getD i default=x at *
  have eE:Gk w v x=true->Sl w (L++Hg w v (w.d.waits.drop i)) (w.out++Fb w v (w.d.waits.drop i)) (iH w v N m (a+1) (Be a A (.list [Ba x])) ((i+1:Nat):Int)):=by
   intro he
   have k:=ih (i+1) m (L++[x]) _ _ (by omega) (by omega) (by omega) (hW.app x)
   rw[hd]
   simpa [Hg,Fb,he] using k
  have eL:Gk w v x=false->Sl w (L++Hg w v (w.d.waits.drop i)) (w.out++Fb w v (w.d.waits.drop i)) (Q9 w v N m (w.out.length+1) (Be w.out.length (BX w.out) (.list [Tm w x (Bt w.d.rep.seen x.sess).1])) a A ((i+1:Nat):Int)):=by
   intro he
   have k:=hB d (i+1) m L a A _ _ _ (by omega) (by omega) (by omega) hW ((Reads.refl w.out).app (aB w x)) (by omega)
   rw[hd]
   simpa [Hg,Fb,he] using k
  have t1:∀ {K:SI->Option (AV × Heap)},gC Uo (fun p=>FM p.1) Ny [Ax w.d.rep.seen,.int .i64 x.sess] K=K (w.d.rep.seen,x.sess):=fun {K}=>Uq h1
  have t2:∀ {K:Ver × Ver->Option (AV × Heap)},gC DA V2 Dz [eV v,eV x.ver] K=K (v,x.ver):=fun {K}=>Jj h2 hx
  have t3:∀ {K:Ver × Ver->Option (AV × Heap)},gC DA V2 Dz [eV w.d.rep.tail.floor,eV x.ver] K=K (w.d.rep.tail.floor,x.ver):=fun {K}=>Jj h3 hx
  rw[adj,decide_eq_true (show((i:Nat):Int)<(w.d.waits.length:Int) by omega),cond_true,Bq hil,Int.toNat_natCast,AB hil,cond_true,hX,t1,t2,hw,Aq (Nat.le_refl a),Aq (show(a+1)*40<=140737488355328 by omega),Aq (show a+1<=140737488355328 by omega),Aq (Nat.le_refl w.out.length),Aq (show(w.out.length+1)*392<=140737488355328 by omega),Aq (show w.out.length+1<=140737488355328 by omega)]
  dsimp only [Bool.and_true,cond_true]
  cases c1:AH v x.ver with
  | true=>exact eE (by simp[Gk,c1])
  | false=>
   rw[cond_false]
   cases c2:decide ((Bt w.d.rep.seen x.sess).1.kind=5)with
   | false=>exact eL (by simp[Gk,c1,c2])
   | true=>
    rw[cond_true,t3]
    cases c3:AH w.d.rep.tail.floor x.ver with
    | true=>exact eE (by simp[Gk,c1,c2,c3])
    | false=>exact eL (by simp[Gk,c1,c2,c3])
theorem mT(w:Wrk)(v:Ver)(h:Tn w v):Aa PG CR [.ptr 0 0 0,eV v] (Bl w) (.tup []) (BG (KS w v))/\(Bl w).length<=(BG (KS w v)).length:=by
 obtain⟨N,hN⟩:∃ N,N=200000:=⟨_,rfl⟩
 have h4:=h.2.2.2.1
 obtain⟨a,A,n,F,hW,hR,e⟩:=akt w v h N w.d.waits.length 0 (N+1) [] 0 (fun _=>[]) (by omega) (by omega) (Nat.zero_le _) ⟨rfl,fun j hj=>absurd hj (Nat.not_lt_zero j)⟩
 rw[List.drop_zero]at hR hW
 rw[List.nil_append]at hW
 have c:=conC (ak Pw (ak DW AL)) (c:=1) (n:=N+2) (by show 1<=4;omega) ((akr N w v).trans e)
 refine⟨?_,by show 4<=7;omega⟩
 obtain⟨hn,hF⟩:=hR
 obtain⟨ha,hA⟩:=hW
 subst hn
 subst ha
 have hd:BG (KS w v)=Kn w (Hg w v w.d.waits).length (D5 (Hg w v w.d.waits)) w.d.asks.length (B5 w.d.asks) (w.out++Fb w v w.d.waits).length (BX (w.out++Fb w v w.d.waits)):=by
  rw[Q0];rfl
 rw[hd]
 exact c.1.resub (.refl _) (aa5 w (fun i hi=>by rw[hA i hi];exact .refl _) hF)
abbrev WV:=Wrk × Ver
def aC(a:List AV)(h:Heap):WV:=(Hf h,⟨(BE a 1).1,(BE a 1).2⟩)
def Xh(p:WV):List AV × Heap:=([.ptr 0 0 0,eV p.2],Bl p.1)
theorem uD(p:WV):aC (Xh p).1 (Xh p).2=p:=Prod.ext (HM p.1) rfl
def iI:Known:=.specG CR aC (fun p=>Tn p.1 p.2) Xh (fun p=>(.tup [],BG (KS p.1 p.2)))
theorem mU:iI.Ok PG:=Known.specG_ok fun p h=>mT p.1 p.2 h
def eCn(l:List Known):Env:=BU [(Ct,0,[0,1,4,5,21,22,23,1004]),(Ct,2,[0,1,5,35,36,37])] [(Ct,5),(F9,0),(EJ,0)] [] l
def mV:List Known:=[Fz,aau]
def hCn(w:Wrk)(M:MC):Heap:=[.arr true 44 [HQ w (.sn 4 1 w.d.waits.length) (.sn 3 2 w.d.asks.length) (.sn 31 3 w.out.length)],.seq true 4 w.d.waits.length (D5 w.d.waits),.seq true 3 w.d.asks.length (B5 w.d.asks),.seq true 31 w.out.length (BX w.out),.pmap true M.1 fun k=>.int .i64 (M.2 k)]
def aD(w:Wrk)(v:Ver)(N m:Nat)(M:MC)(i:Int):Option (AV × Heap):=LP (eCn mV) N 4 Ct (Cr 1 4) 0 [] m {fr:=[(0,.ptr 0 0 0),(1,eV v),(4,Ae w.d.rep.tail.log),(5,.mp 4),(21,Ae w.d.rep.tail.log),(22,.int .i64 w.d.rep.tail.log.length),(23,.int .i64 i),(1004,.undef)],hp:=hCn w M}
def P6(w:Wrk)(v:Ver)(N m:Nat)(M:MC)(i:Int):Option (AV × Heap):=LP (eCn mV) N 4 Ct (Cr 1 4) 2 [] m {fr:=[(0,.ptr 0 0 0),(1,eV v),(5,.mp 4),(35,Ae w.d.rep.tail.log),(36,.int .i64 w.d.rep.tail.log.length),(37,.int .i64 i)],hp:=hCn w M}
def Hh(w:Wrk)(C:List Itm):Wrk:={w with d:={w.d with clean:=C}}
theorem aku(N:Nat)(w:Wrk)(v:Ver):BA 1 (eCn mV) (N+1) Ct [.ptr 0 0 0,eV v] (Bl w)=aD w v N N ([],fun _=>0) 0:=by kernel_rfl
def L0f(w:Wrk)(v:Ver)(N m:Nat)(ks:List Txt)(val:Txt->AV)(i:Int):Option (AV × Heap):=LP (eCn mV) N 4 Ct (Cr 1 4) 0 [] m {fr:=[(0,.ptr 0 0 0),(1,eV v),(4,Ae w.d.rep.tail.log),(5,.mp 4),(21,Ae w.d.rep.tail.log),(22,.int .i64 w.d.rep.tail.log.length),(23,.int .i64 i),(1004,.undef)],hp:=[.arr true 44 [HQ w (.sn 4 1 w.d.waits.length) (.sn 3 2 w.d.asks.length) (.sn 31 3 w.out.length)],.seq true 4 w.d.waits.length (D5 w.d.waits),.seq true 3 w.d.asks.length (B5 w.d.asks),.seq true 31 w.out.length (BX w.out),.pmap true ks val]}
theorem ahX(N m:Nat)(w:Wrk)(v:Ver)(M:MC)(i:Int):aD w v N (m+1) M i =
 bif decide (i<(w.d.rep.tail.log.length:Int))then rg i w.d.rep.tail.log.length (bif(w.d.rep.tail.log.getD i.toNat default).write then L0f w v N m (Gy M.1 (w.d.rep.tail.log.getD i.toNat default).key) (fun x=>bif Ah x (w.d.rep.tail.log.getD i.toNat default).key then .int .i64 i else .int .i64 (M.2 x)) (IntKind.i64.wrap (i+1))else aD w v N m M (IntKind.i64.wrap (i+1)))
 else P6 w v N N M 0:=by kernel_rfl
theorem adl(N m:Nat)(w:Wrk)(v:Ver)(M:MC)(i:Int):aD w v N (m+1) M i =
 bif decide (i<(w.d.rep.tail.log.length:Int))then rg i w.d.rep.tail.log.length (bif(w.d.rep.tail.log.getD i.toNat default).write then aD w v N m (Gy M.1 (w.d.rep.tail.log.getD i.toNat default).key,Dx M.2 (w.d.rep.tail.log.getD i.toNat default).key i) (IntKind.i64.wrap (i+1))else aD w v N m M (IntKind.i64.wrap (i+1)))
 else P6 w v N N M 0:=by
 rw[ahX]
 have:∀ (k:Txt) (j:Int),(fun x=>bif Ah x k then AV.int .i64 j else .int .i64 (M.2 x))=fun x=>AV.int .i64 (Dx M.2 k j x):=fun k j=>by
  funext x
  unfold Dx
  cases Ah x k <;> rfl
 rw[this];rfl
def Eu(e:Entry):Itm:=⟨e.key,bif !e.del then e.val else [],!e.del,e.ver⟩
def Uy(w:Wrk)(v:Ver)(N m:Nat)(M:MC)(e:Entry)(i:Int):Option (AV × Heap):=
 bif !e.del then gC (fun a=>(AN Bd (a.getD 0 .nils),Bd (AA a 1),Ar a 2)) LJ QT [Al w.d.clean,.agg [.str e.key,.str e.val,.bool !e.del,.cplx .f64 e.ver.re e.ver.im],.int .i64 w.c.room] fun y=>P6 (Hh w (putP y)) v N m M i
 else gC (fun a=>(AN Bd (a.getD 0 .nils),Bd (AA a 1),Ar a 2)) LJ QT [Al w.d.clean,.agg [.str e.key,.str [],.bool !e.del,.cplx .f64 e.ver.re e.ver.im],.int .i64 w.c.room] fun y=>P6 (Hh w (putP y)) v N m M i
theorem adm(N m:Nat)(w:Wrk)(v:Ver)(M:MC)(i:Int):P6 w v N (m+1) M i =
 bif decide (i<(w.d.rep.tail.log.length:Int))then rg i w.d.rep.tail.log.length (gC DA V2 Dz [eV v,eV (w.d.rep.tail.log.getD i.toNat default).ver] fun y=>
  bif AH y.1 y.2 then some (.tup [],BG w)else
  bif !(w.d.rep.tail.log.getD i.toNat default).write then P6 w v N m M (IntKind.i64.wrap (i+1))else
  bif BH (w.d.rep.tail.log.getD i.toNat default).key M.1 then bif !decide (M.2 (w.d.rep.tail.log.getD i.toNat default).key=i)then P6 w v N m M (IntKind.i64.wrap (i+1))else Uy w v N m M (w.d.rep.tail.log.getD i.toNat default) (IntKind.i64.wrap (i+1))
  else bif !decide (0=i)then P6 w v N m M (IntKind.i64.wrap (i+1))else Uy w v N m M (w.d.rep.tail.log.getD i.toNat default) (IntKind.i64.wrap (i+1)))
 else some (.tup [],BG w):=by kernel_rfl
def Sm(M:MC)(i:Nat)(e:Entry):MC:=bif e.write then(Gy M.1 e.key,Dx M.2 e.key (i:Int))else M
def CU:List Entry->Nat->MC->MC
 | [],_,M=>M
 | e::r,i,M=>CU r (i+1) (Sm M i e)
def OE(M:MC)(i:Nat)(e:Entry):Bool:=e.write&&decide ((bif BH e.key M.1 then M.2 e.key else 0)=(i:Int))
def Ix(room:Int)(M:MC)(i:Nat)(e:Entry)(C:List Itm):List Itm:=bif OE M i e then putP (C,Eu e,room)else C
def GW(v:Ver)(room:Int)(M:MC):List Entry->Nat->List Itm->List Itm
 | [],_,C=>C
 | e::r,i,C=>bif AH v e.ver then C else GW v room M r (i+1) (Ix room M i e C)
def uE(v:Ver)(room:Int)(log:List Entry)(C:List Itm):List Itm:=GW v room (CU log 0 ([],fun _=>0)) log 0 C
def Ez(w:Wrk)(v:Ver):Wrk:=Hh w (uE v w.c.room w.d.rep.tail.log w.d.clean)
def aF(w:Wrk)(v:Ver):Prop:=Au v/\(∀ e ∈ w.d.rep.tail.log,Au e.ver/\Um e)/\GS w.d.clean/\w.d.clean.length+w.d.rep.tail.log.length<=9000
theorem ahY(w:Wrk)(v:Ver)(hl:w.d.rep.tail.log.length<=9000)(N:Nat):∀ (d i m:Nat) (M:MC),i+d=w.d.rep.tail.log.length->d<m->aD w v N m M (i:Nat)=P6 w v N N (CU (w.d.rep.tail.log.drop i) i M) ((0:Nat):Int):=by
 intro d
 induction d with
 | zero=>
  intro i m M hi hm
  obtain⟨m,rfl⟩:∃ k,m=k+1:=⟨m - 1,by omega⟩
  rw[adl,decide_eq_false (by omega),cond_false,List.drop_eq_nil_of_le (by omega)];rfl
 | succ d ih=>
  intro i m M hi hm
  obtain⟨m,rfl⟩:∃ k,m=k+1:=⟨m - 1,by omega⟩
  have hil:i<w.d.rep.tail.log.length:=by omega
  have hd:=drop_cons (z:=(default:Entry)) hil
  have hw:IntKind.i64.wrap ((i:Int)+1)=((i+1:Nat):Int):=Bz (by omega)
  rw[adl,decide_eq_true (show((i:Nat):Int)<(w.d.rep.tail.log.length:Int) by omega),cond_true,Bq hil,Int.toNat_natCast,hw,hd]
  generalize w.d.rep.tail.log.getD i default=e
  unfold CU Sm
  cases hwr:e.write with
  | true=>exact ih (i+1) m _ (by omega) (by omega)
  | false=>exact ih (i+1) m M (by omega) (by omega)
theorem ae2{e:Entry}(h:Um e):EZ (Eu e):=by
 have h1:=h.1;have h2:=h.2
 unfold Eu EZ
 dsimp only
 cases e.del
 ·exact⟨h1,h2⟩
 ·exact⟨h1,Nat.zero_le _⟩
theorem PD(p:LX):(putP p).length<=p.1.length+1:=by
 unfold putP
 have:=ZC p.2.2 (Cd p.1 p.2.1.key++[p.2.1])
 have:=KR p.1 p.2.1.key
 simp at *;omega
theorem aG(room:Int):∀ l,∀ x ∈ NZ room l,x ∈ l
 | [],x,h=>h
 | y::r,x,h=>by
  unfold NZ at h
  cases hc:decide (room<(GA (y::r):Int))with
  | true=>rw[hc]at h;exact List.mem_cons_of_mem _ (aG room r x h)
  | false=>rw[hc]at h;exact h
theorem Tp(p:LX):∀ x ∈ putP p,x ∈ p.1\/x=p.2.1:=by
 intro x hx
 have:=aG _ _ x hx
 rcases List.mem_append.1 this with h | h
 ·exact .inl (List.mem_filter.1 h).1
 ·exact .inr (by simpa using h)
theorem ae3{p:LX}(h:LJ p):GS (putP p):=by
 refine⟨?_,fun x hx=>?_⟩
 ·have:=PD p;have:=h.2.2;omega
 ·rcases Tp p x hx with h1 | h1
  ·exact h.1.2 x h1
  ·exact h1 ▸ h.2.1
theorem aa7{w:Wrk}{v:Ver}{N m:Nat}{M:MC}{e:Entry}{i:Int}(h:LJ (w.d.clean,Eu e,w.c.room)):Uy w v N m M e i=P6 (Hh w (putP (w.d.clean,Eu e,w.c.room))) v N m M i:=by
 have key:∀ (x:Itm) {K:LX->Option (AV × Heap)},LJ (w.d.clean,x,w.c.room)->gC (fun a=>(AN Bd (a.getD 0 .nils),Bd (AA a 1),Ar a 2)) LJ QT [Al w.d.clean,.agg [.str x.key,.str x.val,.bool x.has,.cplx .f64 x.ver.re x.ver.im],.int .i64 w.c.room] K=K (w.d.clean,x,w.c.room):=
  fun x {K} h=>Aw (w.d.clean,x,w.c.room) (Prod.ext (E1 w.d.clean) rfl) h (.refl _)
 unfold Uy
 cases hd:e.del with
 | true=>
  have he:Eu e=⟨e.key,[],false,e.ver⟩:=by unfold Eu;rw[hd];rfl
  rw[he]at h ⊢
  rw[Bool.not_true,cond_false,key ⟨e.key,[],false,e.ver⟩ h]
 | false=>
  have he:Eu e=⟨e.key,e.val,true,e.ver⟩:=by unfold Eu;rw[hd];rfl
  rw[he]at h ⊢
  rw[Bool.not_false,cond_true,key ⟨e.key,e.val,true,e.ver⟩ h]
theorem ahZ(v:Ver)(hv:Au v)(N:Nat)(M:MC)(log:List Entry)(hg:∀ e ∈ log,Au e.ver/\Um e)(h9:log.length<=9000)(room:Int):∀ (d i m:Nat) (w:Wrk),w.d.rep.tail.log=log->w.c.room=room->GS w.d.clean->w.d.clean.length+d<=9000->i+d=log.length->d<m ->
  P6 w v N m M (i:Nat)=some (.tup [],BG (Hh w (GW v room M (log.drop i) i w.d.clean))):=by
 intro d
 induction d with
 | zero=>
  intro i m w hL hR hC hn hi hm
  obtain⟨m,rfl⟩:∃ k,m=k+1:=⟨m - 1,by omega⟩
  rw[adm,hL,decide_eq_false (by omega),cond_false,List.drop_eq_nil_of_le (by omega)];rfl
 | succ d ih=>
  intro i m w hL hR hC hn hi hm
  obtain⟨m,rfl⟩:∃ k,m=k+1:=⟨m - 1,by omega⟩
  have hil:i<log.length:=by omega
  have hd:=drop_cons (z:=(default:Entry)) hil
  have hw:IntKind.i64.wrap ((i:Int)+1)=((i+1:Nat):Int):=Bz (by omega)
  obtain⟨g1,g2⟩:=hg _ (getD_mem (z:=(default:Entry)) hil)
  rw[adm,hL,decide_eq_true (show((i:Nat):Int)<(log.length:Int) by omega),cond_true,Bq hil,Int.toNat_natCast,hw,hd]
  generalize log.getD i default=e at *
  have t2:∀ {K:Ver × Ver->Option (AV × Heap)},gC DA V2 Dz [eV v,eV e.ver] K=K (v,e.ver):=fun {K}=>Jj hv g1
  rw[t2]
  unfold GW
  dsimp only
  cases c1:AH v e.ver with
  | true=>rfl
  | false=>
   rw[cond_false,cond_false]
   have skip:OE M i e=false->P6 w v N m M ((i+1:Nat):Int)=some (.tup [],BG (Hh w (GW v room M (log.drop (i+1)) (i+1) (Ix room M i e w.d.clean)))):=by
    intro h
    unfold Ix
    rw[h,cond_false]
    exact ih (i+1) m w hL hR hC (by omega) (by omega) (by omega)
   have put:OE M i e=true->Uy w v N m M e ((i+1:Nat):Int)=some (.tup [],BG (Hh w (GW v room M (log.drop (i+1)) (i+1) (Ix room M i e w.d.clean)))):=by
    intro h
    have hp:LJ (w.d.clean,Eu e,w.c.room):=⟨hC,ae2 g2,by show w.d.clean.length<=10000;omega⟩
    have hl:=PD (w.d.clean,Eu e,w.c.room)
    unfold Ix
    rw[h,cond_true,aa7 hp,hR]
    rw[hR]at hp hl
    exact ih (i+1) m (Hh w (putP (w.d.clean,Eu e,room))) hL hR (ae3 hp) (by show(putP (w.d.clean,Eu e,room)).length+d<=9000;simp only at hl;omega) (by omega) (by omega)
   unfold OE at skip put
   cases c2:e.write with
   | false=>exact skip (by rw[c2];rfl)
   | true=>
    rw[c2]at skip put
    rw[Bool.not_true,cond_false]
    cases c3:BH e.key M.1 with
    | true=>
     rw[c3]at skip put
     rw[cond_true]
     cases c4:decide (M.2 e.key=(i:Int))with
     | true=>exact put (by rw[cond_true,c4];rfl)
     | false=>exact skip (by rw[cond_true,c4];rfl)
    | false=>
     rw[c3]at skip put
     rw[cond_false]
     cases c4:decide ((0:Int)=(i:Int))with
     | true=>exact put (by rw[cond_false,c4];rfl)
     | false=>exact skip (by rw[cond_false,c4];rfl)
theorem uF(w:Wrk)(v:Ver)(h:aF w v):Aa PG Ct [.ptr 0 0 0,eV v] (Bl w) (.tup []) (BG (Ez w v))/\(Bl w).length<=(BG (Ez w v)).length:=by
 obtain⟨N,hN⟩:∃ N,N=200000:=⟨_,rfl⟩
 obtain⟨h1,h2,h3,h4⟩:=h
 have e1:=ahY w v (by omega) N w.d.rep.tail.log.length 0 N ([],fun _=>0) (by omega) (by omega)
 have e2:=ahZ v h1 N (CU (w.d.rep.tail.log.drop 0) 0 ([],fun _=>0)) w.d.rep.tail.log h2 (by omega) w.c.room w.d.rep.tail.log.length 0 N w rfl rfl h3 h4 (by omega) (by omega)
 have e:=(aku N w v).trans (e1.trans e2)
 rw[List.drop_zero]at e
 exact conC (ak DW (ak gN AL)) (c:=1) (n:=N+1) (by show 1<=4;omega) e
def uG:Known:=.specG Ct aC (fun p=>aF p.1 p.2) Xh (fun p=>(.tup [],BG (Ez p.1 p.2)))
theorem uH:uG.Ok PG:=Known.specG_ok fun p h=>uF p.1 p.2 h
end Go.Hd
end
noncomputable section
namespace Go.Proofs
open Go.RowKit Go.Shelf
attribute [local go_sem] Oper.semAt_some
namespace Bw
structure EV where
 re:Nat
 im:Nat
 kind:Int
 key:ByteArray
 val:ByteArray
 write:Bool
 del:Bool
 sess:Int
 num:Int
 code:Int
 res:ByteArray
 hasRes:Bool
def EV.cells(e:EV):Array Value:=#[.complex .f64 e.re e.im,.int .i64 e.kind,.string e.key,.string e.val,.bool e.write,.bool e.del,.int .i64 e.sess,.int .i64 e.num,.int .i64 e.code,.string e.res,.bool e.hasRes]
def back(n:Nat)(zs:Nat->EV)(k:Nat):List (Nat × EV):=(List.range k).map fun j=>(n - 1 - j,zs (n - 1 - j))
theorem Ra(n:Nat)(zs:Nat->EV)(k:Nat):back n zs (k+1)=back n zs k++[(n - 1 - k,zs (n - 1 - k))]:=by simp[back,List.range_succ]
theorem dH(n:Nat)(zs:Nat->EV)(k:Nat):(back n zs k).length=k:=by simp[back]
abbrev aa8(x:Nat × EV):Array Value:=#[.int .i64 (x.1:Int),.agg x.2.cells]
set_option maxRecDepth 100000 in
set_option maxHeartbeats 4000000 in
theorem akv(F:Fence)(n:Nat)(h7:F.fn 57)(hro:F.round=none)(hn:1<=n)(l Bs n₀ b off len cap:Nat)(sa:Option Addr)(zs:Nat->EV)(hreach:len<=1000000000)(ha:0<len->sa=some ⟨b,off,none⟩/\b<n₀)(J Jx:List (Nat × EV)->World->Prop)
  (hY:∀ pre x W,J pre W->pre.length<len->YieldAt F (n - 1) Tryz.prog l (aa8 x) W fun e W'=>
   (e=.returned (.bool true)/\J (pre++[x]) W'/\Below n₀ W W')\/(e=.returned (.bool false)/\Jx (pre++[x]) W'))
  (W:World) (hBs:W.cell? ⟨Bs,0,none⟩=some (.slice sa len cap)) (iG:Bs<n₀) (hc:∀ i j v,i<len->(zs i).cells[j]? = some v->W.cell? ⟨b,off+i*11+j,none⟩=some v) (h0:J [] W) :
  CallsIn F n Tryz.prog 57 #[.func (.yield l) #[] #[],.pointer (some ⟨Bs,0,none⟩)] W fun e W'=>(∃ v,e=.returned v) /\
   (J (back len zs len) W'\/(∃ k,k<=len/\Jx (back len zs k) W')):=by
 refine callsIn_of_wp Tryz.func57 rfl h7 ?_ hro
 simp only[Tryz.ntmps57,List.size_toArray,List.length_cons,List.length_nil,Nat.reduceAdd,Nat.reduceSub,Array.replicate_succ,Array.replicate_zero,List.push_toArray,List.append_toArray,List.nil_append,List.cons_append]
 gi_wp2
 gi_loopw [3] (fun i wr=>∃ k:Nat,k<=len/\i=.int .i64 ((len:Int) - 1 - k)/\J (back len zs k) wr/\Below n₀ W wr)
  (fun i _=>((intOf i)+1).toNat)
 case atStart=>exact⟨0,Nat.zero_le _,by simp,h0,Below.refl _ _⟩
 case round=>
  obtain⟨k,hk,rfl,hJs,hnx⟩:=hrel
  have hBw:=(hnx.cell (p:=⟨Bs,0,none⟩) iG).trans hBs
  by_cases hlt:k<len
  ·obtain⟨rfl,hb⟩:=ha (by omega)
   obtain⟨q,hq⟩:∃ q,q=len - 1 - k:=⟨_,rfl⟩
   have hq2:(len:Int) - 1 - k=(q:Int):=by omega
   have hql:q<len:=by omega
   rw[hq2]
   have hx:=fun j v e=>(hnx.cell (p:=⟨b,off+q*11+j,none⟩) hb).trans (hc q j v hql e)
   have x0:wr.cell? ⟨b,off+q*11,none⟩=some (.complex .f64 (zs q).re (zs q).im):=hx 0 _ rfl
   have x1:wr.cell? ⟨b,off+q*11+1,none⟩=some (.int .i64 (zs q).kind):=hx 1 _ rfl
   have x2:wr.cell? ⟨b,off+q*11+2,none⟩=some (.string (zs q).key):=hx 2 _ rfl
   have x3:wr.cell? ⟨b,off+q*11+3,none⟩=some (.string (zs q).val):=hx 3 _ rfl
   have x4:wr.cell? ⟨b,off+q*11+4,none⟩=some (.bool (zs q).write):=hx 4 _ rfl
   have x5:wr.cell? ⟨b,off+q*11+5,none⟩=some (.bool (zs q).del):=hx 5 _ rfl
   have x6:wr.cell? ⟨b,off+q*11+6,none⟩=some (.int .i64 (zs q).sess):=hx 6 _ rfl
   have x7:wr.cell? ⟨b,off+q*11+7,none⟩=some (.int .i64 (zs q).num):=hx 7 _ rfl
   have x8:wr.cell? ⟨b,off+q*11+8,none⟩=some (.int .i64 (zs q).code):=hx 8 _ rfl
   have x9:wr.cell? ⟨b,off+q*11+9,none⟩=some (.string (zs q).res):=hx 9 _ rfl
   have x10:wr.cell? ⟨b,off+q*11+10,none⟩=some (.bool (zs q).hasRes):=hx 10 _ rfl
   clear hx
   have HD:Hid (q=len - 1 - k):=hq
   clear hq hq2
   obtain⟨fn,tmps,assign,body,hy,hR⟩:=hY _ (q,zs q) wr hJs (by rw[dH];exact hlt)
   dsimp only [aa8,EV.cells]at hy
   gi_wp2
   refine hR.mono ?_
   rintro e W3 (⟨rfl,hJ3,hk3⟩ | ⟨rfl,hJx3⟩)
   ·gi_wp2
    have hq:=HD.out
    go_roundw
    case rel=>exact⟨k+1,by omega,by simp;omega,by rw[Ra,<- hq];exact hJ3,hnx.trans hk3⟩
    case measure=>simp[intOf]
   ·gi_wp2
    have hq:=HD.out
    refine bodyPost_ret (results_none rfl _ _ _) rfl ?_
    exact⟨⟨_,rfl⟩,.inr ⟨k+1,by omega,by rw[Ra,<- hq];exact hJx3⟩⟩
  ·obtain rfl:k=len:=by omega
   have hq2:(k:Int) - 1 - k = -1:=by omega
   rw[hq2]
   gi_wp2
   go_end0
   exact⟨⟨_,rfl⟩,.inl hJs⟩
theorem mW(F:Fence)(n:Nat)(h7:F.fn 57)(hro:F.round=none)(hn:1<=n)(Bs n₀ b off len cap:Nat)(sa:Option Addr)(zs:Nat->EV)(hreach:len<=1000000000)(ha:0<len->sa=some ⟨b,off,none⟩/\b<n₀)(w:World)(hn₀:n₀<=w.heap.size)(iG:Bs<n₀)
  (hBs:w.cell? ⟨Bs,0,none⟩=some (.slice sa len cap)) (hc:∀ i j v,i<len->(zs i).cells[j]? = some v->w.cell? ⟨b,off+i*11+j,none⟩=some v) :
  SeqStopsK F n Tryz.prog 57 #[.pointer (some ⟨Bs,0,none⟩)] aa8 (Below n₀) (fun ys=>ys=back len zs len) (fun pre=>∃ k,k<=len/\pre=back len zs k) len w:=fun l J Jx W hW _ _ hY h0=>by
 have hW0:=hW.mono hn₀
 refine(akv F n h7 hro hn l Bs n₀ b off len cap sa zs hreach ha J Jx hY W ((hW0.cell (p:=⟨Bs,0,none⟩) iG).trans hBs) iG (fun i j v hi e=>(hW0.cell (p:=⟨b,off+i*11+j,none⟩) (ha (by omega)).2).trans (hc i j v hi e)) h0).mono ?_
 rintro e W' ⟨he,hj | ⟨k,hk,hj⟩⟩
 ·exact⟨he,.inl ⟨_,rfl,hj⟩⟩
 ·exact⟨he,.inr ⟨_,⟨k,hk,rfl⟩,hj⟩⟩
set_option maxHeartbeats 1000000 in
theorem ae4(F:Fence)(n:Nat)(h5:F.fn 35)(hro:F.round=none)(a:Option Addr)(len cap:Nat)(w:World) :
  CallsIn F n Tryz.prog 35 #[.slice a len cap] w fun e w'=>e=.returned (.func (.func 57) #[] #[.pointer (some ⟨w.heap.size,0,none⟩)])/\w'=w.alloc (.cells #[.slice a len cap] 31):=by
 refine callsIn_of_wp Tryz.func35 rfl h5 ?_ hro
 simp only[Tryz.ntmps35,List.size_toArray,List.length_cons,List.length_nil,Nat.reduceAdd,Nat.reduceSub,Array.replicate_succ,Array.replicate_zero,List.push_toArray,List.append_toArray,List.nil_append,List.cons_append]
 gi_wp2
 go_ret
 exact⟨rfl,rfl⟩
def hits(key:ByteArray)(e:EV):Prop:=e.write=true/\e.key.toList=key.toList
structure Zs(b0:Nat)(key:ByteArray)(W:World):Prop where
 k:W.cell? ⟨b0+1,0,none⟩=some (.string key)
 c0:W.cell? ⟨b0+1+1,0,none⟩=some (.string ⟨#[]⟩)
 c1:W.cell? ⟨b0+1+1,1,none⟩=some (.string ⟨#[]⟩)
 c2:W.cell? ⟨b0+1+1,2,none⟩=some (.bool false)
 c3:W.cell? ⟨b0+1+1,3,none⟩=some (.complex .f64 0 0)
 f0:W.frozen? ⟨b0+1+1,0,none⟩=false
 f1:W.frozen? ⟨b0+1+1,1,none⟩=false
 f2:W.frozen? ⟨b0+1+1,2,none⟩=false
 f3:W.frozen? ⟨b0+1+1,3,none⟩=false
 d:W.cell? ⟨b0+1+1+1,0,none⟩=some (.bool false)
 e:W.frozen? ⟨b0+1+1+1,0,none⟩=false
theorem Zs.own(b0:Nat)(key:ByteArray):Own (fun(_:Unit) W=>Zs b0 key W):=fun s A B row hs hg hr=>
 ⟨cell_kept hs.k hg hr,cell_kept hs.c0 hg hr,cell_kept hs.c1 hg hr,cell_kept hs.c2 hg hr,cell_kept hs.c3 hg hr,(frozen_kept hs.c0 hg hr).trans hs.f0,(frozen_kept hs.c1 hg hr).trans hs.f1,(frozen_kept hs.c2 hg hr).trans hs.f2,(frozen_kept hs.c3 hg hr).trans hs.f3,cell_kept hs.d hg hr,(frozen_kept hs.d hg hr).trans hs.e⟩
structure Fd(b0:Nat)(key:ByteArray)(e:EV)(W:World):Prop where
 c0:W.cell? ⟨b0+1+1,0,none⟩=some (.string key)
 c1:W.cell? ⟨b0+1+1,1,none⟩=some (.string (if e.del then⟨#[]⟩else e.val))
 c2:W.cell? ⟨b0+1+1,2,none⟩=some (.bool (!e.del))
 c3:W.cell? ⟨b0+1+1,3,none⟩=some (.complex .f64 e.re e.im)
 d:W.cell? ⟨b0+1+1+1,0,none⟩=some (.bool true)
theorem Fd.own(b0:Nat)(key:ByteArray)(e:EV):Own (fun(_:Unit) W=>Fd b0 key e W):=fun s A B row hs hg hr=>
 ⟨cell_kept hs.c0 hg hr,cell_kept hs.c1 hg hr,cell_kept hs.c2 hg hr,cell_kept hs.c3 hg hr,cell_kept hs.d hg hr⟩
structure Fd'(b0:Nat)(v0 v1 v2 v3 v4:Value)(W:World):Prop where
 c0:W.cell? ⟨b0+1+1,0,none⟩=some v0
 c1:W.cell? ⟨b0+1+1,1,none⟩=some v1
 c2:W.cell? ⟨b0+1+1,2,none⟩=some v2
 c3:W.cell? ⟨b0+1+1,3,none⟩=some v3
 d:W.cell? ⟨b0+1+1+1,0,none⟩=some v4
theorem Fd'.own(b0:Nat)(v0 v1 v2 v3 v4:Value):Own (fun(_:Unit) W=>Fd' b0 v0 v1 v2 v3 v4 W):=fun s A B row hs hg hr=>
 ⟨cell_kept hs.c0 hg hr,cell_kept hs.c1 hg hr,cell_kept hs.c2 hg hr,cell_kept hs.c3 hg hr,cell_kept hs.d hg hr⟩
def IV(B b0:Nat)(w:World)(key:ByteArray)(pre:List (Nat × EV))(W:World):Prop:=((∀ p ∈ pre,¬ hits key p.2)/\Zs b0 key W/\B<=W.heap.size)/\Below w.heap.size w W
def IX(b0:Nat)(w:World)(key:ByteArray)(c:Code)(pre:List (Nat × EV))(W:World):Prop:=(c=.ret /\ ∃ ini last,pre=ini++[last]/\(∀ p ∈ ini,¬ hits key p.2)/\hits key last.2/\Fd b0 key last.2 W)/\Below w.heap.size w W
theorem Rb{w w':World}{o:Obj}(h:w.alloc o=w'){k:Nat}(hk:w.heap.size=k):w'.heap[k]? = some o/\w'.heap.size=k+1:=by
 subst h;subst hk;exact⟨World.alloc_heap_new w o,World.size_alloc w o⟩
theorem OF{w w':World}{o o':Obj}(h:w.alloc o=w'){k:Nat}(e:w.heap[k]? = some o'):w'.heap[k]? = some o':=by
 subst h;exact(Below.heap_alloc w o k (Array.getElem?_eq_some_iff.1 e).1).trans e
theorem uI{P:Program}(W:World)(z vs:Array Value)(t:TypeId)(hs:vs.size=z.size)(h1:∀ v ∈ vs.toList,v.oneCell'=true) :
  (storeCells ⟨W.heap.size,0,none⟩ vs.toList).run P (W.alloc (.cells z t))=.ok () (W.alloc (.cells vs t)):=by
 have k:=AM.run_storeCells (P:=P) (o:=0) vs.toList 0 z (W.alloc (.cells z t)) (World.alloc_heap_new W _) (by simp[hs]) (AM.okObj.row (c:=z) (e:=t) z t (0,0) rfl).1 h1
 rw[k]
 congr 1
 have hsp:AM.splice z 0 vs.toList=vs:=by
  apply Array.ext_getElem?
  intro j
  by_cases hj:j<vs.size
  ·rw[AM.splice_get _ _ _ _ (by simp[hs]),if_pos ⟨Nat.zero_le _,by simpa using hj⟩]
   simp
  ·rw[Array.getElem?_eq_none (by simp;omega),Array.getElem?_eq_none (by omega)]
 rw[Nat.add_zero,hsp]
 cases W
 simp only[AM.World.setBlk,World.alloc,World.mk.injEq,and_true]
 apply Array.ext_getElem?
 intro j
 simp only[Array.getElem?_push,Array.getElem?_setIfInBounds]
 split <;> split <;> simp_all
theorem aa9(W:World)(c:Array Value)(t:TypeId)(j:Nat):(W.alloc (.cells c t)).cell? ⟨W.heap.size,j,none⟩=c[j]? := by
 simp only[World.cell?,World.alloc_heap_new];rfl
theorem mX(W:World)(c:Array Value)(t:TypeId)(j:Nat):(W.alloc (.cells c t)).frozen? ⟨W.heap.size,j,none⟩=false:=by
 unfold World.frozen?
 rw[World.alloc_heap_new]
 simp
theorem KT{W:World}{p:Addr}{v:Value}(h:W.cell? p=some v)(o:Obj):(W.alloc o).cell? p=some v:=cell_kept h (World.grownBy_alloc W o none) (fun r e=>by cases e)
theorem Ko{W:World}{p:Addr}{v:Value}(h:W.cell? p=some v)(hf:W.frozen? p=false)(o:Obj):(W.alloc o).frozen? p=false:=(frozen_kept h (World.grownBy_alloc W o none) (fun r e=>by cases e)).trans hf
theorem ae5(W:World)(c:Array Value)(t:TypeId)(j:Nat)(v:Value):(W.alloc (.cells c t)).setCell ⟨W.heap.size,j,none⟩ v=W.alloc (.cells (c.setIfInBounds j v) t):=by
 cases W
 simp only[World.setCell,World.alloc,World.mk.injEq,and_true]
 apply Array.ext_getElem?
 intro i
 simp only[Array.getElem?_modify,Array.getElem?_push]
 split <;> split <;> simp_all
def AX1(B n0:Nat)(T:Value)(sv:Value)(key:ByteArray)(x:Nat × EV)(a':Act)(W:World):Prop:=∃ Bx,B<=Bx/\(∀ j v,x.2.cells[j]? = some v->W.cell? ⟨Bx,j,none⟩=some v) /\
 a'={tmps:=#[T,.string key,.pointer (some ⟨n0,0,none⟩),.pointer (some ⟨n0+1,0,none⟩),.pointer (some ⟨n0+1+1,0,none⟩),.pointer (some ⟨n0+1+1+1,0,none⟩),undef,.pointer (some ⟨Bx,0,none⟩),undef,.pointer (some ⟨n0,2,none⟩),sv,
  .func (.func 57) #[] #[.pointer (some ⟨n0+1+1+1+1,0,none⟩)],.int .i64 (x.1:Int),.agg x.2.cells,undef,undef,undef,undef,undef,undef,undef,undef,undef,undef,undef,undef,undef,undef,undef,undef,undef,undef,undef,undef,undef,undef,undef],defers:=[]}
set_option maxRecDepth 100000 in
set_option maxHeartbeats 4000000 in
theorem value_in(F:Fence)(n:Nat)(h13:F.fn 13)(h35:F.fn 35)(h57:F.fn 57)(hro:F.round=none)(hn:3<=n)(fr fi lr li:Nat)(sa:Option Addr)(b off len cap:Nat)(zs:Nat->EV)(key:ByteArray)(hreach:len<=1000000000)(w:World)
  (ha:0<len->sa=some ⟨b,off,none⟩/\b<w.heap.size) (hc:∀ i j v,i<len->(zs i).cells[j]? = some v->w.cell? ⟨b,off+i*11+j,none⟩=some v) :
  CallsIn F n Tryz.prog 13 #[.agg #[.complex .f64 fr fi,.complex .f64 lr li,.slice sa len cap],.string key] w fun e W'=>
   ((e=.returned (.tuple #[.agg #[.string ⟨#[]⟩,.string ⟨#[]⟩,.bool false,.complex .f64 0 0],.bool false]) /\ ∀ i,i<len -> ¬ hits key (zs i)) \/
    (∃ i,i<len/\hits key (zs i)/\(∀ j,i<j->j<len -> ¬ hits key (zs j))/\e=.returned (.tuple #[.agg #[.string key,.string (if(zs i).del then⟨#[]⟩else(zs i).val),.bool (!(zs i).del),.complex .f64 (zs i).re (zs i).im],.bool true])))/\Below w.heap.size w W':=by
 have h1:1<=n:=by omega
 refine callsIn_of_wp_marks Tryz.func13 rfl h13 ?_ hro
 simp only[Tryz.ntmps13,List.size_toArray,List.length_cons,List.length_nil,Nat.reduceAdd,Nat.reduceSub,Array.replicate_succ,Array.replicate_zero,List.push_toArray,List.append_toArray,List.nil_append,List.cons_append]
 gi_wp2_with (gi_at_call 35;refine(ae4 F (n - 1) h35 hro _ _ _ _).mono ?_;rintro e w' ⟨rfl,rfl⟩)
 obtain⟨w1,e1⟩:∃ w1,w.alloc (Obj.cells #[Value.complex FloatKind.f64 fr fi,Value.complex FloatKind.f64 lr li,Value.slice sa len cap] 33)=w1:=⟨_,rfl⟩
 rw[e1]
 obtain⟨w2,e2⟩:∃ w2,w1.alloc (Obj.cells #[Value.string key] 9)=w2:=⟨_,rfl⟩
 rw[e2]
 obtain⟨w3,e3⟩:∃ w3,w2.alloc (Obj.cells #[Value.string {data:=#[]},Value.string {data:=#[]},Value.bool false,Value.complex FloatKind.f64 0 0] 74)=w3:=⟨_,rfl⟩
 rw[e3]
 obtain⟨w4,e4⟩:∃ w4,w3.alloc (Obj.cells #[Value.bool false] 4)=w4:=⟨_,rfl⟩
 rw[e4]
 obtain⟨W0,e5⟩:∃ w5,w4.alloc (Obj.cells #[Value.slice sa len cap] 31)=w5:=⟨_,rfl⟩
 rw[e5]
 obtain⟨_,s1⟩:=Rb e1 rfl
 obtain⟨k2,s2⟩:=Rb e2 s1
 obtain⟨k3,s3⟩:=Rb e3 s2
 obtain⟨k4,s4⟩:=Rb e4 s3
 obtain⟨k5,hsz⟩:=Rb e5 s4
 have k2:=OF e5 (OF e4 (OF e3 k2))
 have k3:=OF e5 (OF e4 k3)
 have k4:=OF e5 k4
 have hB0:Below w.heap.size w W0:=by
  rw[<- e5]
  refine Below.alloc ?_ (by omega) _
  rw[<- e4]
  refine Below.alloc ?_ (by omega) _
  rw[<- e3]
  refine Below.alloc ?_ (by omega) _
  rw[<- e2]
  refine Below.alloc ?_ (by omega) _
  rw[<- e1]
  exact Below.alloc (Below.refl _ w) (Nat.le_refl _) _
 have hZ:Zs w.heap.size key W0:=by
  constructor <;> simp only[World.cell?,World.frozen?,k2,k3,k4] <;> rfl
 have hS:W0.cell? ⟨w.heap.size+1+1+1+1,0,none⟩=some (.slice sa len cap):=by
  simp only[World.cell?,k5];rfl
 clear e1 e2 e3 e4 e5 s1 s2 s3 s4 k2 k3 k4 k5
 obtain⟨b0,hb0⟩:∃ b0,b0=w.heap.size:=⟨_,rfl⟩
 refine wpIn_rangeFunc_ownH hro h1 (gf:=57) (lb:=#[.pointer (some ⟨w.heap.size+1+1+1+1,0,none⟩)]) rfl h57 (enters_of Tryz.func57 (by kernel_rfl) rfl)
  (mW F (n - 1) h57 hro (by omega) (w.heap.size+1+1+1+1) W0.heap.size b off len cap sa zs hreach (fun h=>⟨(ha h).1,by have:=(ha h).2;omega⟩) W0 (Nat.le_refl _) (by omega) hS
   (fun i j v hi e=>(hB0.cell (p:=⟨b,off+i*11+j,none⟩) (ha (by omega)).2).trans (hc i j v hi e))) belowK_t (belowK_b (by omega)) (Below.refl _ _) (fun _=>rfl)
  (IV W0.heap.size w.heap.size w key) (IX w.heap.size w key) ?hI ?hIx ⟨⟨by simp,hZ,Nat.le_refl _⟩,hB0⟩ (AX1 W0.heap.size w.heap.size (.agg #[.complex .f64 fr fi,.complex .f64 lr li,.slice sa len cap]) (.slice sa len cap) key) ?hAx ?assign ?body ?done ?stop
 case hI=>exact OwnFrom.and (Own.from (fun s A B row hs hg hr=>⟨hs.1,Zs.own _ _ () A B row hs.2.1 hg hr,Nat.le_trans hs.2.2 hg.size⟩) _) (ownFrom_below (Nat.le_refl _) (by omega))
 case hIx=>exact fun c=>OwnFrom.and (Own.from (fun s A B row hs hg hr=>by obtain⟨hc,ini,last,e1,e2,e3,e4⟩:=hs;exact⟨hc,ini,last,e1,e2,e3,Fd.own _ _ _ () A B row e4 hg hr⟩) _) (ownFrom_below (Nat.le_refl _) (by omega))
 case hAx=>exact fun x a'=>Own.from (fun s A B row hs hg hr=>by obtain⟨Bx,h1,h2,h3⟩:=hs;exact⟨Bx,h1,fun j v e=>cell_kept (h2 j v e) hg hr,h3⟩) _
 case assign=>
  rintro l pre x W K hi hK
  have hst:=uI (P:=Tryz.prog) W #[Value.complex FloatKind.f64 0 0,Value.int IntKind.i64 0,Value.string {data:=#[]},Value.string {data:=#[]},Value.bool false,Value.bool false,Value.int IntKind.i64 0,Value.int IntKind.i64 0,Value.int IntKind.i64 0,Value.string {data:=#[]},Value.bool false] x.2.cells 66 rfl (by simp[EV.cells,Value.oneCell'])
  gi_wp2
  obtain⟨⟨hne,hz,hle⟩,hB⟩:=hi
  refine hK _ _ ((KeepsOthers.alloc _ _).from _) ((Below.refl _ W).alloc hle _) ⟨⟨hne,Zs.own _ _ () W _ none hz (World.grownBy_alloc W _ none) (fun r e=>by cases e),by rw[World.size_alloc];omega⟩,hB.alloc hB.size _⟩ ⟨W.heap.size,hle,fun j v e=>?_,rfl⟩
  simp only[World.cell?,World.alloc_heap_new]
  exact e
 case body=>
  rintro l pre x a' W hl ⟨r,hr⟩ ⟨⟨hne,hz,hle⟩,hB⟩ ⟨Bx,hBx,hcx,rfl⟩ hlt
  have x0:W.cell? ⟨Bx,0,none⟩=some (.complex .f64 x.2.re x.2.im):=hcx 0 _ rfl
  have x2:W.cell? ⟨Bx,2,none⟩=some (.string x.2.key):=hcx 2 _ rfl
  have x3:W.cell? ⟨Bx,3,none⟩=some (.string x.2.val):=hcx 3 _ rfl
  have x4:W.cell? ⟨Bx,4,none⟩=some (.bool x.2.write):=hcx 4 _ rfl
  have x5:W.cell? ⟨Bx,5,none⟩=some (.bool x.2.del):=hcx 5 _ rfl
  have hk:=hz.k
  clear hcx
  have nC:=aa9 W
  have nF:=mX W
  have nS:=ae5 W
  have rc:=fun(a:Addr) (x y:Nat) (w:World)=>run_store Tryz.prog w a (.complex .f64 x y) .plain rfl
  by_cases hw:x.2.write=true
  ·rw[hw]at x4
   by_cases hke:x.2.key.toList=key.toList
   ·have hkt:(x.2.key.toList == key.toList)=true:=by simp[hke]
    have y3:=KT x3
    have q0:=KT hz.c0
    have q1:=KT hz.c1
    have q2:=KT hz.c2
    have q3:=KT hz.c3
    have g0:=Ko hz.c0 hz.f0
    have g1:=Ko hz.c1 hz.f1
    have g2:=Ko hz.c2 hz.f2
    have g3:=Ko hz.c3 hz.f3
    have qd:=KT hz.d
    have gd:=Ko hz.d hz.e
    cases hdel:x.2.del with
    | true=>
     rw[hdel]at x5
     gi_wp2
     refine⟨((((((KeepsOthers.alloc W _).trans (KeepsOthers.setCell _ _ _)).trans (KeepsOthers.setCell _ _ _)).trans (KeepsOthers.setCell _ _ _)).trans (KeepsOthers.setCell _ _ _)).trans (KeepsOthers.setCell _ _ _)).from _,⟨rfl,pre,x,rfl,hne,⟨hw,hke⟩,?_⟩,
      (((((hB.alloc hB.size _).setCell (p:=⟨w.heap.size+1+1,0,none⟩) (by show w.heap.size<=w.heap.size+1+1;omega) _).setCell (p:=⟨w.heap.size+1+1,1,none⟩) (by show w.heap.size<=w.heap.size+1+1;omega) _).setCell (p:=⟨w.heap.size+1+1,2,none⟩) (by show w.heap.size<=w.heap.size+1+1;omega) _).setCell (p:=⟨w.heap.size+1+1,3,none⟩) (by show w.heap.size<=w.heap.size+1+1;omega) _).setCell (p:=⟨w.heap.size+1+1+1,0,none⟩) (by show w.heap.size<=w.heap.size+1+1+1;omega) _⟩
     constructor <;> (try rw[hdel]) <;> go_simp
    | false=>
     rw[hdel]at x5
     gi_wp2
     refine⟨((((((KeepsOthers.alloc W _).trans (KeepsOthers.setCell _ _ _)).trans (KeepsOthers.setCell _ _ _)).trans (KeepsOthers.setCell _ _ _)).trans (KeepsOthers.setCell _ _ _)).trans (KeepsOthers.setCell _ _ _)).from _,⟨rfl,pre,x,rfl,hne,⟨hw,hke⟩,?_⟩,
      (((((hB.alloc hB.size _).setCell (p:=⟨w.heap.size+1+1,0,none⟩) (by show w.heap.size<=w.heap.size+1+1;omega) _).setCell (p:=⟨w.heap.size+1+1,1,none⟩) (by show w.heap.size<=w.heap.size+1+1;omega) _).setCell (p:=⟨w.heap.size+1+1,2,none⟩) (by show w.heap.size<=w.heap.size+1+1;omega) _).setCell (p:=⟨w.heap.size+1+1,3,none⟩) (by show w.heap.size<=w.heap.size+1+1;omega) _).setCell (p:=⟨w.heap.size+1+1+1,0,none⟩) (by show w.heap.size<=w.heap.size+1+1+1;omega) _⟩
     constructor <;> (try rw[hdel]) <;> go_simp
   ·have hkt:(x.2.key.toList == key.toList)=false:=by simp[hke]
    gi_wp2
    exact⟨KeepsFrom.refl _ _,Below.refl _ _,⟨fun p hp'=>(List.mem_append.1 hp').elim (hne p) (fun e=>by simp at e;subst e;exact fun h=>hke h.2),hz,hle⟩,hB⟩
  ·have hw2:x.2.write=false:=by simpa using hw
   rw[hw2]at x4
   gi_wp2
   exact⟨KeepsFrom.refl _ _,Below.refl _ _,⟨fun p hp'=>(List.mem_append.1 hp').elim (hne p) (fun e=>by simp at e;subst e;exact fun h=>hw h.1),hz,hle⟩,hB⟩
 case done=>
  rintro D ys W hD rfl ⟨⟨hne,hz,hle⟩,hB⟩ hK
  have rc:=fun(a:Addr) (x y:Nat) (w:World)=>run_store Tryz.prog w a (.complex .f64 x y) .plain rfl
  obtain⟨zk,q0,q1,q2,q3,g0,g1,g2,g3,qd,gd⟩:=hz
  gi_wp2
  have hK':=(((((KeepsOthers.setCell W ⟨w.heap.size+1+1,0,none⟩ (.string ⟨#[]⟩)).trans (KeepsOthers.setCell _ ⟨w.heap.size+1+1,1,none⟩ (.string ⟨#[]⟩))).trans (KeepsOthers.setCell _ ⟨w.heap.size+1+1,2,none⟩ (.bool false))).trans (KeepsOthers.setCell _ ⟨w.heap.size+1+1,3,none⟩ (.complex .f64 0 0))).trans (KeepsOthers.setCell _ ⟨w.heap.size+1+1+1,0,none⟩ (.bool false))).same D _ hK rfl
  have hB':=(((((hB.setCell (p:=⟨w.heap.size+1+1,0,none⟩) (by show w.heap.size<=w.heap.size+1+1;omega) (.string ⟨#[]⟩)).setCell (p:=⟨w.heap.size+1+1,1,none⟩) (by show w.heap.size<=w.heap.size+1+1;omega) (.string ⟨#[]⟩)).setCell (p:=⟨w.heap.size+1+1,2,none⟩) (by show w.heap.size<=w.heap.size+1+1;omega) (.bool false)).setCell (p:=⟨w.heap.size+1+1,3,none⟩) (by show w.heap.size<=w.heap.size+1+1;omega) (.complex .f64 0 0)).setCell (p:=⟨w.heap.size+1+1+1,0,none⟩) (by show w.heap.size<=w.heap.size+1+1+1;omega) (.bool false))
  have hF:Fd' w.heap.size (.string ⟨#[]⟩) (.string ⟨#[]⟩) (.bool false) (.complex .f64 0 0) (.bool false) (((((W.setCell ⟨w.heap.size+1+1,0,none⟩ (.string ⟨#[]⟩)).setCell ⟨w.heap.size+1+1,1,none⟩ (.string ⟨#[]⟩)).setCell ⟨w.heap.size+1+1,2,none⟩ (.bool false)).setCell ⟨w.heap.size+1+1,3,none⟩ (.complex .f64 0 0)).setCell ⟨w.heap.size+1+1+1,0,none⟩ (.bool false)):=by
   constructor <;> go_simp
  generalize (((((W.setCell ⟨w.heap.size+1+1,0,none⟩ (.string ⟨#[]⟩)).setCell ⟨w.heap.size+1+1,1,none⟩ (.string ⟨#[]⟩)).setCell ⟨w.heap.size+1+1,2,none⟩ (.bool false)).setCell ⟨w.heap.size+1+1,3,none⟩ (.complex .f64 0 0)).setCell ⟨w.heap.size+1+1+1,0,none⟩ (.bool false))=W1 at *
  refine⟨by simp,.inl ⟨_,_,rfl,run_takeDeferred hK',?_⟩⟩
  obtain⟨c0,c1,c2,c3,d⟩:=Fd'.own _ _ _ _ _ _ () _ _ _ hF (grownBy_putObj' W1 D (.deferred none)) (fun r e=>by cases e;exact⟨_,hK',rfl⟩)
  refine⟨.tuple #[.agg #[.string ⟨#[]⟩,.string ⟨#[]⟩,.bool false,.complex .f64 0 0],.bool false],?_,.inl ⟨rfl,fun i hi=>hne (i,zs i) ?_⟩,hB'.trans (belowK_b (w:=w) (Nat.le_refl _) W1 D _ _ (by omega) hK' rfl rfl)⟩
  ·simp[results,Tryz.f13,go_sem,c0,c1,c2,c3,d]
  ·simp only[back,List.mem_map,List.mem_range]
   exact⟨len - 1 - i,by omega,by rw[show len - 1 - (len - 1 - i)=i by omega]⟩
 case stop=>
  rintro D c pre W hD ⟨k,hk,rfl⟩ ⟨⟨rfl,ini,last,e1,e2,e3,hf⟩,hB⟩ hK
  gi_wp2
  refine⟨by simp,.inl ⟨_,_,rfl,run_takeDeferred hK,?_⟩⟩
  obtain⟨c0,c1,c2,c3,d⟩:=Fd.own _ _ _ () _ _ _ hf (grownBy_putObj' W D (.deferred none)) (fun r e=>by cases e;exact⟨_,hK,rfl⟩)
  obtain⟨k',rfl⟩:∃ k',k=k'+1:=by
   cases k with
   | zero=>simp[back]at e1
   | succ k'=>exact⟨k',rfl⟩
  rw[Ra]at e1
  obtain⟨rfl,e5⟩:=List.append_inj' e1 rfl
  obtain rfl:(len - 1 - k',zs (len - 1 - k'))=last:=by simpa using e5
  refine⟨_,?_,.inr ⟨len - 1 - k',by omega,e3,fun j hj hl=>e2 (j,zs j) ?_,rfl⟩,hB.trans (belowK_b (w:=w) (Nat.le_refl _) W D _ _ (by omega) hK rfl rfl)⟩
  ·simp only at c0 c1 c2 c3
   simp[results,Tryz.f13,go_sem,c0,c1,c2,c3,d]
  ·simp only[back,List.mem_map,List.mem_range]
   exact⟨len - 1 - j,by omega,by rw[show len - 1 - (len - 1 - j)=j by omega]⟩
end Bw
end Go.Proofs
end
noncomputable section
open Go Go.AM Go.Md Go.Proofs
namespace Go.Hd
open Go.Wk
set_option maxRecDepth 100000
set_option maxHeartbeats 400000
def Da:List Entry->Txt->Option Entry
 | [],_=>none
 | e::r,k=>match Da r k with
  | some x=>some x
  | none=>bif e.write&&Ah e.key k then some e else none
def Tq(k:Txt)(e:Entry):Prop:=e.write=true/\e.key=k
theorem Rc{k:Txt}:∀ {l:List Entry},(∀ i,i<l.length -> ¬ Tq k (l.getD i default))->Da l k=none
 | [],_=>rfl
 | e::r,h=>by
  have h1:=Rc (l:=r) fun i hi=>h (i+1) (by simp;omega)
  have h0:=h 0 (by simp)
  unfold Da
  rw[h1]
  cases hw:e.write with
  | false=>rfl
  | true=>
   have:Ah e.key k=false:=by
    rw[A7]
    simpa using fun hk=>h0 ⟨hw,hk⟩
   simp[this]
theorem Xi{k:Txt}:∀ {l:List Entry} {i:Nat},i<l.length->Tq k (l.getD i default)->(∀ j,i<j->j<l.length -> ¬ Tq k (l.getD j default))->Da l k=some (l.getD i default)
 | [],i,hi,_,_=>absurd hi (Nat.not_lt_zero i)
 | e::r,0,_,h,ha=>by
  have h1:=Rc (l:=r) fun i hi=>ha (i+1) (by omega) (by simp;omega)
  unfold Da
  rw[h1]
  have hw:e.write=true:=h.1
  have:Ah e.key k=true:=by rw[A7];simpa using h.2
  simp[hw,this]
 | e::r,i+1,hi,h,ha=>by
  have h1:=Xi (l:=r) (i:=i) (by simpa using hi) h fun j hj hl=>ha (j+1) (by omega) (by simp;omega)
  unfold Da
  rw[h1];rfl
def Dt(t:Tail)(k:Txt):Itm × Bool:=match Da t.log k with
 | some e=>(Eu e,true)
 | none=>(default,false)
def Rd(l:List UInt8):ByteArray:=⟨l.toArray⟩
theorem Uz{s:ByteArray}{l:List UInt8}(h:l=s.data.toList):s=Rd l:=by subst h;rfl
def N2(e:Entry):Bw.EV:=⟨e.ver.re,e.ver.im,e.kind,Rd e.key,Rd e.val,e.write,e.del,e.sess,e.num,e.code,Rd e.res,e.hasRes⟩
theorem aba{w:World}{I:Nat->Prop}{φ:Phi}{e:Entry}{j:Nat}{v:Value}(h:(N2 e).cells[j]? = some v):∃ c,(Ai e)[j]? = some c /\ ∀ u,RV w I φ c u->u=v:=by
 match j,h with
 | 0,h=>cases h;exact⟨_,rfl,fun u hu=>by cases hu;rfl⟩
 | 1,h=>cases h;exact⟨_,rfl,fun u hu=>by cases hu;rfl⟩
 | 2,h=>cases h;exact⟨_,rfl,fun u hu=>by cases hu with | str s l hl=>rw[Uz hl];rfl⟩
 | 3,h=>cases h;exact⟨_,rfl,fun u hu=>by cases hu with | str s l hl=>rw[Uz hl];rfl⟩
 | 4,h=>cases h;exact⟨_,rfl,fun u hu=>by cases hu;rfl⟩
 | 5,h=>cases h;exact⟨_,rfl,fun u hu=>by cases hu;rfl⟩
 | 6,h=>cases h;exact⟨_,rfl,fun u hu=>by cases hu;rfl⟩
 | 7,h=>cases h;exact⟨_,rfl,fun u hu=>by cases hu;rfl⟩
 | 8,h=>cases h;exact⟨_,rfl,fun u hu=>by cases hu;rfl⟩
 | 9,h=>cases h;exact⟨_,rfl,fun u hu=>by cases hu with | str s l hl=>rw[Uz hl];rfl⟩
 | 10,h=>cases h;exact⟨_,rfl,fun u hu=>by cases hu;rfl⟩
 | j+11,h=>simp[Bw.EV.cells]at h
theorem Tr{k:Txt}{e:Entry}:Bw.hits (Rd k) (N2 e) ↔ Tq k e:=by
 unfold Bw.hits Tq
 simp only[ByteArray.toList_eq]
 exact Iff.rfl
theorem uJ{w:World}{I:Nat->Prop}{φ:Phi}(x:Itm)(b:Bool):RV w I φ (.tup [.agg (Af x),.bool b]) (.tuple #[.agg #[.string (Rd x.key),.string (Rd x.val),.bool x.has,.complex .f64 x.ver.re x.ver.im],.bool b]):=by
 refine .tup _ _ rfl fun i c u ec eu=>?_
 match i,ec,eu with
 | 0,ec,eu=>
  simp at ec eu;subst ec;subst eu
  refine .agg _ _ rfl (fun k u e=>?_) fun k c u e1 e2=>?_
  ·match k,e with
   | 0,e=>simp at e;subst e;rfl
   | 1,e=>simp at e;subst e;rfl
   | 2,e=>simp at e;subst e;rfl
   | 3,e=>simp at e;subst e;rfl
   | k+4,e=>simp at e
  ·match k,e1,e2 with
   | 0,e1,e2=>simp[Af]at e1 e2;subst e1;subst e2;exact .str _ _ rfl
   | 1,e1,e2=>simp[Af]at e1 e2;subst e1;subst e2;exact .str _ _ rfl
   | 2,e1,e2=>simp[Af]at e1 e2;subst e1;subst e2;exact .bool _
   | 3,e1,e2=>simp[Af]at e1 e2;subst e1;subst e2;exact .cplx _ _ _
   | k+4,e1,e2=>simp[Af]at e1
 | 1,ec,eu=>simp at ec eu;subst ec;subst eu;exact .bool _
 | i+2,ec,eu=>simp at ec
theorem uK(t:Tail)(k:Txt)(h:t.log.length<=100000):Aa PG J0 [.agg (AJ t),.str k] [] (.tup [.agg (Af (Dt t k).1),.bool (Dt t k).2]) []:=by
 intro w I φ ra hh hx
 have hφ:=RZ hh
 subst hφ
 obtain⟨hsz,hx⟩:=hx
 obtain⟨a0,ha0⟩:∃ a,ra[0]? = some a:=⟨_,Array.getElem?_eq_getElem (by rw[<- hsz];simp)⟩
 obtain⟨a1,ha1⟩:∃ a,ra[1]? = some a:=⟨_,Array.getElem?_eq_getElem (by rw[<- hsz];simp)⟩
 have r0:=hx 0 _ a0 rfl ha0
 have r1:=hx 1 _ a1 rfl ha1
 have hra:ra = #[a0,a1]:=by
  apply Array.ext_getElem?
  intro j
  match j with
  | 0=>exact ha0
  | 1=>exact ha1
  | j+2=>rw[Array.getElem?_eq_none (by rw[<- hsz];simp)];simp
 subst hra
 cases r1 with
 | str s _ hs=>
 rw[Uz hs]
 cases r0 with
 | agg _ vs hl h1 hr=>
 obtain⟨v0,e0⟩:∃ a,vs[0]? = some a:=⟨_,Array.getElem?_eq_getElem (by rw[<- hl];simp[AJ])⟩
 obtain⟨v1,e1⟩:∃ a,vs[1]? = some a:=⟨_,Array.getElem?_eq_getElem (by rw[<- hl];simp[AJ])⟩
 obtain⟨v2,e2⟩:∃ a,vs[2]? = some a:=⟨_,Array.getElem?_eq_getElem (by rw[<- hl];simp[AJ])⟩
 have q0:=hr 0 _ v0 rfl e0
 have q1:=hr 1 _ v1 rfl e1
 have q2:=hr 2 _ v2 rfl e2
 have hvs:vs = #[v0,v1,v2]:=by
  apply Array.ext_getElem?
  intro j
  match j with
  | 0=>exact e0
  | 1=>exact e1
  | 2=>exact e2
  | j+3=>rw[Array.getElem?_eq_none (by rw[<- hl];simp[AJ])];simp
 subst hvs
 cases q0
 cases q1
 have key:∃ sa b off cap,v2=.slice sa t.log.length cap/\(0<t.log.length->sa=some ⟨b,off,none⟩/\b<w.heap.size) /\ ∀ i j v,i<t.log.length->(N2 (t.log.getD i default)).cells[j]? = some v->w.cell? ⟨b,off+i*11+j,none⟩=some v:=by
  generalize hn:t.log.length=n
  have q2:RV w I Phi.no (.tr 11 n fun i=>Ai (t.log.getD i default)) v2:=by rw[<- hn];exact q2
  cases q2 with
  | tr _ _ _ B o cap u hI hnc hz hlen hc g1 hr2=>
   refine⟨_,B,o,cap,rfl,fun hp=>⟨rfl,hh.lt B (hI hp)⟩,fun i j v hi e=>?_⟩
   obtain⟨c,c1,c2⟩:=aba (w:=w) (I:=I) (φ:=Phi.no) e
   rw[<- c2 _ (hr2 i j c hi c1)]
   exact hc i j c hi c1
  | trn _ _ a=>exact⟨a,0,0,0,rfl,fun hp=>absurd hp (Nat.lt_irrefl 0),fun i j v hi=>absurd hi (Nat.not_lt_zero i)⟩
 obtain⟨sa,b,off,cap,rfl,ha,hc⟩:=key
 have run:=Bw.value_in Fence.wide 3 trivial trivial trivial rfl (Nat.le_refl 3) t.floor.re t.floor.im t.last.re t.last.im sa b off t.log.length cap (fun i=>N2 (t.log.getD i default)) (Rd k) (by omega) w ha hc
 refine .inl ⟨enters_of Tryz.func13 (by kernel_rfl) rfl _ _,(callsIn_wide.1 run).mono ?_⟩
 rintro e w' ⟨hans,hB⟩
 have fin:∀ u,RV w' I Phi.no (.tup [.agg (Af (Dt t k).1),.bool (Dt t k).2]) u -> ∃ φ' I',RV w' I' φ' (.tup [.agg (Af (Dt t k).1),.bool (Dt t k).2]) u/\RH w' I' φ' (Ab [])/\Step ([]:Heap).length (Ab []) Phi.no I w (Ab []) φ' I' w':=fun u hu=>
  ⟨Phi.no,I,hu,RH.empty w' I fun B hI=>Nat.lt_of_lt_of_le (hh.lt B hI) hB.size,fun b p hb=>absurd hb (Nat.not_lt_zero b),fun _ h=>h,fun _ h=>.inl h,fun B hm=>(D6 hm).elim,
   ⟨hB.os,hB.tape,hB.output,hB.size,fun B hlt _=>hB.block B hlt,fun B c e fz hc=>⟨c,(hB.block B (AE hc)).trans hc,rfl⟩,fun B c e fz hlt hc=>⟨c,(hB.block B hlt).symm.trans hc,rfl⟩⟩⟩
 rcases hans with ⟨rfl,hno⟩ | ⟨i,hi,hit,haft,rfl⟩
 ·have hv:Dt t k=(default,false):=by
   unfold Dt
   rw[Rc fun i hi hp=>hno i hi (Tr.2 hp)]
  refine⟨_,rfl,fin _ ?_⟩
  rw[hv]
  exact uJ default false
 ·have hp:Tq k (t.log.getD i default):=Tr.1 hit
  have hv:Dt t k=(Eu (t.log.getD i default),true):=by
   unfold Dt
   rw[Xi hi hp fun j hj hl hp=>haft j hj hl (Tr.2 hp)]
  refine⟨_,rfl,fin _ ?_⟩
  rw[hv]
  have e:(.tuple #[.agg #[.string (Rd k),.string (if(N2 (t.log.getD i default)).del=true then⟨#[]⟩else(N2 (t.log.getD i default)).val),.bool (!(N2 (t.log.getD i default)).del),.complex .f64 (N2 (t.log.getD i default)).re (N2 (t.log.getD i default)).im],.bool true]:Value) =
    .tuple #[.agg #[.string (Rd (Eu (t.log.getD i default)).key),.string (Rd (Eu (t.log.getD i default)).val),.bool (Eu (t.log.getD i default)).has,.complex .f64 (Eu (t.log.getD i default)).ver.re (Eu (t.log.getD i default)).ver.im],.bool true]:=by
   generalize t.log.getD i default=x at *
   have hk:x.key=k:=hp.2
   unfold Eu N2
   rw[hk]
   cases x.del <;> rfl
  rw[e]
  exact uJ (Eu (t.log.getD i default)) true
abbrev TK:=Tail × Txt
def uL(a:List AV):TK:=(El (AA a 0),Gu a 1)
def uM(p:TK):List AV:=[.agg (AJ p.1),.str p.2]
def UA:Known:=.spec J0 uL (fun p=>p.1.log.length<=100000) uM (fun p=>.tup [.agg (Af (Dt p.1 p.2).1),.bool (Dt p.1 p.2).2])
theorem Re:UA.Ok PG:=Known.spec_ok fun p h=>uK p.1 p.2 h
theorem aH{R:Type}{t:Tail}{k:Txt}{K:TK->Option R}(h:t.log.length<=100000):gC uL (fun p=>p.1.log.length<=100000) uM [.agg (AJ t),.str k] K=K (t,k):=Aw (t,k) (Prod.ext (D9 t) rfl) h (.refl _)
end Go.Hd
end
noncomputable section
open Go Go.AM Go.Md
namespace Go.Hd
open Go.Wk
set_option maxRecDepth 100000
set_option maxHeartbeats 400000
def eFi(l:List Known):Env:=BU [] [(CZ,5),(J0,0),(Nm,0)] [] l
def mY(w:Wrk)(k:Txt):Option (AV × Heap):=gC MR GR KQ [Al w.d.clean,.str k] fun y=>some (.tup [.agg (Af (ED y).1),.bool (ED y).2.2],BG (Hh w (ED y).2.1))
theorem akw(w:Wrk)(k:Txt):BA 1 (eFi [UA,aaw]) 9 CZ [.ptr 0 0 0,.str k] (Bl w) =
 gC uL (fun p=>p.1.log.length<=100000) uM [.agg (AJ w.d.rep.tail),.str k] fun y=>bif(Dt y.1 y.2).2 then some (.tup [.agg (Af (Dt y.1 y.2).1),.bool true],BG w)else
  bif w.isRead then bif Ah w.just.key k then some (.tup [.agg (Af w.just),.bool true],BG w)else mY w k else mY w k:=by kernel_rfl
def UB(l:List Known):Env:=BU [(BR,0,[0,3,12,13])] [(BR,5),(J7,0),(HE,0)] [(BR,11,[6])] l
def N3:List Known:=[mM,mN]
theorem VA:∀ k ∈ N3,k.Ok PG:=ak Ti (ak Z6 AL)
def LAs(w:Wrk)(q:Msg)(N m:Nat)(i:Int):Option (AV × Heap):=LP (UB N3) N 4 BR (Cr 1 4) 0 [] m {fr:=[(0,.ptr 0 0 0),(3,.ptr 4 0 0),(12,.int .i64 w.d.asks.length),(13,.int .i64 i)],hp:=Bl w++[.arr true 31 [Ac q]]}
def mZ(w:Wrk):Wrk:={w with d:={w.d with next:=IntKind.i64.wrap (w.d.next+1)}}
def PF(w:Wrk)(q:Msg)(y:Msg):List AV:=[.int .i64 (IntKind.i64.wrap (w.d.next+1)),.str q.op.key,.trl 31 [Ac y]]
def XW(w:Wrk)(q:Msg):Option (AV × Heap):=
 gC (fun a=>BI (AA a 0)) I7 (fun m=>[.agg (Ac m)]) [.agg (Ac q)] fun y=>bif w.d.asks.length.ble w.d.asks.length then bif((w.d.asks.length+1)*48).ble 140737488355328&&(w.d.asks.length+1).ble 140737488355328 then
  gC (fun a=>(Cy (AA a 0),Ge (AA a 1))) (fun _=>True) Z5 [.agg (Ag w.d.rep),.agg (PF w q y)] fun z=>bif w.out.length.ble w.out.length then bif((w.out.length+1)*392).ble 140737488355328&&(w.out.length+1).ble 140737488355328 then
   some (.tup [],Kn (mZ w) w.d.waits.length (D5 w.d.waits) (w.d.asks.length+1) (Be w.d.asks.length (B5 w.d.asks) (.list [PF w q y])) (w.out.length+1) (Be w.out.length (BX w.out) (.list [Ac (GF z)])))else none else none else none else none
theorem akx(N:Nat)(w:Wrk)(q:Msg):BA 1 (UB N3) (N+1) BR [.ptr 0 0 0,.agg (Ac q)] (Bl w)=LAs w q N N 0:=by kernel_rfl
theorem adn(N m:Nat)(w:Wrk)(q:Msg)(i:Int):LAs w q N (m+1) i =
 bif decide (i<(w.d.asks.length:Int))then rg i w.d.asks.length (bif i.toNat.blt w.d.asks.length then bif Ah (w.d.asks.getD i.toNat default).key q.op.key then bif i.toNat.blt w.d.asks.length then bif decide (((w.d.asks.getD i.toNat default).calls.length:Int)<w.c.maxLog)then
   bif i.toNat.blt w.d.asks.length then gC (fun a=>BI (AA a 0)) I7 (fun m=>[.agg (Ac m)]) [.agg (Ac q)] fun _=>bif(((w.d.asks.getD i.toNat default).calls.length+1)*392).ble 140737488355328&&((w.d.asks.getD i.toNat default).calls.length+1).ble 140737488355328 then none else none else none
  else some (.tup [],BG w)else none else LAs w q N m (IntKind.i64.wrap (i+1))else none)
 else XW w q:=by kernel_rfl
end Go.Hd
end
noncomputable section
set_option linter.unusedVariables false
set_option linter.unusedSimpArgs false
namespace Go.AM
section
variable {P:Program} {env:Env} {fn nt n base:Nat}
theorem Az.seq{x y:Code}{s s1 s2:St}{e:AX}(h1:Az (fun Q=>x.wp P Q) nt base s .normal s1)(h2:Az (fun Q=>y.wp P Q) nt base s1 e s2):Az (fun Q=>(Code.seq x y).wp P Q) nt base s e s2:=by
 intro hb
 obtain⟨b1,g1⟩:=h1 hb
 obtain⟨b2,g2⟩:=h2 b1
 exact⟨b2,fun w I φ a hs ha Q hQ=>wp_seq (g1 w I φ a hs ha _ fun a' w' φ' I' c1 c2 c3 c4=>g2 w' I' φ' a' c3 c1 Q (hQ.after c2 c4))⟩
theorem Az.block{x:Code}{id:Nat}{s s1:St}(h:Az (fun Q=>x.wp P Q) nt base s (.exit id) s1):Az (fun Q=>(Code.block id x).wp P Q) nt base s .normal s1:=by
 intro hb
 obtain⟨b1,g1⟩:=h hb
 refine⟨b1,fun w I φ a hs ha Q hQ=>wp_block (g1 w I φ a hs ha _ fun a' w' φ' I' c1 c2 c3 c4=>?_)⟩
 simp only[AX.x,Exit.inBlock,if_true]
 exact hQ a' w' φ' I' c1 c2 c3 c4
theorem Az.seq_ret{x y:Code}{s s1:St}(h:Az (fun Q=>x.wp P Q) nt base s .ret s1):Az (fun Q=>(Code.seq x y).wp P Q) nt base s .ret s1:=by
 intro hb
 obtain⟨b1,g1⟩:=h hb
 exact⟨b1,fun w I φ a hs ha Q hQ=>wp_seq (g1 w I φ a hs ha _ hQ)⟩
theorem Az.block_ret{x:Code}{id:Nat}{s s1:St}(h:Az (fun Q=>x.wp P Q) nt base s .ret s1):Az (fun Q=>(Code.block id x).wp P Q) nt base s .ret s1:=by
 intro hb
 obtain⟨b1,g1⟩:=h hb
 exact⟨b1,fun w I φ a hs ha Q hQ=>wp_block (g1 w I φ a hs ha _ hQ)⟩
def aI(s s1:St):Prop:=s.hp.length=s1.hp.length /\ ∀ w I φ a,Cc w I φ s a->Cc w I φ s1 a/\(∀ B,Dr φ (Ab s1.hp) B ↔ Dr φ (Ab s.hp) B)
theorem Az.same{x:Code}{s s0 s1:St}{e:AX}(hs:aI s0 s)(h:Az (fun Q=>x.wp P Q) nt base s e s1):Az (fun Q=>x.wp P Q) nt base s0 e s1:=by
 intro hb
 obtain⟨b1,g1⟩:=h (by rw[<- hs.1];exact hb)
 refine⟨b1,fun w I φ a ho ha Q hQ=>?_⟩
 obtain⟨h1,h2⟩:=hs.2 w I φ a ho
 refine g1 w I φ a h1 ha Q fun a' w' φ' I' c1 c2 c3 c4=>hQ a' w' φ' I' c1 c2 c3 ?_
 exact⟨c4.le,c4.Ile,fun B hB=>(c4.Inew B hB).imp id (Or.imp (h2 B).1 id),fun B hB=>(c4.mt B hB).imp (h2 B).1 id,c4.ext.weaken fun B hB=>(h2 B).1 hB⟩
theorem Az.norm{x:Code}{l:List Nat}{s s1:St}(h:Az (fun Q=>x.wp P Q) nt base s .normal s1):Az (fun Q=>x.wp P Q) nt base s .normal (norm base l s1):=by
 intro hb
 obtain⟨b1,g1⟩:=h hb
 refine⟨JI b1,fun w I φ a hs ha Q hQ=>g1 w I φ a hs ha _ fun a' w' φ' I' c1 c2 c3 c4=>?_⟩
 obtain⟨n1,φ1,n2,n3⟩:=JH base l c3 b1
 exact hQ a' w' φ1 I' c1 c2 n2 (c4.trans n3)
theorem Az.loop{x:Code}{e0:AX}(he:e0 ≠ .normal){n:Nat}(S:Nat->St){T:St}(hstep:∀ j,j<n->Az (fun Q=>x.wp P Q) nt base (S j) .normal (S (j+1)))(hend:Az (fun Q=>x.wp P Q) nt base (S n) e0 T) :
  Az (fun Q=>(Code.loop x).wp P Q) nt base (S 0) e0 T:=by
 have key:∀ k j,j+k=n->Az (Ww P x) nt base (S j) e0 T:=by
  intro k
  induction k with
  | zero=>
   intro j hj hb
   have:j=n:=by omega
   subst this
   obtain⟨b1,g1⟩:=hend hb
   refine⟨b1,fun w I φ a hs ha Q hQ=>O3 (g1 w I φ a hs ha _ fun a' w' φ' I' c1 c2 c3 c4=>?_)⟩
   cases e0 with
   | normal=>exact absurd rfl he
   | exit id=>exact hQ a' w' φ' I' c1 c2 c3 c4
   | goto l=>exact hQ a' w' φ' I' c1 c2 c3 c4
   | ret=>exact hQ a' w' φ' I' c1 c2 c3 c4
  | succ k ih=>
   intro j hj hb
   obtain⟨b1,g1⟩:=hstep j (by omega) hb
   obtain⟨b2,g2⟩:=ih (j+1) (by omega) b1
   exact⟨b2,fun w I φ a hs ha Q hQ=>O3 (g1 w I φ a hs ha _ fun a' w' φ' I' c1 c2 c3 c4=>g2 w' I' φ' a' c3 c1 Q (hQ.after c2 c4))⟩
 intro hb
 obtain⟨b1,g1⟩:=key n 0 (by omega) hb
 exact⟨b1,fun w I φ a hs ha Q hQ=>S8 (g1 w I φ a hs ha Q hQ)⟩
def Cm(e0:AX)(f:St->St)(e:AX)(s:St):Option St:=match e0,e with
 | .normal,.normal=>some (f s)
 | .exit i,.exit j=>bif Nat.beq i j then some (f s)else none
 | .ret,.ret=>some (f s)
 | _,_=>none
theorem abb{run:DI St}(henv:C2 P env)(hrun:Ew P run)(hm:P.follows .mixedOrders=true){c:Code}{cur:Nat}{e0:AX}{s s':St}(hok:Ak c=true)
  (h:PV env run fn nt n base cur c (Cm e0 id) s=some s'):Az (fun Q=>c.wp P Q) nt base s e0 s':=by
 obtain⟨e,s1,h1,h2⟩:=Ol henv hrun hm hok h
 unfold Cm at h1
 cases e0 <;> cases e <;> simp only at h1 <;> first | (cases h1;exact h2) | cases h1 | skip
 rename_i i j
 obtain⟨g1,g2⟩:=Aj h1
 cases g2
 have:=Nat.eq_of_beq_eq_true g1
 subst this
 exact h2
theorem Gl{run:DI St}(henv:C2 P env)(hrun:Ew P run)(hm:P.follows .mixedOrders=true){c:Code}{cur:Nat}{l:List Nat}{s s':St}(hok:Ak c=true)
  (h:PV env run fn nt n base cur c (Cm .normal (norm base l)) s=some s'):Az (fun Q=>c.wp P Q) nt base s .normal s':=by
 obtain⟨e,s1,h1,h2⟩:=Ol henv hrun hm hok h
 cases e with
 | normal=>cases h1;exact h2.norm
 | exit id=>cases h1
 | goto l=>cases h1
 | ret=>cases h1
end
theorem GX{P:Program}{env:Env}(henv:C2 P env)(hcode:F8 P env){f:Nat}{fn:Func}{c:Code}(hf:env.code f=some fn)(hb:fn.body=some c){args:List AV}{hp:Heap}{T:St}{e:AX}(he:e=.normal\/e=.ret)
  (L:Az (fun Q=>c.wp P Q) fn.ntmps hp.length {fr:=Ce 0 args,hp:=hp} e T) {c0:Nat} (hc0:c0<=hp.length) {r:AV} {h:Heap} (hr:Ef env.tt T fn.results.toList (fun vs=>Cr c0 hp.length (F0 vs) T.hp)=some (r,h)) :
  Aa P f args hp r h/\hp.length<=h.length:=by
 obtain⟨hfn,hbody,hname,hok⟩:=hcode f fn hf
 obtain⟨vs,h4,h5⟩:=O6 henv.tt _ _ hr
 obtain⟨hlen,L⟩:=L (Nat.le_refl _)
 refine NX hc0 h4 hlen ?_
 intro w I φ ra hh hx
 refine .inl ⟨?_,calls_of_wp hfn hb ?_⟩
 ·simp only[callFunc,Sem.run_bind,run_program,Result.andThen_ok,hfn,hname,hbody,Bool.false_eq_true,if_false,Sem.run_pure]
 ·have hst:Cc w I φ {fr:=Ce 0 args,hp:=hp} {tmps:=ra++Array.replicate (fn.ntmps - ra.size) undef,defers:=[]}:=⟨hh,Ta hx _⟩
  refine L w I φ _ hst (by simp;omega) _ fun a' w' φ' I' c1 c2 c3 c4=>?_
  obtain⟨us,d1,d2,d3⟩:=h5 w' I' φ' a' c3
  have hres:(results fn a'.tmps).run P w'=.ok (if h:us.toArray.size=1 then us.toArray[0]else .tuple us.toArray) w':=by
   unfold results
   rw[Array.mapM_eq_mapM_toList]
   simp only[map_eq_pure_bind,bind_assoc,pure_bind,Sem.run_bind]
   exact(congrArg (fun(x:Result (List Value))=>x.andThen fun us w=>(pure (if h:us.toArray.size=1 then us.toArray[0]else Value.tuple us.toArray):Sem Value).run P w) d1)
  have hval:RV w' I' φ' (F0 vs) (if h:us.toArray.size=1 then us.toArray[0]else .tuple us.toArray):=by
   have htup:us.length ≠ 1->RV w' I' φ' (.tup vs) (if h:us.toArray.size=1 then us.toArray[0]else .tuple us.toArray):=by
    intro hne
    rw[dif_neg (by simpa using hne)]
    exact .tup _ _ (by simpa using d2) fun i x u e e'=>d3 i x u e (by simpa using e')
   cases vs with
   | nil=>exact htup (by simp at d2;omega)
   | cons v l=>
    cases l with
    | nil=>
     cases us with
     | nil=>simp at d2
     | cons u us=>
      cases us with
      | nil=>exact d3 0 v u rfl rfl
      | cons u' us=>simp at d2
    | cons v' l=>exact htup (by simp at d2;omega)
  have hfin:bodyPost P fn (fun e w'=>∃ u,e=.returned u /\ ∃ φ' I',RV w' I' φ' (F0 vs) u/\RH w' I' φ' (Ab T.hp)/\Step hp.length (Ab hp) φ I w (Ab T.hp) φ' I' w') .normal a' w':=
   ⟨c2,_,hres,_,rfl,φ',I',hval,c3.hh,c4⟩
  rcases he with rfl | rfl
  ·exact hfin
  ·exact hfin
end Go.AM
end
noncomputable section
open Go Go.AM Go.Md
namespace Go.Hd
open Go.Wk
set_option maxRecDepth 100000
set_option maxHeartbeats 400000
theorem ah0(N:Nat)(l:List Msg):BA 0 (Kk N1) (N+1) Cf [AG l] []=gC Ep Es (Er 31) [AG l] fun y=>LP (Kk N1) N 0 Cf (Cr 0 0) 0 [] N (iC y.1 y.2 0):=by kernel_rfl
theorem uN(N m:Nat)(l:List Msg)(i:Int):LP (Kk N1) N 0 Cf (Cr 0 0) 0 [] (m+1) (iC l.length (BX l) i) =
 bif decide (i<(l.length:Int))then rg i l.length (bif i.toNat.blt l.length then gC (fun a=>BI (AA a 0)) I7 (fun m=>[.agg (Ac m)]) [.agg (Ac (l.getD i.toNat default))] fun y=>
  rg i l.length (bif i.toNat.blt l.length&&true then LP (Kk N1) N 0 Cf (Cr 0 0) 0 [] m (iC l.length (fun i'=>bif i'.beq i.toNat then Ac y else Ac (l.getD i' default)) (IntKind.i64.wrap (i+1)))else none)else none)
 else some (.sn 31 0 l.length,[.seq true 31 l.length (BX l)]):=by kernel_rfl
theorem uO(l:List Msg)(h:Kl l):Aa PG Cf [AG l] [] (.sn 31 0 l.length) [Bc 31 Ac default l]:=by
 obtain⟨N,hN⟩:∃ N,N=200000:=⟨_,rfl⟩
 have run:∀ d i m,i+d=l.length->d<m->LP (Kk N1) N 0 Cf (Cr 0 0) 0 [] m (iC l.length (BX l) (i:Nat))=some (.sn 31 0 l.length,[Bc 31 Ac default l]):=by
  intro d
  induction d with
  | zero=>
   intro i m hi hm
   obtain⟨m,rfl⟩:∃ k,m=k+1:=⟨m - 1,by omega⟩
   rw[uN,decide_eq_false (by omega),cond_false];rfl
  | succ d ih=>
   intro i m hi hm
   obtain⟨m,rfl⟩:∃ k,m=k+1:=⟨m - 1,by omega⟩
   have hil:i<l.length:=by omega
   have hc:=h.2 _ (getD_mem (z:=(default:Msg)) hil)
   have e:=ih (i+1) m (by omega) (by omega)
   have h1:=h.1
   have hw:IntKind.i64.wrap ((i:Int)+1)=((i+1:Nat):Int):=Bz (by omega)
   have hs:=set_same Ac default l i
   rw[uN,decide_eq_true (show((i:Nat):Int)<(l.length:Int) by omega),cond_true,Bq hil,Int.toNat_natCast,AB hil,cond_true,XU hc,Bq hil,Bool.and_true,cond_true,hw,hs]
   exact e
 refine Zm (n:=N+1) (ak (It Zo) (ak Ti AL)) ((ah0 N l).trans ?_)
 refine(FT h.1).trans ?_
 exact run l.length 0 N (by omega) (by have:=h.1;omega)
def Rf:Known:=.specB Cf (fun a=>AN BI (a.getD 0 .nils)) Kl (fun l=>[AG l]) (fun l=>(.sn 31 0 l.length,[Bc 31 Ac default l]))
theorem uP:Rf.Ok PG:=Known.specB_ok uO
end Go.Hd
end
noncomputable section
set_option linter.unusedVariables false
set_option linter.unusedSimpArgs false
namespace Go.AM
def MZ(l:List Nat)(s:St):St:={fr:=l.map fun t=>(t,A3 s.fr t),hp:=s.hp}
theorem aJ(s:St)(t:Nat):∀ l:List Nat,A3 (l.map fun t=>(t,A3 s.fr t)) t=A3 s.fr t\/A3 (l.map fun t=>(t,A3 s.fr t)) t=.undef
 | []=>.inr rfl
 | x::l=>by
  simp only[List.map_cons,A3]
  cases h:Nat.beq x t with
  | true=>have:=Nat.eq_of_beq_eq_true h;subst this;exact .inl rfl
  | false=>exact aJ s t l
theorem Cc.sel{w:World}{I:Nat->Prop}{φ:Phi}{s:St}{a:Act}(h:Cc w I φ s a)(l:List Nat):Cc w I φ (MZ l s) a:=
 ⟨h.hh,fun t=>by
  rcases aJ s t l with e | e
  ·show RV w I φ (A3 (l.map fun t=>(t,A3 s.fr t)) t) _
   rw[e];exact h.fr t
  ·show RV w I φ (A3 (l.map fun t=>(t,A3 s.fr t)) t) _
   rw[e];exact .undef _⟩
theorem Az.sel{P:Program}{nt base:Nat}{X:(Exit->Act->World->Prop)->Act->World->Prop}{s s1:St}{e:AX}(h:Az X nt base s e s1)(l:List Nat):Az X nt base s e (MZ l s1):=by
 intro hb
 obtain⟨b1,g1⟩:=h hb
 exact⟨b1,fun w I φ a hs ha Q hQ=>g1 w I φ a hs ha Q fun a' w' φ' I' c1 c2 c3 c4=>hQ a' w' φ' I' c1 c2 (c3.sel l) c4⟩
theorem E3{P:Program}{env:Env}{fn nt n base:Nat}{run:DI St}(henv:C2 P env)(hrun:Ew P run)(hm:P.follows .mixedOrders=true){c:Code}{cur:Nat}{e0:AX}{l:List Nat}{s s':St}(hok:Ak c=true)
  (h:PV env run fn nt n base cur c (Cm e0 (MZ l)) s=some s'):Az (fun Q=>c.wp P Q) nt base s e0 s':=by
 obtain⟨e,s1,h1,h2⟩:=Ol henv hrun hm hok h
 unfold Cm at h1
 cases e0 <;> cases e <;> simp only at h1 <;> first | (cases h1;exact h2.sel (P:=P) l) | cases h1 | skip
 rename_i i j
 obtain⟨g1,g2⟩:=Aj h1
 cases g2
 have:=Nat.eq_of_beq_eq_true g1
 subst this
 exact h2.sel (P:=P) l
theorem Az.to_same{nt base:Nat}{X:(Exit->Act->World->Prop)->Act->World->Prop}{s s1 s2:St}{e:AX}(h:Az X nt base s e s1)(hs:aI s1 s2):Az X nt base s e s2:=by
 intro hb
 obtain⟨b1,g1⟩:=h hb
 refine⟨by rw[<- hs.1];exact b1,fun w I φ a ho ha Q hQ=>g1 w I φ a ho ha Q fun a' w' φ' I' c1 c2 c3 c4=>?_⟩
 obtain⟨h1,h2⟩:=hs.2 w' I' φ' a' c3
 exact hQ a' w' φ' I' c1 c2 h1 ⟨c4.le,c4.Ile,c4.Inew,fun B hB=>c4.mt B ((h2 B).1 hB),c4.ext⟩
theorem RV.snTree{w:World}{I J:Nat->Prop}{φ φ':Phi}{sz b n B o s m:Nat}{mu:Bool}{f:Nat->List AV}{u:Value}(h:RV w I φ (.sn sz b n) u)(hφ:φ b=some (B,o,s))(hb:RB w I φ B o s (.seq mu s m f))(hm:n<=m)
  (hI:∀ B,I B->J B) (hJ:J B):RV w J φ' (.tr sz n f) u:=by
 obtain⟨_,_,a2,a3⟩:=hb
 cases h with
 | sn0 _ _ a=>exact .trn _ _ _
 | sn _ _ _ B' o' cap h' hl hz=>
  rw[hφ]at h';cases h'
  have key:∀ i k c,i<n->(f i)[k]? = some c -> ∃ u,w.cell? ⟨B,o+i*sz+k,none⟩=some u/\u.oneCell'=true/\RV w J Phi.no c u:=by
   intro i k c hi e
   obtain⟨u,g1,g2,g3⟩:=a3 i k c (by omega) e
   exact⟨u,g1,g2,g3.mono (fun B hB=>⟨hI B hB,rfl⟩) (fun _=>Nat.le_refl _) (Phi.le_refl _)⟩
  refine .tr sz n f B o cap (fun i k=>(w.cell? ⟨B,o+i*sz+k,none⟩).getD Go.undef) (fun _=>hJ) hl (fun _=>hz) (fun i hi=>a2 i (by omega)) (fun i k c hi e=>?_) (fun i k c hi e=>?_) (fun i k c hi e=>?_)
  ·obtain⟨u,g1,g2,g3⟩:=key i k c hi e;rw[g1];rfl
  ·obtain⟨u,g1,g2,g3⟩:=key i k c hi e;rw[g1];exact g2
  ·obtain⟨u,g1,g2,g3⟩:=key i k c hi e;rw[g1];exact g3
theorem Aa.close{P:Program}{f:Nat}{args:List AV}{hp rh rh':Heap}{r:AV}(h:Aa P f args hp r rh){b kk sz n s' n' i0:Nat}{m cur:Bool}{F G:Nat->List AV}{pre:List AV}{ks:List Nat}
  (hb:Ab rh b=.sqr m sz n F i0 (pre++[.sn s' kk n']) ks cur) (hk:Ab rh kk=.seq true s' n' G) (hF:∀ j,j<n->(F j).all BP=true) (hpre:pre.all BP=true) (hbk:b ≠ kk) (hn:0<n')
  (hb':Ab rh' b=.seq m sz n fun j=>bif Nat.beq j i0 then pre++[.tr s' n' G]else F j) (hk':Ab rh' kk=.dead) (ho:∀ c,c ≠ b->c ≠ kk->Ab rh' c=Ab rh c):Aa P f args hp r rh':=by
 intro w I φ ra hh hx
 refine(h w I φ ra hh hx).mono fun u w' ⟨φ',I',a1,a2,a3⟩=>?_
 obtain⟨Bk,ok,szk,ek,rk⟩:=a2.blkN (b:=kk) (by rw[hk];simp only[Ds];omega) (by rw[hk];rfl)
 have mk:An (Ab rh kk)=true:=by rw[hk];rfl
 have hmut:∀ c,An (Ab rh' c)=true->An (Ab rh c)=true/\c ≠ kk:=by
  intro c hc
  by_cases h1:c=kk
  ·subst h1;rw[hk']at hc;cases hc
  ·by_cases h2:c=b
   ·subst h2;rw[hb']at hc;rw[hb];exact⟨hc,h1⟩
   ·rw[ho c h2 h1]at hc;exact⟨hc,h1⟩
 have hlive:∀ c,live (Ab rh' c)=true->live (Ab rh c)=true/\c ≠ kk:=by
  intro c hc
  by_cases h1:c=kk
  ·subst h1;rw[hk']at hc;cases hc
  ·by_cases h2:c=b
   ·subst h2;rw[hb];exact⟨rfl,h1⟩
   ·rw[ho c h2 h1]at hc;exact⟨hc,h1⟩
 have hJ:∀ B,I' B->(I' B\/B=Bk):=fun B hB=>.inl hB
 refine⟨φ',fun B=>I' B\/B=Bk,a1.mono (fun B hB=>⟨.inl hB,rfl⟩) (fun _=>Nat.le_refl _) (Phi.le_refl _),⟨fun c e=>?_,fun c hl=>?_,fun c c' B o sz o' sz' m1 m2=>a2.inj c c' B o sz o' sz' (hmut c m1).1 (hmut c' m2).1,fun c B o sz m1 e=>?_,fun c B o sz hl m1 e=>?_,fun B hB=>?_⟩,⟨a3.le,fun B hB=>.inl (a3.Ile B hB),fun B hB=>?_,fun B ⟨c,o,sz,m1,e⟩=>a3.mt B ⟨c,o,sz,(hmut c m1).1,e⟩,a3.ext⟩⟩
 ·by_cases h1:c=kk
  ·subst h1;rw[hk']at e;cases e
  ·by_cases h2:c=b
   ·subst h2;rw[hb']at e;cases e
   ·rw[ho c h2 h1]at e;exact a2.none c e
 ·obtain⟨hl1,hck⟩:=hlive c hl
  by_cases h2:c=b
  ·subst h2
   rcases a2.blk c hl1 with ⟨B,o,sz1,e1,rb⟩ | ⟨_,hp⟩
   ·refine .inl ⟨B,o,sz1,e1,?_⟩
    rw[hb]at rb
    rw[hb']
    obtain⟨g0,g1,g2,g3⟩:=rb
    have g2':∀ j,j<n->(bif Nat.beq j i0 then pre++[AV.tr s' n' G]else F j).length=sz1:=by
     intro j hj
     have:=g2 j hj
     unfold Ec at this
     cases hq:Nat.beq j i0 with
     | true=>rw[hq]at this;simpa using this
     | false=>rw[hq]at this;exact this
    refine⟨g0,g1,g2',fun j k c0 hj e=>?_⟩
    have g3:=fun k c=>g3 j k c hj
    unfold Ec at g3
    cases hq:Nat.beq j i0 with
    | false=>
     rw[hq,cond_false]at g3
     dsimp only at e
     rw[hq,cond_false]at e
     obtain⟨u,u1,u2,u3⟩:=g3 k c0 e
     exact⟨u,u1,u2,(u3.free ((List.all_eq_true.1 (hF j hj)) c0 (List.mem_of_getElem? e))).mono (fun B hB=>⟨.inl hB,rfl⟩) (fun _=>Nat.le_refl _) (Phi.le_refl _)⟩
    | true=>
     rw[hq,cond_true]at g3
     dsimp only at e
     rw[hq,cond_true,List.getElem?_append]at e
     split at e
     ·rename_i hkl
      obtain⟨u,u1,u2,u3⟩:=g3 k c0 (by rw[List.getElem?_append_left hkl];exact e)
      exact⟨u,u1,u2,(u3.free ((List.all_eq_true.1 hpre) c0 (List.mem_of_getElem? e))).mono (fun B hB=>⟨.inl hB,rfl⟩) (fun _=>Nat.le_refl _) (Phi.le_refl _)⟩
     ·rename_i hkl
      have hke:k=pre.length:=by
       rcases Nat.lt_or_ge k (pre.length+1)with h1 | h1
       ·omega
       ·rw[List.getElem?_eq_none (by simp;omega)]at e;cases e
      subst hke
      rw[Nat.sub_self]at e
      cases e
      obtain⟨u,u1,u2,u3⟩:=g3 pre.length (.sn s' kk n') (by simp)
      rw[hk]at rk
      have e9:s'=szk:=rk.1
      subst e9
      exact⟨u,u1,u2,u3.snTree ek rk (Nat.le_refl _) hJ (.inr rfl)⟩
   ·rw[hb]at hp;exact hp.elim
  ·have e0:=ho c h2 hck
   rw[e0]at hl ⊢
   rcases a2.blk c hl with ⟨B,o,sz1,e1,rb⟩ | hp
   ·exact .inl ⟨B,o,sz1,e1,rb.mono (fun B hB=>⟨.inl hB,rfl⟩) (fun _=>Nat.le_refl _) (Phi.le_refl _) rfl⟩
   ·exact .inr hp
 ·obtain⟨m2,hck⟩:=hmut c m1
  rintro(hB | rfl)
  ·exact a2.disj c B o sz m2 e hB
  ·exact hck (a2.inj c kk _ _ _ _ _ m2 mk e ek)
 ·obtain⟨hl1,hck⟩:=hlive c hl
  refine .inl (a2.imm c B o sz hl1 ?_ e)
  by_cases h2:c=b
  ·subst h2;rw[hb']at m1;rw[hb];exact m1
  ·rw[ho c h2 hck]at m1;exact m1
 ·rcases hB with hB | rfl
  ·exact a2.lt B hB
  ·exact rk.lt (by rw[hk];rfl)
 ·rcases hB with hB | rfl
  ·exact a3.Inew B hB
  ·exact(a3.mt _ ⟨kk,ok,szk,mk,ek⟩).elim (fun h=>.inr (.inl h)) (fun h=>.inr (.inr h))
end Go.AM
end
noncomputable section
open Go Go.AM Go.Md
namespace Go.Hd
open Go.Wk
set_option maxRecDepth 100000
set_option maxHeartbeats 400000
def KU(a:Md.Ask)(b n:Nat):List AV:=[.int .i64 a.num,.str a.key,.sn 31 b n]
def Gm(w:Wrk)(I:Nat)(a:Md.Ask)(cur:Bool):Heap:=[.arr true 44 [HQ w (.sn 4 1 w.d.waits.length) (.sn 3 2 w.d.asks.length) (.sn 31 4 w.out.length)],.seq true 4 w.d.waits.length (D5 w.d.waits),.sqr true 3 w.d.asks.length (B5 w.d.asks) I (KU a 3 a.calls.length) [3] cur,.seq true 31 a.calls.length (BX a.calls),.seq true 31 w.out.length (BX w.out)]
def aK:Code:=CM (UB N3) BR
def A0:Code:=sub aK [.L]
def A1:Code:=sub aK [.R,.L,.L]
def Xj:Code:=sub aK [.R,.L,.R,.L,.L]
def A2:Code:=sub aK [.R,.R]
theorem uQ:aK=.seq A0 (.seq (.seq A1 (.block 0 (.loop Xj))) A2):=by kernel_rfl
def SA0(w:Wrk)(I:Nat)(a:Md.Ask)(q:Msg):St:={fr:=(3,.ptr 5 0 0)::Ce 0 [.ptr 0 0 0,.agg (Ac q)],hp:=Gm w I a false++[.arr true 31 [Ac q]]}
def SA(w:Wrk)(I:Nat)(a:Md.Ask)(q:Msg)(i:Int)(cur:Bool):St:={fr:=[(0,.ptr 0 0 0),(3,.ptr 5 0 0),(12,.int .i64 w.d.asks.length),(13,.int .i64 i)],hp:=Gm w I a cur++[.arr true 31 [Ac q]]}
def SAT(w:Wrk)(I:Nat)(a:Md.Ask)(q y:Msg):St:={fr:=[],hp:=[.arr true 44 [HQ w (.sn 4 1 w.d.waits.length) (.sn 3 2 w.d.asks.length) (.sn 31 4 w.out.length)],.seq true 4 w.d.waits.length (D5 w.d.waits),.sqr true 3 w.d.asks.length (B5 w.d.asks) I (KU a 7 (a.calls.length+1)) [3,7] true,.dead,.seq true 31 w.out.length (BX w.out),.arr true 31 [Ac q],.arr true 31 [Ac y],.seq true 31 (a.calls.length+1) (Be a.calls.length (BX a.calls) (.list [Ac y]))]}
def evA(x:Code)(K:AX->St->Option St)(s:St):Option St:=PV (UB N3) (D2 (UB N3) 0) BR 103 0 5 0 x K s
theorem alT(w:Wrk)(I:Nat)(a:Md.Ask)(q:Msg):evA A0 (Cm .normal id) {fr:=Ce 0 [.ptr 0 0 0,.agg (Ac q)],hp:=Gm w I a false}=some (SA0 w I a q):=by kernel_rfl
theorem alU(w:Wrk)(I:Nat)(a:Md.Ask)(q:Msg):evA A1 (Cm .normal (norm 5 [0,3,12,13])) (SA0 w I a q)=some (SA w I a q 0 false):=by kernel_rfl
theorem alV(w:Wrk)(I:Nat)(a:Md.Ask)(q:Msg)(i:Int):evA Xj (Cm .normal (norm 5 [0,3,12,13])) (SA w I a q i false) =
 bif decide (i<(w.d.asks.length:Int))then rg i w.d.asks.length (bif i.toNat.blt w.d.asks.length && !i.toNat.beq I then bif Ah (w.d.asks.getD i.toNat default).key q.op.key then
   bif i.toNat.blt w.d.asks.length && !i.toNat.beq I then bif decide (((w.d.asks.getD i.toNat default).calls.length:Int)<w.c.maxLog)then
    bif i.toNat.blt w.d.asks.length && !i.toNat.beq I then gC (fun a=>BI (AA a 0)) I7 (fun m=>[.agg (Ac m)]) [.agg (Ac q)] fun _=>bif(((w.d.asks.getD i.toNat default).calls.length+1)*392).ble 140737488355328&&((w.d.asks.getD i.toNat default).calls.length+1).ble 140737488355328 then none else none else none
   else none else none
  else some (SA w I a q (IntKind.i64.wrap (i+1)) false)else none)
 else none:=by kernel_rfl
theorem aky(w:Wrk)(I:Nat)(a:Md.Ask)(q:Msg)(i:Int):evA Xj (Cm .ret (MZ [])) (SA w I a q i true) =
 bif decide (i<(w.d.asks.length:Int))then rg i w.d.asks.length (bif i.toNat.blt w.d.asks.length&&i.toNat.beq I then bif Ah a.key q.op.key then
   bif i.toNat.blt w.d.asks.length&&i.toNat.beq I then bif decide ((a.calls.length:Int)<w.c.maxLog)then
    bif i.toNat.blt w.d.asks.length&&i.toNat.beq I then gC (fun a=>BI (AA a 0)) I7 (fun m=>[.agg (Ac m)]) [.agg (Ac q)] fun y=>bif a.calls.length.ble a.calls.length then bif((a.calls.length+1)*392).ble 140737488355328&&(a.calls.length+1).ble 140737488355328 then
     bif i.toNat.blt w.d.asks.length&&i.toNat.beq I then some (SAT w I a q y)else none else none else none else none
   else some {fr:=[],hp:=(SA w I a q i true).hp}else none
  else none else none)
 else none:=by kernel_rfl
def Kp(w:Wrk):Heap:=[.arr true 44 [HQ w (.sn 4 5 w.d.waits.length) (.sn 3 6 w.d.asks.length) (.sn 31 7 w.out.length)],.dead,.dead,.dead,.dead,.seq true 4 w.d.waits.length (D5 w.d.waits),.seq true 3 w.d.asks.length (B5 w.d.asks),.seq true 31 w.out.length (BX w.out)]
def LK(l:List Md.Ask)(I:Nat)(q:Msg):List Md.Ask:=l.set I {l.getD I default with calls:=(l.getD I default).calls++[q]}
def M0(w:Wrk)(I:Nat)(q:Msg):Wrk:={w with d:={w.d with asks:=LK w.d.asks I q}}
def UC(w:Wrk)(I:Nat)(q:Msg):Prop:=I<w.d.asks.length/\(w.d.asks.getD I default).key=q.op.key/\(∀ j,j<I->(w.d.asks.getD j default).key ≠ q.op.key)/\(((w.d.asks.getD I default).calls.length:Int)<w.c.maxLog)/\(w.d.asks.getD I default).calls.length<=100000/\w.d.asks.length<=100000/\I7 q
def hF1(w:Wrk)(I:Nat)(a:Md.Ask)(q:Msg):Heap:=[.arr true 44 [HQ w (.sn 4 5 w.d.waits.length) (.sn 3 6 w.d.asks.length) (.sn 31 9 w.out.length)],.dead,.dead,.dead,.dead,.seq true 4 w.d.waits.length (D5 w.d.waits),.sqr true 3 w.d.asks.length (B5 w.d.asks) I (KU a 8 (a.calls.length+1)) [7,8] true,.dead,.seq true 31 (a.calls.length+1) (Be a.calls.length (BX a.calls) (.list [Ac q])),.seq true 31 w.out.length (BX w.out)]
theorem akz(w:Wrk)(I:Nat)(a:Md.Ask)(q y:Msg):Cr 1 5 (F0 []) (SAT w I a q y).hp=some (.tup [],hF1 w I a y):=by kernel_rfl
def hF2(w:Wrk)(I:Nat)(a:Md.Ask)(q:Msg):Heap:=[.arr true 44 [HQ w (.sn 4 5 w.d.waits.length) (.sn 3 6 w.d.asks.length) (.sn 31 9 w.out.length)],.dead,.dead,.dead,.dead,.seq true 4 w.d.waits.length (D5 w.d.waits),.seq true 3 w.d.asks.length (fun j=>bif Nat.beq j I then [.int .i64 a.num,.str a.key]++[.tr 31 (a.calls.length+1) (Be a.calls.length (BX a.calls) (.list [Ac q]))]else B5 w.d.asks j),.dead,.dead,.seq true 31 w.out.length (BX w.out)]
def hF3(w:Wrk)(I:Nat)(a:Md.Ask)(q:Msg):Heap:=[.arr true 44 [HQ w (.sn 4 5 w.d.waits.length) (.sn 3 6 w.d.asks.length) (.sn 31 7 w.out.length)],.dead,.dead,.dead,.dead,.seq true 4 w.d.waits.length (D5 w.d.waits),.seq true 3 w.d.asks.length (fun j=>bif Nat.beq j I then [.int .i64 a.num,.str a.key]++[.tr 31 (a.calls.length+1) (Be a.calls.length (BX a.calls) (.list [Ac q]))]else B5 w.d.asks j),.seq true 31 w.out.length (BX w.out)]
theorem ah1(w:Wrk)(I:Nat)(a:Md.Ask)(q:Msg):Cr 1 5 (.tup []) (hF2 w I a q)=some (.tup [],hF3 w I a q):=by kernel_rfl
theorem abc(l:List Md.Ask)(I:Nat)(q:Msg)(hI:I<l.length)(j:Nat)(hj:j<l.length) :
  (bif Nat.beq j I then [AV.int .i64 (l.getD I default).num,.str (l.getD I default).key]++[.tr 31 ((l.getD I default).calls.length+1) (Be (l.getD I default).calls.length (BX (l.getD I default).calls) (.list [Ac q]))]else B5 l j)=B5 (LK l I q) j:=by
 have e:Be (l.getD I default).calls.length (BX (l.getD I default).calls) (.list [Ac q])=BX ((l.getD I default).calls++[q]):=uC _ _ _ _
 rw[e]
 by_cases h:j=I
 ·subst h
  rw[beq_true rfl,cond_true]
  unfold B5 LK
  have:(l.set j {l.getD j default with calls:=(l.getD j default).calls++[q]}).getD j default={l.getD j default with calls:=(l.getD j default).calls++[q]}:=by
   simp[List.getD,hj]
  rw[this]
  unfold B4 AG C5
  rw[List.length_append];rfl
 ·rw[beq_false h,cond_false]
  unfold B5 LK
  have:(l.set I {l.getD I default with calls:=(l.getD I default).calls++[q]}).getD j default=l.getD j default:=by
   simp only[List.getD]
   rw[List.getElem?_set_ne (fun e=>h e.symm)]
  rw[this]
theorem uR(w:Wrk)(I:Nat)(q:Msg)(h:UC w I q):Aa PG BR [.ptr 0 0 0,.agg (Ac q)] (Gm w I (w.d.asks.getD I default) false) (.tup []) (Kp (M0 w I q))/\(Gm w I (w.d.asks.getD I default) false).length<=(Kp (M0 w I q)).length:=by
 obtain⟨h1,h2,h3,h4,h5,h6,h7⟩:=h
 obtain⟨a,ha⟩:∃ a,w.d.asks.getD I default=a:=⟨_,rfl⟩
 rw[ha]at h2 h4 h5
 rw[ha]
 have henv:C2 PG (UB N3):=Fo VA
 have hcode:F8 PG (UB N3):=Dm
 have hrun:Ew PG (D2 (R:=St) (UB N3) 0):=K5 henv hcode mixed 0
 obtain⟨fn,hf,hb,hnt,hres⟩:∃ fn,(UB N3).code BR=some fn/\fn.body=some aK/\fn.ntmps=103/\fn.results.toList=[]:=⟨_,rfl,by kernel_rfl,by kernel_rfl,by kernel_rfl⟩
 obtain⟨_,_,_,hok⟩:=hcode _ fn hf
 have hok:=hok _ hb
 rw[uQ]at hok
 obtain⟨ok0,hok⟩:=Ad (show(Ak A0&&Ak (.seq (.seq A1 (.block 0 (.loop Xj))) A2))=true from hok)
 obtain⟨hok,ok2⟩:=Ad (show(Ak (.seq A1 (.block 0 (.loop Xj)))&&Ak A2)=true from hok)
 obtain⟨ok1,okx⟩:=Ad (show(Ak A1&&Ak Xj)=true from hok)
 have L0:=abb henv hrun mixed ok0 (alT w I a q)
 have L1:=Gl henv hrun mixed ok1 (alU w I a q)
 have hstep:∀ j,j<I->Az (fun Q=>Xj.wp PG Q) 103 5 (SA w I a q (j:Nat) false) .normal (SA w I a q ((j+1:Nat):Int) false):=by
  intro j hj
  refine Gl henv hrun mixed okx ((alV w I a q (j:Nat)).trans ?_)
  have hne:Ah (w.d.asks.getD j default).key q.op.key=false:=by
   rw[A7]
   simpa using h3 j hj
  have hw:IntKind.i64.wrap ((j:Int)+1)=((j+1:Nat):Int):=Bz (by omega)
  rw[decide_eq_true (show((j:Nat):Int)<(w.d.asks.length:Int) by omega),cond_true,Bq (by omega),Int.toNat_natCast,AB (by omega),beq_false (show j ≠ I by omega),Bool.not_false,Bool.and_true,cond_true,hne,cond_false,hw]
 have hsame:aI (SA w I a q (I:Nat) false) (SA w I a q (I:Nat) true):=by
  refine⟨rfl,fun w1 I1 φ a1 hs=>?_⟩
  have hB:∀ B o sz,RB w1 I1 φ B o sz (.sqr true 3 w.d.asks.length (B5 w.d.asks) I (KU a 3 a.calls.length) [3] false)->RB w1 I1 φ B o sz (.sqr true 3 w.d.asks.length (B5 w.d.asks) I (KU a 3 a.calls.length) [3] true):=fun B o sz h=>h
  have hget2:∀ b,(b ≠ 2->Ab (SA w I a q (I:Nat) true).hp b=Ab (SA w I a q (I:Nat) false).hp b):=by
   intro b hb2
   match b,hb2 with
   | 0,_=>rfl
   | 1,_=>rfl
   | 2,h=>exact absurd rfl h
   | b+3,_=>rfl
  have h2t:Ab (SA w I a q (I:Nat) true).hp 2=.sqr true 3 w.d.asks.length (B5 w.d.asks) I (KU a 3 a.calls.length) [3] true:=rfl
  have h2f:Ab (SA w I a q (I:Nat) false).hp 2=.sqr true 3 w.d.asks.length (B5 w.d.asks) I (KU a 3 a.calls.length) [3] false:=rfl
  have hmm:∀ b,An (Ab (SA w I a q (I:Nat) true).hp b)=An (Ab (SA w I a q (I:Nat) false).hp b):=by
   intro b
   by_cases hb2:b=2
   ·subst hb2;rw[h2t,h2f];rfl
   ·rw[hget2 b hb2]
  have hll:∀ b,live (Ab (SA w I a q (I:Nat) true).hp b)=live (Ab (SA w I a q (I:Nat) false).hp b):=by
   intro b
   by_cases hb2:b=2
   ·subst hb2;rw[h2t,h2f];rfl
   ·rw[hget2 b hb2]
  refine⟨⟨⟨fun b e=>hs.hh.none b ?_,fun b e=>?_,fun b b' B o sz o' sz' e e'=>hs.hh.inj b b' B o sz o' sz' (by rw[<- hmm];exact e) (by rw[<- hmm];exact e'),fun b B o sz e=>hs.hh.disj b B o sz (by rw[<- hmm];exact e),fun b B o sz e e2=>hs.hh.imm b B o sz (by rw[<- hll];exact e) (by rw[<- hmm];exact e2),hs.hh.lt⟩,hs.fr⟩,
   fun B=>⟨fun⟨b,o,sz,e,e'⟩=>⟨b,o,sz,by rw[<- hmm];exact e,e'⟩,fun⟨b,o,sz,e,e'⟩=>⟨b,o,sz,by rw[hmm];exact e,e'⟩⟩⟩
  ·by_cases hb2:b=2
   ·subst hb2;rw[h2t]at e;cases e
   ·rw[hget2 b hb2]at e;exact e
  ·by_cases hb2:b=2
   ·subst hb2
    rcases hs.hh.blk 2 (by rw[<- hll];exact e)with ⟨B,o,sz,e1,r⟩ | ⟨_,hp⟩
    ·rw[h2f]at r
     exact .inl ⟨B,o,sz,e1,by rw[h2t];exact hB B o sz r⟩
    ·rw[h2f]at hp;exact hp.elim
   ·rw[hget2 b hb2]at e ⊢
    exact hs.hh.blk b e
 have hend:Az (fun Q=>Xj.wp PG Q) 103 5 (SA w I a q (I:Nat) false) .ret (SAT w I a q q):=by
  refine Az.same hsame (E3 (l:=[]) henv hrun mixed okx ((aky w I a q (I:Nat)).trans ?_))
  have heq:Ah a.key q.op.key=true:=by rw[A7];simpa using h2
  have t:∀ {K:Msg->Option St},gC (fun a=>BI (AA a 0)) I7 (fun m=>[.agg (Ac m)]) [.agg (Ac q)] K=K q:=fun {K}=>XU h7
  rw[decide_eq_true (show((I:Nat):Int)<(w.d.asks.length:Int) by omega),cond_true,Bq h1,Int.toNat_natCast,AB h1,beq_true rfl,Bool.and_true,cond_true,heq,cond_true,decide_eq_true h4,cond_true,t,
   Aq (Nat.le_refl _),Aq (show(a.calls.length+1)*392<=140737488355328 by omega),Aq (show a.calls.length+1<=140737488355328 by omega)]
  rfl
 have LL:=Az.loop (by simp) (fun j=>SA w I a q ((j:Nat):Int) false) hstep hend
 have L:Az (fun Q=>aK.wp PG Q) fn.ntmps 5 {fr:=Ce 0 [.ptr 0 0 0,.agg (Ac q)],hp:=Gm w I a false} .ret (SAT w I a q q):=by
  rw[uQ,hnt]
  exact L0.seq (Az.seq_ret (L1.seq (Az.block_ret LL)))
 have c1:=GX henv hcode hf hb (hp:=Gm w I a false) (.inr rfl) L (c0:=1) (by show 1<=5;omega) (r:=.tup []) (h:=hF1 w I a q) (by rw[hres];exact akz w I a q q)
 have c2:Aa PG BR [.ptr 0 0 0,.agg (Ac q)] (Gm w I a false) (.tup []) (hF2 w I a q):=by
  refine c1.1.close (b:=6) (kk:=8) (pre:=[.int .i64 a.num,.str a.key]) rfl rfl (fun j _=>rfl) rfl (by omega) (by omega) rfl rfl fun c h6 h8=>?_
  match c,h6,h8 with
  | 0,_,_=>rfl
  | 1,_,_=>rfl
  | 2,_,_=>rfl
  | 3,_,_=>rfl
  | 4,_,_=>rfl
  | 5,_,_=>rfl
  | 6,h,_=>exact absurd rfl h
  | 7,_,_=>rfl
  | 8,_,h=>exact absurd rfl h
  | c+9,_,_=>rfl
 have c3:=NX (c:=1) (hp:=Gm w I a false) (by show 1<=5;omega) (ah1 w I a q) (by show 5<=10;omega) c2
 refine⟨?_,by show 5<=8;omega⟩
 have hl:(LK w.d.asks I q).length=w.d.asks.length:=by simp[LK]
 have hd:Kp (M0 w I q)=[.arr true 44 [HQ w (.sn 4 5 w.d.waits.length) (.sn 3 6 w.d.asks.length) (.sn 31 7 w.out.length)],.dead,.dead,.dead,.dead,.seq true 4 w.d.waits.length (D5 w.d.waits),.seq true 3 w.d.asks.length (B5 (LK w.d.asks I q)),.seq true 31 w.out.length (BX w.out)]:=by
  rw[<- hl];rfl
 rw[hd]
 refine c3.1.resub (.refl _) (.cons (.refl _) (.cons (.refl _) (.cons (.refl _) (.cons (.refl _) (.cons (.refl _) (.cons (.refl _) (.cons (.seq true 3 _ _ _ _ (Nat.le_refl _) fun j hj=>?_) (.cons (.refl _) .nil))))))))
 rw[<- ha,abc w.d.asks I q h1 j hj]
 exact .refl _
def nA(l:List Known):Env:=BU [(BV,0,[1,2,34,35])] [(Cf,1)] [] l
theorem ae6:∀ k ∈ Km,k.Ok PG:=ak ZW (ak (Dn Gf) (ak (Dn Nw) (ak (It WR) (ak (It Zn) (ak ZX AL)))))
def aL:Code:=CM (OB Km) BV
def dc(k:Nat):Code:=sub aL (List.replicate k .R++[.L])
def D7:Code:=sub aL [.R,.R,.R,.R,.R,.R,.R,.L,.L]
def P7:Code:=sub aL [.R,.R,.R,.R,.R,.R,.R,.L,.R,.L,.L]
def D8:Code:=sub aL [.R,.R,.R,.R,.R,.R,.R,.R]
theorem uS:aL=.seq (dc 0) (.seq (dc 1) (.seq (dc 2) (.seq (dc 3) (.seq (dc 4) (.seq (dc 5) (.seq (dc 6) (.seq (.seq D7 (.block 0 (.loop P7))) D8))))))):=by kernel_rfl
def alW(r:Rep)(pn:Int)(o dn cl:AV)(b:Bool)(x y:AV)(nx:Int):List AV:=[.int .i64 r.shard,.int .i64 r.self.node,.int .i64 r.self.boot,.int .i64 r.view.shard,.int .i64 r.view.epoch,.int .i64 r.view.gen,.int .i64 r.view.phase,Ay r.view.chain,.int .i64 r.frozen,.cplx .f64 r.tail.floor.re r.tail.floor.im,.cplx .f64 r.tail.last.re r.tail.last.im,Ae r.tail.log,Ax r.seen,.cplx .f64 r.got.re r.got.im,Ch r.synced,.int .i64 pn,o,dn,cl,.bool b,x,y,.int .i64 nx]
def alX:Fr:=[(1,.ptr 0 0 0),(2,.ptr 1 0 0)]
def uT(r:Rep)(pn:Int)(o dn cl:AV)(b:Bool)(x y:AV)(nx:Int)(l:Heap):St:={fr:=alX,hp:=.arr true 23 [alW r pn o dn cl b x y nx] :: .arr true 23 [ZY]::l}
def SU(d:Md.Desk)(x y:AV)(l:Heap):St:=uT d.rep d.pump.num (Ae d.pump.out) (Al d.pump.done) (Al d.clean) d.busy x y d.next l
def P8(x:Code)(K:AX->St->Option St)(s:St):Option St:=PV (OB Km) (D2 (OB Km) 0) BV 52 0 0 0 x K s
def alY(x:Code)(K:AX->St->Option St)(s:St):Option St:=PV (nA [Rf]) (D2 (nA [Rf]) 0) BV 52 0 0 0 x K s
def kS:AX->St->Option St:=Cm .normal (MZ [1,2])
theorem d_0(d:Md.Desk):P8 (dc 0) kS {fr:=Ce 0 [.agg (AP d)],hp:=[]}=some (SU d (DN d.waits) (CF d.asks) []):=by kernel_rfl
theorem d_1(d:Md.Desk):P8 (dc 1) kS (SU d (DN d.waits) (CF d.asks) [])=gC (fun a=>Cy (AA a 0)) PC (fun r=>[.agg (Ag r)]) [.agg (Ag d.rep)] fun y=>
 some (uT y d.pump.num (Ae d.pump.out) (Al d.pump.done) (Al d.clean) d.busy (DN d.waits) (CF d.asks) d.next []):=by kernel_rfl
theorem d_2(d:Md.Desk):P8 (dc 2) kS (SU d (DN d.waits) (CF d.asks) [])=gC Ep Es (Er 11) [Ae d.pump.out] fun y=>some (uT d.rep d.pump.num (.tr 11 y.1 y.2) (Al d.pump.done) (Al d.clean) d.busy (DN d.waits) (CF d.asks) d.next []):=by kernel_rfl
theorem d_3(d:Md.Desk):P8 (dc 3) kS (SU d (DN d.waits) (CF d.asks) [])=gC Ep Es (Er 4) [Al d.pump.done] fun y=>some (uT d.rep d.pump.num (Ae d.pump.out) (.tr 4 y.1 y.2) (Al d.clean) d.busy (DN d.waits) (CF d.asks) d.next []):=by kernel_rfl
theorem d_4(d:Md.Desk):P8 (dc 4) kS (SU d (DN d.waits) (CF d.asks) [])=gC Ep Es (Er 4) [Al d.clean] fun y=>some (uT d.rep d.pump.num (Ae d.pump.out) (Al d.pump.done) (.tr 4 y.1 y.2) d.busy (DN d.waits) (CF d.asks) d.next []):=by kernel_rfl
theorem d_5(d:Md.Desk):P8 (dc 5) kS (SU d (DN d.waits) (CF d.asks) [])=gC Ep Es (Er 4) [DN d.waits] fun y=>some (SU d (.sn 4 2 y.1) (CF d.asks) [.seq true 4 y.1 y.2]):=by kernel_rfl
theorem d_6(d:Md.Desk):P8 (dc 6) kS (SU d (.sn 4 2 d.waits.length) (CF d.asks) [.seq true 4 d.waits.length (D5 d.waits)])=gC Ep Es (Er 3) [CF d.asks] fun y=>
 some (SU d (.sn 4 2 d.waits.length) (.sn 3 3 y.1) [.seq true 4 d.waits.length (D5 d.waits),.seq true 3 y.1 y.2]):=by kernel_rfl
def lvD:List Nat:=[1,2,34,35]
theorem d_7(d:Md.Desk):P8 D7 (Cm .normal (norm 0 lvD)) (SU d (.sn 4 2 d.waits.length) (.sn 3 3 d.asks.length) [.seq true 4 d.waits.length (D5 d.waits),.seq true 3 d.asks.length (B5 d.asks)])=some (Uv d 0):=by kernel_rfl
theorem d_a(d:Md.Desk)(i:Int):P8 P7 (Cm .normal (norm 0 lvD)) (Uv d i)=bif decide (i<(d.asks.length:Int))then rg i d.asks.length (bif i.toNat.blt d.asks.length then gC (fun a=>AN BI (a.getD 0 .nils)) Kl (fun l=>[AG l]) [AG (d.asks.getD i.toNat default).calls] fun y=>
  rg i d.asks.length (bif i.toNat.blt d.asks.length&&true then some {fr:=[(1,.ptr 0 0 0),(2,.ptr 3 0 0),(34,.int .i64 d.asks.length),(35,.int .i64 (IntKind.i64.wrap (i+1)))],hp:=[.arr true 23 [Ej 1 d],Bc 4 Ba default d.waits,.seq true 3 d.asks.length (fun i'=>bif Nat.beq i' i.toNat then [.int .i64 (d.asks.getD i.toNat default).num,.str (d.asks.getD i.toNat default).key,AG y]else B4 (d.asks.getD i' default)),.arr true 23 [ZY]]}else none)else none)else none:=by kernel_rfl
def ND(d:Md.Desk)(I:Nat)(a:Md.Ask)(F:Nat->List AV)(i:Int)(cur:Bool):St:={fr:=[(1,.ptr 0 0 0),(2,.ptr 4 0 0),(34,.int .i64 d.asks.length),(35,.int .i64 i)],hp:=[.arr true 23 [Ej 1 d],Bc 4 Ba default d.waits,.sqr true 3 d.asks.length F I (KU a 3 a.calls.length) [3] cur,.seq true 31 a.calls.length (BX a.calls),.arr true 23 [ZY]]}
theorem d_b(d:Md.Desk)(i:Int):alY P7 (Cm .normal (norm 0 lvD)) (Uv d i)=bif decide (i<(d.asks.length:Int))then rg i d.asks.length (bif i.toNat.blt d.asks.length then gC (fun a=>AN BI (a.getD 0 .nils)) Kl (fun l=>[AG l]) [AG (d.asks.getD i.toNat default).calls] fun y=>
  rg i d.asks.length (bif i.toNat.blt d.asks.length&&true then some {fr:=[(1,.ptr 0 0 0),(2,.ptr 4 0 0),(34,.int .i64 d.asks.length),(35,.int .i64 (IntKind.i64.wrap (i+1)))],hp:=[.arr true 23 [Ej 1 d],Bc 4 Ba default d.waits,.sqr true 3 d.asks.length (B5 d.asks) i.toNat [.int .i64 (d.asks.getD i.toNat default).num,.str (d.asks.getD i.toNat default).key,.sn 31 3 y.length] [3] true,.seq true 31 y.length (BX y),.arr true 23 [ZY]]}else none)else none)else none:=by kernel_rfl
theorem d_c(d:Md.Desk)(I:Nat)(a:Md.Ask)(i:Int):P8 P7 (Cm .normal (norm 0 lvD)) (ND d I a (B5 d.asks) i false)=bif decide (i<(d.asks.length:Int))then rg i d.asks.length (bif i.toNat.blt d.asks.length && !i.toNat.beq I then gC (fun a=>AN BI (a.getD 0 .nils)) Kl (fun l=>[AG l]) [AG (d.asks.getD i.toNat default).calls] fun y=>
  rg i d.asks.length (bif i.toNat.blt d.asks.length && !i.toNat.beq I then some (ND d I a (fun i'=>Ee (fun b=>indexOf b [0,1,2,3,4] 0) (bif Nat.beq i' i.toNat then [.int .i64 (d.asks.getD i.toNat default).num,.str (d.asks.getD i.toNat default).key,AG y]else B4 (d.asks.getD i' default))) (IntKind.i64.wrap (i+1)) false)else none)else none)else none:=by kernel_rfl
theorem d_x(d:Md.Desk)(I:Nat)(a:Md.Ask)(i:Int):P8 P7 (Cm (.exit 0) (MZ [1,2])) (ND d I a (B5 d.asks) i false)=bif decide (i<(d.asks.length:Int))then rg i d.asks.length (bif i.toNat.blt d.asks.length && !i.toNat.beq I then gC (fun a=>AN BI (a.getD 0 .nils)) Kl (fun l=>[AG l]) [AG (d.asks.getD i.toNat default).calls] fun _=>
  rg i d.asks.length (bif i.toNat.blt d.asks.length && !i.toNat.beq I then none else none)else none)else some {fr:=[(1,.ptr 0 0 0),(2,.ptr 4 0 0)],hp:=(ND d I a (B5 d.asks) i false).hp}:=by kernel_rfl
def abd(d:Md.Desk)(I:Nat)(a:Md.Ask):Heap:=[Bc 4 Ba default d.waits,.sqr true 3 d.asks.length (B5 d.asks) I (KU a 2 a.calls.length) [2] false,.seq true 31 a.calls.length (BX a.calls)]
def SDE(d:Md.Desk)(I:Nat)(a:Md.Ask):St:={fr:=[(2,.ptr 4 0 0)],hp:=[.arr true 23 [Ej 1 d],Bc 4 Ba default d.waits,.sqr true 3 d.asks.length (B5 d.asks) I (KU a 3 a.calls.length) [3] false,.seq true 31 a.calls.length (BX a.calls),.arr true 23 [Ej 1 d]]}
theorem d_8(d:Md.Desk)(I:Nat)(a:Md.Ask)(i:Int):P8 D8 (Cm .ret (MZ [2])) {fr:=[(1,.ptr 0 0 0),(2,.ptr 4 0 0)],hp:=(ND d I a (B5 d.asks) i false).hp}=some (SDE d I a):=by kernel_rfl
theorem akA(d:Md.Desk)(I:Nat)(a:Md.Ask):Ef (Gp PG) (SDE d I a) [.cell 2 44] (fun vs=>Cr 0 0 (F0 vs) (SDE d I a).hp)=some (.agg (Ej 0 d),abd d I a):=by kernel_rfl
theorem abe{fr:Fr}{h1 h2:Heap}{b:Nat}{m:Bool}{sz n i0:Nat}{f:Nat->List AV}{c0:List AV}{ks:List Nat}{c1 c2:Bool}(hl:h1.length=h2.length)(e1:Ab h1 b=.sqr m sz n f i0 c0 ks c1)(e2:Ab h2 b=.sqr m sz n f i0 c0 ks c2)
  (ho:∀ c,c ≠ b->Ab h2 c=Ab h1 c):aI {fr:=fr,hp:=h1} {fr:=fr,hp:=h2}:=by
 refine⟨hl,fun w1 I1 φ a1 hs=>?_⟩
 have hmm:∀ c,An (Ab h2 c)=An (Ab h1 c):=by
  intro c
  by_cases h:c=b
  ·subst h;rw[e1,e2];rfl
  ·rw[ho c h]
 have hll:∀ c,live (Ab h2 c)=live (Ab h1 c):=by
  intro c
  by_cases h:c=b
  ·subst h;rw[e1,e2];rfl
  ·rw[ho c h]
 refine⟨⟨⟨fun c e=>hs.hh.none c ?_,fun c e=>?_,fun c b' B o sz o' sz' e e'=>hs.hh.inj c b' B o sz o' sz' (by rw[<- hmm];exact e) (by rw[<- hmm];exact e'),fun c B o sz e=>hs.hh.disj c B o sz (by rw[<- hmm];exact e),fun c B o sz e e2=>hs.hh.imm c B o sz (by rw[<- hll];exact e) (by rw[<- hmm];exact e2),hs.hh.lt⟩,hs.fr⟩,
  fun B=>⟨fun⟨c,o,sz,e,e'⟩=>⟨c,o,sz,by rw[<- hmm];exact e,e'⟩,fun⟨c,o,sz,e,e'⟩=>⟨c,o,sz,by rw[hmm];exact e,e'⟩⟩⟩
 ·by_cases h:c=b
  ·subst h
   have e:Ab h2 c=BS.none:=e
   rw[e2]at e;cases e
  ·have e:Ab h2 c=BS.none:=e
   rw[ho c h]at e;exact e
 ·by_cases h:c=b
  ·subst h
   rcases hs.hh.blk c (by rw[<- hll];exact e)with ⟨B,o,sz,e3,r⟩ | ⟨_,hp⟩
   ·have r:RB w1 I1 φ B o sz (Ab h1 c):=r
    rw[e1]at r
    refine .inl ⟨B,o,sz,e3,?_⟩
    show RB w1 I1 φ B o sz (Ab h2 c)
    rw[e2];exact r
   ·have hp:Ds (Ab h1 c):=hp
    rw[e1]at hp;exact hp.elim
  ·have e:live (Ab h2 c)=true:=e
   have k:=hs.hh.blk c (by rw[<- hll];exact e)
   show(∃ B o sz,φ c=some (B,o,sz)/\RB w1 I1 φ B o sz (Ab h2 c))\/(φ c=none/\Ds (Ab h2 c))
   rw[ho c h];exact k
theorem uU(d:Md.Desk)(I:Nat)(h:MY d)(hI:I<d.asks.length):Aa PG BV [.agg (AP d)] [] (.agg (Ej 0 d)) (abd d I (d.asks.getD I default)):=by
 obtain⟨h1,h2,h3,h4,h5,h6,h7⟩:=h
 obtain⟨a,ha⟩:∃ a,d.asks.getD I default=a:=⟨_,rfl⟩
 have hc:∀ j,j<d.asks.length->Kl (d.asks.getD j default).calls:=fun j hj=>h7 _ (getD_mem (z:=(default:Md.Ask)) hj)
 rw[ha]
 have henv:C2 PG (OB Km):=Fo ae6
 have hcode:F8 PG (OB Km):=Dm
 have hrun:Ew PG (D2 (R:=St) (OB Km) 0):=K5 henv hcode mixed 0
 have henvB:C2 PG (nA [Rf]):=Fo (ak uP AL)
 have hrunB:Ew PG (D2 (R:=St) (nA [Rf]) 0):=K5 henvB Dm mixed 0
 obtain⟨fn,hf,hb,hnt,hres⟩:∃ fn,(OB Km).code BV=some fn/\fn.body=some aL/\fn.ntmps=52/\fn.results.toList=[.cell 2 44]:=⟨_,rfl,by kernel_rfl,by kernel_rfl,by kernel_rfl⟩
 obtain⟨_,_,_,hok⟩:=hcode _ fn hf
 have hok:=hok _ hb
 rw[uS]at hok
 obtain⟨ok0,hok⟩:=Ad (show(Ak (dc 0)&&Ak _)=true from hok)
 obtain⟨ok1,hok⟩:=Ad (show(Ak (dc 1)&&Ak _)=true from hok)
 obtain⟨ok2,hok⟩:=Ad (show(Ak (dc 2)&&Ak _)=true from hok)
 obtain⟨ok3,hok⟩:=Ad (show(Ak (dc 3)&&Ak _)=true from hok)
 obtain⟨ok4,hok⟩:=Ad (show(Ak (dc 4)&&Ak _)=true from hok)
 obtain⟨ok5,hok⟩:=Ad (show(Ak (dc 5)&&Ak _)=true from hok)
 obtain⟨ok6,hok⟩:=Ad (show(Ak (dc 6)&&Ak _)=true from hok)
 obtain⟨hok,ok8⟩:=Ad (show(Ak (.seq D7 (.block 0 (.loop P7)))&&Ak D8)=true from hok)
 obtain⟨ok7,okx⟩:=Ad (show(Ak D7&&Ak P7)=true from hok)
 have L0:=E3 (l:=[1,2]) henv hrun mixed ok0 (d_0 d)
 have q1:∀ {K:Rep->Option St},gC (fun a=>Cy (AA a 0)) PC (fun r=>[.agg (Ag r)]) [.agg (Ag d.rep)] K=K d.rep:=fun {K}=>ac7 h1
 have L1:=E3 (l:=[1,2]) henv hrun mixed ok1 ((d_1 d).trans q1)
 have L2:=E3 (l:=[1,2]) henv hrun mixed ok2 ((d_2 d).trans (FT h2))
 have L3:=E3 (l:=[1,2]) henv hrun mixed ok3 ((d_3 d).trans (FT h3))
 have L4:=E3 (l:=[1,2]) henv hrun mixed ok4 ((d_4 d).trans (FT h4))
 have L5:=E3 (l:=[1,2]) henv hrun mixed ok5 ((d_5 d).trans (FT h5))
 have L6:=E3 (l:=[1,2]) henv hrun mixed ok6 ((d_6 d).trans (FT h6))
 have L7:=Gl henv hrun mixed ok7 (d_7 d)
 have hwr:∀ j,j<d.asks.length->IntKind.i64.wrap ((j:Int)+1)=((j+1:Nat):Int):=fun j hj=>Bz (by omega)
 have qm:∀ j,j<d.asks.length -> ∀ {K:List Msg->Option St},gC (fun a=>AN BI (a.getD 0 .nils)) Kl (fun l=>[AG l]) [AG (d.asks.getD j default).calls] K=K (d.asks.getD j default).calls:=fun j hj {K}=>ada (hc j hj)
 have sA:∀ j,j<I->Az (fun Q=>P7.wp PG Q) 52 0 (Uv d (j:Nat)) .normal (Uv d ((j+1:Nat):Int)):=by
  intro j hj
  refine Gl henv hrun mixed okx ((d_a d (j:Nat)).trans ?_)
  have hjl:j<d.asks.length:=by omega
  have hs:=set_same B4 default d.asks j
  rw[decide_eq_true (show((j:Nat):Int)<(d.asks.length:Int) by omega),cond_true,Bq hjl,Int.toNat_natCast,AB hjl,cond_true,qm j hjl,Bq hjl,Bool.and_true,cond_true,hwr j hjl]
  show some ({fr:=[(1,.ptr 0 0 0),(2,.ptr 3 0 0),(34,.int .i64 d.asks.length),(35,.int .i64 ((j+1:Nat):Int))],hp:=[.arr true 23 [Ej 1 d],Bc 4 Ba default d.waits,.seq true 3 d.asks.length (fun i'=>bif Nat.beq i' j then B4 (d.asks.getD j default)else B4 (d.asks.getD i' default)),.arr true 23 [ZY]]}:St)=_
  rw[hs];rfl
 have sB:Az (fun Q=>P7.wp PG Q) 52 0 (Uv d (I:Nat)) .normal (ND d I a (B5 d.asks) ((I+1:Nat):Int) true):=by
  refine Gl henvB hrunB mixed okx ((d_b d (I:Nat)).trans ?_)
  rw[decide_eq_true (show((I:Nat):Int)<(d.asks.length:Int) by omega),cond_true,Bq hI,Int.toNat_natCast,AB hI,cond_true,qm I hI,Bq hI,Bool.and_true,cond_true,hwr I hI,ha]
  rfl
 have sF:aI (ND d I a (B5 d.asks) ((I+1:Nat):Int) true) (ND d I a (B5 d.asks) ((I+1:Nat):Int) false):=
  abe (b:=2) rfl rfl rfl fun c hc=>by
   match c,hc with
   | 0,_=>rfl
   | 1,_=>rfl
   | 2,h=>exact absurd rfl h
   | c+3,_=>rfl
 have sC:∀ j,I<j->j<d.asks.length->Az (fun Q=>P7.wp PG Q) 52 0 (ND d I a (B5 d.asks) (j:Nat) false) .normal (ND d I a (B5 d.asks) ((j+1:Nat):Int) false):=by
  intro j hj hjl
  refine Gl henv hrun mixed okx ((d_c d I a (j:Nat)).trans ?_)
  have hF:(fun i'=>Ee (fun b=>indexOf b [0,1,2,3,4] 0) (bif Nat.beq i' j then [.int .i64 (d.asks.getD j default).num,.str (d.asks.getD j default).key,AG (d.asks.getD j default).calls]else B4 (d.asks.getD i' default)))=B5 d.asks:=by
   funext k
   by_cases hk:k=j
   ·subst hk;rw[beq_true rfl];rfl
   ·rw[beq_false hk];rfl
  rw[decide_eq_true (show((j:Nat):Int)<(d.asks.length:Int) by omega),cond_true,Bq hjl,Int.toNat_natCast,AB hjl,beq_false (show j ≠ I by omega),Bool.not_false,Bool.and_true,cond_true,qm j hjl,Bq hjl,hwr j hjl,cond_true,hF]
 have sX:Az (fun Q=>P7.wp PG Q) 52 0 (ND d I a (B5 d.asks) (d.asks.length:Nat) false) (.exit 0) {fr:=[(1,.ptr 0 0 0),(2,.ptr 4 0 0)],hp:=(ND d I a (B5 d.asks) (d.asks.length:Nat) false).hp}:=by
  refine E3 (l:=[1,2]) henv hrun mixed okx ((d_x d I a (d.asks.length:Nat)).trans ?_)
  rw[decide_eq_false (by omega),cond_false]
 have LL:=Az.loop (e0:=.exit 0) (by simp) (n:=d.asks.length) (fun j=>if j<=I then Uv d ((j:Nat):Int)else ND d I a (B5 d.asks) ((j:Nat):Int) false) (T:={fr:=[(1,.ptr 0 0 0),(2,.ptr 4 0 0)],hp:=(ND d I a (B5 d.asks) (d.asks.length:Nat) false).hp}) (x:=P7) (P:=PG) (nt:=52) (base:=0) (fun j hj=>by
   by_cases h1:j<I
   ·rw[if_pos (by omega),if_pos (by omega)];exact sA j h1
   ·by_cases h2:j=I
    ·subst h2
     rw[if_pos (Nat.le_refl _),if_neg (by omega)]
     exact sB.to_same sF
    ·rw[if_neg (by omega),if_neg (by omega)];exact sC j (by omega) hj) (by rw[if_neg (by omega)];exact sX)
 rw[if_pos (Nat.zero_le _)]at LL
 have L8:=E3 (l:=[2]) henv hrun mixed ok8 (d_8 d I a (d.asks.length:Nat))
 have L:Az (fun Q=>aL.wp PG Q) fn.ntmps 0 {fr:=Ce 0 [.agg (AP d)],hp:=[]} .ret (SDE d I a):=by
  rw[uS,hnt]
  exact L0.seq (L1.seq (L2.seq (L3.seq (L4.seq (L5.seq (L6.seq ((L7.seq LL.block).seq L8)))))))
 exact(GX henv hcode hf hb (hp:=[]) (.inr rfl) L (c0:=0) (Nat.le_refl _) (by rw[hres];exact akA d I a)).1
def eDe(l:List Known):Env:=BU [] [(Cv,5)] [] l
theorem akB(n:Nat)(F:Nat->List AV)(i:Nat)(j:Nat):BA 1 (eDe []) 9 Cv [AV.sl 3 0 0 (n+1) (n+1),AV.int IntKind.i64 (↑i:Int),AV.int IntKind.i64 (↑j:Int)] [BS.seq true 3 (n+1) F] =
 bif decide ((↑(n+1):Int)<=(↑(FZ (n+1) (n+1)):Int))then
  bif decide ((↑j:Int)<=(↑(n+1):Int))then
   bif decide ((↑i:Int)<=(↑j:Int))then
    bif decide ((↑i:Int)=(↑j:Int))then
     some ((AV.sl 3 0 0 (n+1) (n+1),[BS.seq true 3 (n+1) F]))
    else
     bif decide ((↑i:Int)<=(↑(FZ (n+1) (n+1)):Int))then
      bif decide ((↑j:Int)<=(↑(n+1):Int))then
       bif i.beq 0||i.ble (n+1)then
        bif(n+1 - j).beq 0||(n+1 - j+(0+j)).ble (n+1)then
         bif((i+(n+1 - j))*48).ble 140737488355328&&(i+(n+1 - j)).ble 140737488355328 then
          bif(n+1 - j).beq 0 then
           bif decide ((↑(n+1):Int)<=(↑(FZ (i - 0) (JD false (n+1) (FZ (n+1) (n+1) - 0))):Int))then
            bif decide ((↑(i - 0):Int)<=(↑(n+1):Int))then
             bif((n+1) - i).beq 0 then
              some ((AV.sl 3 0 0 i (max (n+1) (n+1)),[BS.seq true 3 (n+1) F]))
             else
              bif(0+i+((n+1) - i)).ble (n+1)then
               some ((AV.sl 3 0 0 i (max (n+1) (n+1)),[BS.seq true 3 (n+1) fun i_1=>bif i_1.blt (0+i)then F i_1 else bif i_1.blt (0+i+((n+1) - i))then [AV.int IntKind.i64 0,AV.str [],AV.nils]else F i_1]))
              else none
            else none
           else none
          else
           bif roomFor (i+(n+1 - j)) (max (n+1) (n+1))then
            bif(0+max (n+1) (n+1)).ble (n+1)then
             bif decide ((↑(n+1):Int)<=(↑(FZ (i - 0+(View.fn (n+1 - j) fun i=>F (i+(0+j))).len) (JD false (n+1) (FZ (n+1) (n+1) - 0))):Int))then
              bif decide ((↑(i - 0+(View.fn (n+1 - j) fun i=>F (i+(0+j))).len):Int)<=(↑(n+1):Int))then
               bif((n+1) - (i+(n+1 - j))).beq 0 then
                some ((AV.sl 3 0 0 (i+(n+1 - j)) (max (n+1) (n+1)),[BS.seq true 3 (n+1) fun i_1=>bif i_1.blt (0+i)then F i_1 else bif i_1.blt (0+(i+(n+1 - j)))then F (i_1 - (0+i)+(0+j))else F i_1]))
               else
                bif(0+(i+(n+1 - j))+((n+1) - (i+(n+1 - j)))).ble (n+1)then
                 some ((AV.sl 3 0 0 (i+(n+1 - j)) (max (n+1) (n+1)),[BS.seq true 3 (n+1) fun i_1=>bif i_1.blt (0+(i+(n+1 - j)))then bif i_1.blt (0+i)then F i_1 else bif i_1.blt (0+(i+(n+1 - j)))then F (i_1 - (0+i)+(0+j))else F i_1 else bif i_1.blt (0+(i+(n+1 - j))+((n+1) - (i+(n+1 - j))))then [AV.int IntKind.i64 0,AV.str [],AV.nils]else bif i_1.blt (0+i)then F i_1 else bif i_1.blt (0+(i+(n+1 - j)))then F (i_1 - (0+i)+(0+j))else F i_1]))
                else none
              else none
             else none
            else none
           else
            bif decide ((↑(n+1):Int)<=(↑(FZ (AU (View.fn (i - 0) fun i=>F (i+(0+0))) (View.fn (n+1 - j) fun i=>F (i+(0+j)))).len (Ln (AU (View.fn (i - 0) fun i=>F (i+(0+0))) (View.fn (n+1 - j) fun i=>F (i+(0+j)))))):Int))then
             bif decide ((↑(AU (View.fn (i - 0) fun i=>F (i+(0+0))) (View.fn (n+1 - j) fun i=>F (i+(0+j)))).len:Int)<=(↑(n+1):Int))then
              bif((n+1) - (i+(n+1 - j))).beq 0 then
               some ((AV.sl 3 1 0 (i+(n+1 - j)) 0,[BS.dead,BS.seq true 3 (i+(n+1 - j)) fun i_1=>bif i_1.blt i then F i_1 else bif i_1.blt (i+(n+1 - j))then F (i_1 - i+(0+j))else F i]))
              else
               bif(0+(i+(n+1 - j))+((n+1) - (i+(n+1 - j)))).ble (i+(n+1 - j))then
                some ((AV.sl 3 1 0 (i+(n+1 - j)) 0,[BS.dead,BS.seq true 3 (i+(n+1 - j)) fun i_1=>bif i_1.blt (0+(i+(n+1 - j)))then bif i_1.blt i then F i_1 else bif i_1.blt (i+(n+1 - j))then F (i_1 - i+(0+j))else F i else bif i_1.blt (0+(i+(n+1 - j))+((n+1) - (i+(n+1 - j))))then [AV.int IntKind.i64 0,AV.str [],AV.nils]else bif i_1.blt i then F i_1 else bif i_1.blt (i+(n+1 - j))then F (i_1 - i+(0+j))else F i]))
               else none
             else none
            else none
         else none
        else none
       else none
      else none
     else none
   else none
  else none
 else none:=by kernel_rfl
theorem iJ{X:Type}{l:List X}{i:Nat}(h:i<l.length):(l.eraseIdx i).length=l.length - 1:=List.length_eraseIdx_of_lt h
theorem ah2{X:Type}{z:X}{l:List X}{i k:Nat}:(l.eraseIdx i).getD k z=if k<i then l.getD k z else l.getD (k+1) z:=by
 simp only[List.getD,List.getElem?_eraseIdx]
 split <;> rfl
theorem ah3(n:Nat)(F:Nat->List AV)(i:Nat)(hi:i<=n)(hn:n<=100000):∃ (c:Nat) (G:Nat->List AV),BA 1 (eDe []) 9 Cv [.sl 3 0 0 (n+1) (n+1),.int .i64 (i:Int),.int .i64 ((i+1:Nat):Int)] [.seq true 3 (n+1) F]=some (.sl 3 0 0 n c,[.seq true 3 (n+1) G]) /\
  ∀ k,k<n->G k=if k<i then F k else F (k+1):=by
 have hcap:∀ x,x<=n+1->FZ x (n+1)=n+1:=fun x hx=>by unfold FZ;exact Nat.max_eq_right hx
 have hm:max (n+1) (n+1)=n+1:=Nat.max_self _
 have hl:∀ x,JD false (n+1) x=x:=fun x=>rfl
 have hr:∀ x,roomFor x (n+1)=Nat.ble x (n+1):=fun x=>rfl
 have hv:∀ (m:Nat) (f:Nat->List AV),(View.fn m f).len=m:=fun m f=>rfl
 rw[akB n F i (i+1)]
 simp only[hcap (n+1) (Nat.le_refl _),hm,hl,hr,Nat.sub_zero,Nat.zero_add,hv]
 have e1:i+(n+1 - (i+1))=n:=by omega
 rw[e1]
 rw[hcap n (by omega),hcap i (by omega)]
 have p1:decide (((n+1:Nat):Int)<=((n+1:Nat):Int))=true:=decide_eq_true (Int.le_refl _)
 have p2:decide (((i+1:Nat):Int)<=((n+1:Nat):Int))=true:=decide_eq_true (by omega)
 have p3:decide (((i:Nat):Int)<=((i+1:Nat):Int))=true:=decide_eq_true (by omega)
 have p4:decide (((i:Nat):Int)=((i+1:Nat):Int))=false:=decide_eq_false (by omega)
 have p5:decide (((i:Nat):Int)<=((n+1:Nat):Int))=true:=decide_eq_true (by omega)
 have p6:decide (((n:Nat):Int)<=((n+1:Nat):Int))=true:=decide_eq_true (by omega)
 have b1:Nat.ble i (n+1)=true:=Aq (by omega)
 have b2:Nat.ble (n+1 - (i+1)+(i+1)) (n+1)=true:=Aq (by omega)
 have b3:Nat.ble (n*48) 140737488355328=true:=Aq (by omega)
 have b4:Nat.ble n 140737488355328=true:=Aq (by omega)
 have b5:Nat.ble n (n+1)=true:=Aq (by omega)
 have b6:Nat.ble (n+1) (n+1)=true:=Aq (Nat.le_refl _)
 have b7:Nat.beq (n+1 - n) 0=false:=beq_false (by omega)
 have b8:Nat.ble (n+(n+1 - n)) (n+1)=true:=Aq (by omega)
 simp only[p1,p2,p3,p4,p5,p6,b1,b2,b3,b4,b5,b6,b7,b8,cond_true,cond_false,Bool.or_true,Bool.and_true]
 by_cases h:i=n
 ·subst h
  have b9:Nat.beq (i+1 - (i+1)) 0=true:=beq_true (by omega)
  simp only[b7,b8,b9,cond_true,cond_false]
  exact⟨_,_,rfl,fun k hk=>by rw[AB hk,cond_true,if_pos hk]⟩
 ·have b9:Nat.beq (n+1 - (i+1)) 0=false:=beq_false (by omega)
  simp only[b9,cond_false]
  refine⟨_,_,rfl,fun k hk=>?_⟩
  rw[AB hk,cond_true]
  by_cases hk2:k<i
  ·rw[AB hk2,cond_true,if_pos hk2]
  ·rw[CI (by omega),cond_false,if_neg hk2,show k - i+(i+1)=k+1 by omega];simp[hk]
theorem ae7(l:List Md.Ask)(i:Nat)(hi:i<l.length)(hl:l.length<=100000):Aa PG Cv [.sn 3 0 l.length,.int .i64 (i:Int),.int .i64 ((i:Int)+1)] [Bc 3 B4 default l] (.sn 3 0 (l.length - 1)) [Bc 3 B4 default (l.eraseIdx i)]/\[Bc 3 B4 default l].length<=[Bc 3 B4 default (l.eraseIdx i)].length:=by
 obtain⟨n,hn⟩:∃ n,l.length=n+1:=⟨l.length - 1,by omega⟩
 obtain⟨c,G,e,hG⟩:=ah3 n (B5 l) i (by omega) (by omega)
 have k:=conC (fun k hk=>by cases hk) (c:=1) (hp:=[.seq true 3 (n+1) (B5 l)]) (Nat.le_refl 1) e
 refine⟨?_,Nat.le_refl _⟩
 have hs:Bc 3 B4 default l=.seq true 3 (n+1) (B5 l):=by unfold Bc;rw[hn];rfl
 have hs2:Bc 3 B4 default (l.eraseIdx i)=.seq true 3 n (B5 (l.eraseIdx i)):=by
  unfold Bc;rw[iJ hi,hn];rfl
 rw[hs,hs2,hn,Nat.add_sub_cancel]
 refine(k.1.sub (args:=[.sn 3 0 (n+1),.int .i64 (i:Int),.int .i64 ((i:Int)+1)]) (.cons (D4.unsn (by omega)) (.refl _)) (.refl _)).resub ?_ (.cons (.seq true 3 _ _ _ _ (by omega) fun k hk=>?_) .nil)
 ·exact D4.sn
 ·rw[hG k hk]
  have:B5 (l.eraseIdx i) k=if k<i then B5 l k else B5 l (k+1):=by
   unfold B5
   rw[ah2]
   split <;> rfl
  rw[this];exact .refl _
abbrev LI:=List Md.Ask × Nat
def iK(a:List AV)(h:Heap):LI:=(Iu Ge (Ab h 0),(Ar a 1).toNat)
def aM(p:LI):List AV × Heap:=([.sn 3 0 p.1.length,.int .i64 (p.2:Int),.int .i64 ((p.2:Int)+1)],[Bc 3 B4 default p.1])
theorem uV(p:LI):iK (aM p).1 (aM p).2=p:=Prod.ext (He (sz:=3) Mp p.1) (by show((p.2:Nat):Int).toNat=p.2;simp)
def nB:Known:=.specG Cv iK (fun p=>p.2<p.1.length/\p.1.length<=100000) aM (fun p=>(.sn 3 0 (p.1.eraseIdx p.2).length,[Bc 3 B4 default (p.1.eraseIdx p.2)]))
theorem aN:nB.Ok PG:=Known.specG_ok fun p h=>by rw[iJ h.1];exact ae7 p.1 p.2 h.1 h.2
structure CallF where
 f:Wrk->Msg->Wrk
 p:Wrk->Msg->Prop
def CallF.Ok(c:CallF):Prop:=∀ w m,c.p w m->Aa PG Ci [.ptr 0 0 0,.agg (Ac m)] (Bl w) (.tup []) (BG (c.f w m))
def UD(c:CallF):Known:=.specG Ci Gj (fun p=>c.p p.1 p.2) FN (fun p=>(.tup [],BG (c.f p.1 p.2)))
theorem aO{c:CallF}(h:c.Ok):(UD c).Ok PG:=Known.specG_ok fun p hp=>⟨h p.1 p.2 hp,by show 4<=7;omega⟩
def eCs(l:List Known):Env:=BU [] [(Ci,5),(C4,5)] [] l
def ah4(l:List Msg)(i:Int):Fr:=[(0,.ptr 0 0 0),(6,AG l),(7,.int .i64 l.length),(8,.int .i64 i)]
def uW(c:CallF)(l:List Msg)(N m:Nat)(w:Wrk)(i:Int):Option (AV × Heap):=LP (eCs [UD c]) N 4 C4 (Cr 1 4) 0 [] m {fr:=ah4 l i,hp:=Bl w}
def LCb(c:CallF)(l:List Msg)(N m:Nat)(w:Wrk)(i:Int):Option (AV × Heap):=LP (eCs [UD c]) N 4 C4 (Cr 1 4) 0 [] m {fr:=ah4 l i,hp:=BG w}
theorem akC(c:CallF)(l:List Msg)(N:Nat)(w:Wrk):BA 1 (eCs [UD c]) (N+1) C4 [.ptr 0 0 0,AG l] (Bl w)=uW c l N N w 0:=by kernel_rfl
theorem ado(c:CallF)(l:List Msg)(N m:Nat)(w:Wrk)(i:Int):uW c l N (m+1) w i=bif decide (i<(l.length:Int))then rg i l.length (BF Gj (fun p=>c.p p.1 p.2) FN [.ptr 0 0 0,.agg (Ac (l.getD i.toNat default))] (Bl w) fun y=>LCb c l N m (c.f y.1 y.2) (IntKind.i64.wrap (i+1)))
 else some (.tup [],BG w):=by kernel_rfl
theorem adp(c:CallF)(l:List Msg)(N m:Nat)(w:Wrk)(i:Int):LCb c l N (m+1) w i=bif decide (i<(l.length:Int))then rg i l.length (BF Gj (fun p=>c.p p.1 p.2) FN [.ptr 0 0 0,.agg (Ac (l.getD i.toNat default))] (Bl w) fun y=>LCb c l N m (c.f y.1 y.2) (IntKind.i64.wrap (i+1)))
 else some (.tup [],BG w):=by kernel_rfl
def GY(c:CallF):Wrk->List Msg->Wrk
 | w,[]=>w
 | w,m::r=>GY c (c.f w m) r
def Fp(c:CallF):Wrk->List Msg->Prop
 | _,[]=>True
 | w,m::r=>c.p w m/\Fp c (c.f w m) r
theorem adq{c:CallF}{w:Wrk}{m:Msg}(h:c.p w m){R:Type}{K:WM->Option R}:BF Gj (fun p=>c.p p.1 p.2) FN [.ptr 0 0 0,.agg (Ac m)] (Bl w) K=K (w,m):=BT (w,m) (OD (w,m)) h (.refl _) (.refl _)
theorem uX(c:CallF)(hc:c.Ok)(w:Wrk)(l:List Msg)(hl:l.length<=100000)(h:Fp c w l):Aa PG C4 [.ptr 0 0 0,AG l] (Bl w) (.tup []) (BG (GY c w l))/\(Bl w).length<=(BG (GY c w l)).length:=by
 obtain⟨N,hN⟩:∃ N,N=200000:=⟨_,rfl⟩
 have runB:∀ d i m w,i+d=l.length->d<m->Fp c w (l.drop i)->LCb c l N m w (i:Nat)=some (.tup [],BG (GY c w (l.drop i))):=by
  intro d
  induction d with
  | zero=>
   intro i m w hi hm hk
   obtain⟨m,rfl⟩:∃ k,m=k+1:=⟨m - 1,by omega⟩
   rw[adp,decide_eq_false (by omega),cond_false,List.drop_eq_nil_of_le (by omega)];rfl
  | succ d ih=>
   intro i m w hi hm hk
   obtain⟨m,rfl⟩:∃ k,m=k+1:=⟨m - 1,by omega⟩
   have hil:i<l.length:=by omega
   have hd:=drop_cons (z:=(default:Msg)) hil
   have hw:IntKind.i64.wrap ((i:Int)+1)=((i+1:Nat):Int):=Bz (by omega)
   rw[hd]at hk ⊢
   rw[adp,decide_eq_true (show((i:Nat):Int)<(l.length:Int) by omega),cond_true,Bq hil,Int.toNat_natCast,adq hk.1,hw]
   exact ih (i+1) m _ (by omega) (by omega) hk.2
 have run:uW c l N N w ((0:Nat):Int)=some (.tup [],BG (GY c w l)):=by
  obtain⟨m,hm⟩:∃ m,N=m+1:=⟨N - 1,by omega⟩
  have st:∀ i,uW c l N N w i=uW c l N (m+1) w i:=fun i=>by rw[<- hm]
  rw[st]
  cases l with
  | nil=>rw[ado];rfl
  | cons x r=>
   rw[ado,decide_eq_true (show((0:Nat):Int)<((x::r).length:Int) by simp),cond_true,Bq (show 0<(x::r).length by simp),Int.toNat_natCast]
   show BF Gj (fun p=>c.p p.1 p.2) FN [.ptr 0 0 0,.agg (Ac x)] (Bl w) _=_
   rw[adq h.1,Bz (Nat.zero_le _)]
   have:=runB r.length 1 m (c.f w x) (by simp;omega) (by simp at hl;omega) h.2
   exact this
 exact conC (ak (aO hc) AL) (c:=1) (n:=N+1) (by show 1<=4;omega) ((akC c l N w).trans run)
abbrev WK:=Wrk × Txt
def dWK(a:List AV)(h:Heap):WK:=(Hf h,Gu a 1)
def uY(p:WK):List AV × Heap:=([.ptr 0 0 0,.str p.2],Bl p.1)
theorem ah5(p:WK):dWK (uY p).1 (uY p).2=p:=Prod.ext (HM p.1) rfl
def A4(w:Wrk)(k:Txt):Itm × Bool × Wrk:=
 bif(Dt w.d.rep.tail k).2 then((Dt w.d.rep.tail k).1,true,w)else bif w.isRead&&Ah w.just.key k then(w.just,true,w)else((ED (w.d.clean,k)).1,(ED (w.d.clean,k)).2.2,Hh w (ED (w.d.clean,k)).2.1)
def M1(w:Wrk):Prop:=w.d.rep.tail.log.length<=100000/\w.d.clean.length<=100000
theorem nD(w:Wrk)(k:Txt)(h:M1 w):Aa PG CZ [.ptr 0 0 0,.str k] (Bl w) (.tup [.agg (Af (A4 w k).1),.bool (A4 w k).2.1]) (BG (A4 w k).2.2)/\(Bl w).length<=(BG (A4 w k).2.2).length:=by
 refine conC (ak Re (ak gR AL)) (c:=1) (n:=9) (by show 1<=4;omega) ((akw w k).trans ?_)
 have hg:mY w k=some (.tup [.agg (Af (ED (w.d.clean,k)).1),.bool (ED (w.d.clean,k)).2.2],BG (Hh w (ED (w.d.clean,k)).2.1)):=Aw (w.d.clean,k) (Sc (w.d.clean,k)) h.2 (.refl _)
 rw[aH h.1,hg]
 unfold A4
 cases h1:(Dt w.d.rep.tail k).2 with
 | true=>rw[cond_true,cond_true]
 | false=>
  rw[cond_false,cond_false]
  cases h2:w.isRead with
  | false=>rfl
  | true=>
   cases h3:Ah w.just.key k with
   | true=>rfl
   | false=>rfl
def uZ:Known:=.specG CZ dWK (fun p=>M1 p.1) uY (fun p=>(.tup [.agg (Af (A4 p.1 p.2).1),.bool (A4 p.1 p.2).2.1],BG (A4 p.1 p.2).2.2))
theorem vA:uZ.Ok PG:=Known.specG_ok fun p h=>nD p.1 p.2 h
def aP(w:Wrk)(q:Msg):Prop:=∀ j,j<w.d.asks.length->(w.d.asks.getD j default).key=q.op.key -> ¬ (((w.d.asks.getD j default).calls.length:Int)<w.c.maxLog)
def VB(w:Wrk)(q:Msg):Bool:=w.d.asks.any fun a=>Ah a.key q.op.key
def HR(w:Wrk)(q:Msg):Md.Ask:=⟨w.d.next+1,q.op.key,[q]⟩
def Rg(w:Wrk)(q:Msg):Wrk:=bif VB w q then w else {w with d:={w.d with next:=w.d.next+1,asks:=w.d.asks++[HR w q]},out:=w.out++[GF (w.d.rep,HR w q)]}
def Sn(w:Wrk)(q:Msg):Prop:=aP w q/\I7 q/\w.d.asks.length<=100000/\w.out.length<=1000000/\0<=w.d.next/\w.d.next<=1000000
theorem ae8(w:Wrk)(q:Msg)(h:Sn w q):Aa PG BR [.ptr 0 0 0,.agg (Ac q)] (Bl w) (.tup []) (BG (Rg w q))/\(Bl w).length<=(BG (Rg w q)).length:=by
 obtain⟨N,hN⟩:∃ N,N=200000:=⟨_,rfl⟩
 obtain⟨h1,h2,h3,h4,h5,h6⟩:=h
 have hnx:IntKind.i64.wrap (w.d.next+1)=w.d.next+1:=by rw[IntKind.wrap_i64];omega
 have hnew:XW w q=some (.tup [],Kn (mZ w) w.d.waits.length (D5 w.d.waits) (w.d.asks.length+1) (Be w.d.asks.length (B5 w.d.asks) (.list [PF w q q])) (w.out.length+1) (Be w.out.length (BX w.out) (.list [Ac (GF (w.d.rep,HR w q))]))):=by
  unfold XW
  have t:∀ {K:Rep × Md.Ask->Option (AV × Heap)},gC (fun a=>(Cy (AA a 0),Ge (AA a 1))) (fun _=>True) Z5 [.agg (Ag w.d.rep),.agg (PF w q q)] K=K (w.d.rep,HR w q):=fun {K}=>by
   refine Aw (w.d.rep,HR w q) (Prod.ext (B8 w.d.rep) ?_) trivial (.cons (.refl _) (.cons (.agg ?_) .nil))
   ·show(⟨IntKind.i64.wrap (w.d.next+1),q.op.key,[BI (Ac q)]⟩:Md.Ask)=HR w q
    rw[hnx,C8];rfl
   ·show Cg (PF w q q) [.int .i64 (w.d.next+1),.str q.op.key,AG [q]]
    unfold PF
    rw[hnx]
    exact .cons (.refl _) (.cons (.refl _) (.cons (AR.trl_of [q] rfl) .nil))
  rw[XU h2,Aq (Nat.le_refl _),cond_true,Aq (show(w.d.asks.length+1)*48<=140737488355328 by omega),Aq (show w.d.asks.length+1<=140737488355328 by omega),Bool.and_true,cond_true,t,Aq (Nat.le_refl _),cond_true,
   Aq (show(w.out.length+1)*392<=140737488355328 by omega),Aq (show w.out.length+1<=140737488355328 by omega),Bool.and_true,cond_true]
 have run:∀ d i m,i+d=w.d.asks.length->d<m->LAs w q N m (i:Nat)=bif(w.d.asks.drop i).any (fun a=>Ah a.key q.op.key)then some (.tup [],BG w)else XW w q:=by
  intro d
  induction d with
  | zero=>
   intro i m hi hm
   obtain⟨m,rfl⟩:∃ k,m=k+1:=⟨m - 1,by omega⟩
   rw[adn,decide_eq_false (by omega),cond_false,List.drop_eq_nil_of_le (by omega)];rfl
  | succ d ih=>
   intro i m hi hm
   obtain⟨m,rfl⟩:∃ k,m=k+1:=⟨m - 1,by omega⟩
   have hil:i<w.d.asks.length:=by omega
   have hd:=drop_cons (z:=(default:Md.Ask)) hil
   have hw:IntKind.i64.wrap ((i:Int)+1)=((i+1:Nat):Int):=Bz (by omega)
   have hj:=h1 i hil
   rw[hd,adn,decide_eq_true (show((i:Nat):Int)<(w.d.asks.length:Int) by omega),cond_true,Bq hil,Int.toNat_natCast,AB hil,cond_true,hw,List.any_cons]
   cases hs:Ah (w.d.asks.getD i default).key q.op.key with
   | true=>
    have hk:(w.d.asks.getD i default).key=q.op.key:=by rw[A7]at hs;simpa using hs
    rw[cond_true,cond_true,decide_eq_false (hj hk),cond_false,Bool.true_or,cond_true]
   | false=>
    rw[cond_false,Bool.false_or]
    exact ih (i+1) m (by omega) (by omega)
 have e:=(akx N w q).trans (run w.d.asks.length 0 N (by omega) (by omega))
 rw[List.drop_zero]at e
 unfold Rg VB
 cases hh:(w.d.asks.any fun a=>Ah a.key q.op.key)with
 | true=>
  rw[hh,cond_true]at e
  exact conC VA (c:=1) (n:=N+1) (by show 1<=4;omega) e
 | false=>
  rw[hh,cond_false,hnew]at e
  have c:=conC VA (c:=1) (n:=N+1) (by show 1<=4;omega) e
  refine⟨?_,by show 4<=7;omega⟩
  have hsub:Cg (PF w q q) (B4 (HR w q)):=by
   show Cg (PF w q q) [.int .i64 (w.d.next+1),.str q.op.key,AG [q]]
   unfold PF
   rw[hnx]
   exact .cons (.refl _) (.cons (.refl _) (.cons (AR.trl_of [q] rfl) .nil))
  have hd:BG {w with d:={w.d with next:=w.d.next+1,asks:=w.d.asks++[HR w q]},out:=w.out++[GF (w.d.rep,HR w q)]} =
    Kn (mZ w) w.d.waits.length (D5 w.d.waits) (w.d.asks.length+1) (B5 (w.d.asks++[HR w q])) (w.out.length+1) (BX (w.out++[GF (w.d.rep,HR w q)])):=by
   rw[show w.d.asks.length+1=(w.d.asks++[HR w q]).length by simp,show w.out.length+1=(w.out++[GF (w.d.rep,HR w q)]).length by simp,Q0]
   unfold mZ
   rw[hnx]
  rw[cond_false,hd]
  refine c.1.resub (.refl _) (.cons (.refl _) (.cons (.refl _) (.cons (.refl _) (.cons (.refl _) (.cons (.refl _) (.cons (.seq true 3 _ _ _ _ (Nat.le_refl _) fun i hi=>Tl hsub i hi) (.cons (.seq true 31 _ _ _ _ (Nat.le_refl _) fun i hi=>Tl (.refl _) i hi) .nil)))))))
def adr:Known:=.specG BR Gj (fun p=>Sn p.1 p.2) FN (fun p=>(.tup [],BG (Rg p.1 p.2)))
theorem abf:adr.Ok PG:=Known.specG_ok fun p h=>ae8 p.1 p.2 h
def vB:Env:=BU [] [(Dq,0),(Gz,0),(MP,0)] [] [Pu]
def OG(a b:Int)(K:Int × Int->Option AV):Option AV:=gC (fun a=>(Ar a 0,Ar a 1)) (fun _=>True) Lt [.int .i64 a,.int .i64 b] K
def FA(i:Int)(b:Bool):Option AV:=some (.tup [.int .i64 i,.bool b])
theorem sr0(F:Nat->Seen)(s:Int):Am vB 30 Dq [.tr 7 0 fun i=>As (F i),.int .i64 s]=FA 0 false:=by kernel_rfl
theorem sr1(F:Nat->Seen)(s:Int):Am vB 30 Dq [.tr 7 1 fun i=>As (F i),.int .i64 s]=OG (F 0).sess s fun y=>bif decide (Dw y.1 y.2<0)then FA 1 false else OG (F 0).sess s fun z=>FA 0 (decide (Dw z.1 z.2=0)):=by kernel_rfl
theorem sr2(F:Nat->Seen)(s:Int):Am vB 30 Dq [.tr 7 2 fun i=>As (F i),.int .i64 s]=OG (F 1).sess s fun y=>bif decide (Dw y.1 y.2<0)then FA 2 false else
 OG (F 0).sess s fun x=>bif decide (Dw x.1 x.2<0)then OG (F 1).sess s fun z=>FA 1 (decide (Dw z.1 z.2=0))else OG (F 0).sess s fun z=>FA 0 (decide (Dw z.1 z.2=0)):=by kernel_rfl
theorem sr3(F:Nat->Seen)(s:Int):Am vB 30 Dq [.tr 7 3 fun i=>As (F i),.int .i64 s]=OG (F 1).sess s fun y=>bif decide (Dw y.1 y.2<0)then
  OG (F 2).sess s fun x=>bif decide (Dw x.1 x.2<0)then FA 3 false else OG (F 2).sess s fun z=>FA 2 (decide (Dw z.1 z.2=0))
 else OG (F 0).sess s fun x=>bif decide (Dw x.1 x.2<0)then OG (F 1).sess s fun z=>FA 1 (decide (Dw z.1 z.2=0))else OG (F 0).sess s fun z=>FA 0 (decide (Dw z.1 z.2=0)):=by kernel_rfl
def CC(l:List Seen)(s:Int):Nat × Bool:=((l.filter fun x=>decide (x.sess<s)).length,l.any fun x=>decide (x.sess=s))
theorem abg(p:SI)(h:FM p.1):Aa PG Dq (Ny p) [] (.tup [.int .i64 ((CC p.1 p.2).1:Nat),.bool (CC p.1 p.2).2]) []:=by
 obtain⟨l,s⟩:=p
 obtain⟨h1,h2⟩:=h
 have key:∃ r,Am vB 30 Dq (Ny (l,s))=some r/\r=.tup [.int .i64 ((CC l s).1:Nat),.bool (CC l s).2]:=by
  have q:∀ {a b:Int} {K:Int × Int->Option AV},OG a b K=K (a,b):=fun {a b K}=>ZG
  match l,h1,h2 with
  | [],_,_=>exact⟨_,sr0 (fun i=>([]:List Seen).getD i default) s,rfl⟩
  | [a],_,_=>
   refine⟨_,(sr1 (fun i=>[a].getD i default) s).trans ?_,rfl⟩
   simp only[q,MT,Sf]
   show(bif decide (a.sess<s)then FA 1 false else FA 0 (decide (a.sess=s)))=FA _ _
   unfold CC
   by_cases ha:a.sess<s
   ·have:¬ a.sess=s:=by omega
    simp[ha,this,FA]
   ·simp[ha,FA]
  | [a,b],_,h2=>
   have hab:a.sess<b.sess:=by simp at h2;exact h2
   refine⟨_,(sr2 (fun i=>[a,b].getD i default) s).trans ?_,rfl⟩
   simp only[q,MT,Sf]
   show(bif decide (b.sess<s)then FA 2 false else bif decide (a.sess<s)then FA 1 (decide (b.sess=s))else FA 0 (decide (a.sess=s)))=FA _ _
   unfold CC
   by_cases hb:b.sess<s
   ·have e1:a.sess<s:=by omega
    have e2:¬ a.sess=s:=by omega
    have e3:¬ b.sess=s:=by omega
    simp[hb,e1,e2,e3,FA]
   ·by_cases ha:a.sess<s
    ·have e2:¬ a.sess=s:=by omega
     simp[hb,ha,e2,FA]
    ·have e3:¬ b.sess=s:=by omega
     simp[hb,ha,e3,FA]
  | [a,b,c],_,h2=>
   have hab:a.sess<b.sess/\a.sess<c.sess/\b.sess<c.sess:=by simp at h2;exact⟨h2.1.1,h2.1.2,h2.2⟩
   refine⟨_,(sr3 (fun i=>[a,b,c].getD i default) s).trans ?_,rfl⟩
   simp only[q,MT,Sf]
   show(bif decide (b.sess<s)then bif decide (c.sess<s)then FA 3 false else FA 2 (decide (c.sess=s))else bif decide (a.sess<s)then FA 1 (decide (b.sess=s))else FA 0 (decide (a.sess=s)))=FA _ _
   unfold CC
   by_cases hb:b.sess<s
   ·have e1:a.sess<s:=by omega
    have e2:¬ a.sess=s:=by omega
    have e3:¬ b.sess=s:=by omega
    by_cases hc:c.sess<s
    ·have e4:¬ c.sess=s:=by omega
     simp[hb,hc,e1,e2,e3,e4,FA]
    ·simp[hb,hc,e1,e2,e3,FA]
   ·have e4:¬ c.sess<s:=by omega
    have e5:¬ c.sess=s:=by omega
    by_cases ha:a.sess<s
    ·have e2:¬ a.sess=s:=by omega
     simp[hb,ha,e2,e4,e5,FA]
    ·have e3:¬ b.sess=s:=by omega
     simp[hb,ha,e3,e4,e5,FA]
 obtain⟨r,e,hr⟩:=key
 rw[<- hr]
 exact BQ (ak JL AL) e
def ads:Known:=.spec Dq (fun a=>(AN BZ (a.getD 0 .nils),Ar a 1)) (fun p=>FM p.1) Ny (fun p=>.tup [.int .i64 ((CC p.1 p.2).1:Nat),.bool (CC p.1 p.2).2])
theorem Ts:ads.Ok PG:=Known.spec_ok abg
end Go.Hd
end
noncomputable section
namespace Go.Proofs.YtbalmcpknmjgkaaGreat
open Go.RowKit
set_option maxHeartbeats 1000000 in
set_option maxRecDepth 100000 in
theorem ins_shift(B q n c i vb voff vc:Nat)(w w1 w2:World)(hi:i<n)(hroom:n+1<=c)(hn63:n+1<=9223372036854775807)
  (hov:∀ x lb cb,(callFunc 207 #[.slice (some ⟨vb,voff,none⟩) 1 vc,.slice (some ⟨B,x,none⟩) lb cb]).run Tryz.prog w=.ok (.value (.bool false)) w)
  (hcp1:∀ ty l m dc sc,l=n - i->m=n+1 - i->(Builtin.copy_ #[34,34] ty #[.slice (some ⟨B,q+(i+1)*7,none⟩) l dc,.slice (some ⟨B,q+i*7,none⟩) m sc]).run Tryz.prog w.drew=.ok (goInt (n - i:Nat)) w1)
  (hcp2:∀ ty l dc,l=n+1 - i->(Builtin.copy_ #[34,34] ty #[.slice (some ⟨B,q+i*7,none⟩) l dc,.slice (some ⟨vb,voff,none⟩) 1 vc]).run Tryz.prog w1=.ok (goInt 1) w2) :
  Calls Tryz.prog 194 #[.slice (some ⟨B,q,none⟩) n c,.int .i64 i,.slice (some ⟨vb,voff,none⟩) 1 vc] w fun e w'=>
   e=.returned (.slice (some ⟨B,q,none⟩) (n+1) c)/\w'=w2:=by
 have hz1:¬ ((1:Int)=0):=by omega
 have hz2:¬ ((i:Int)=(n:Int)):=by omega
 have hw1:IntKind.i64.wrap ((i:Int)+(1:Int))=(i:Int)+(1:Int):=by rw[IntKind.wrap_i64];omega
 have hw2:IntKind.i64.wrap ((n:Int)+(1:Int))=(n:Int)+(1:Int):=by rw[IntKind.wrap_i64];omega
 have hb1:(0:Int)<=(i:Int)+(1:Int):=by omega
 have hin:i<=n:=by omega
 have htn:((i:Int)+(1:Int)).toNat=i+1:=by omega
 have hb2:¬ (c=i+1):=by omega
 have hb3:(i:Int)<=(n:Int)+(1:Int):=by omega
 have hb4:¬ (c=i):=by omega
 have mixed:Tryz.prog.follows .mixedOrders=true:=by kernel_rfl
 go_enter Tryz.func194,Tryz.ntmps194
 go_wp2_with (simp only[hov])
 go_region_law_o (refine step_copy_runI rfl _ _ 34 34 rfl _ _ (by simp[Act.eval,Act.put]) (by simp[Act.eval,Act.put]) (hcp1 _ _ _ _ _ (by omega) (by omega)) ?_)
 go_wp2_with (at_builtin;refine wpList_copy_runI _ rfl _ _ 34 34 rfl _ _ rfl rfl (hcp2 _ _ _ (by omega)) ?_)
 go_ret
 exact⟨rfl,rfl⟩
set_option maxHeartbeats 1000000 in
set_option maxRecDepth 100000 in
theorem ins_grow(B q n i vb voff vc NB G:Nat)(w w1 w2 w3:World)(hi:i<n)(hG:n+1<=G)(hG63:G<=9223372036854775807)(hn63:n+1<=9223372036854775807)
  (hap:∀ ty x,x=(n:Int)+1 - i->(Builtin.append_ #[34,3] ty #[.slice (some ⟨B,q,none⟩) i n,.int .i64 x]).run Tryz.prog w=.ok (.slice (some ⟨NB,0,none⟩) (n+1) G) w1)
  (hcp1:∀ ty l dc,l=n+1 - i->(Builtin.copy_ #[34,34] ty #[.slice (some ⟨NB,i*7,none⟩) l dc,.slice (some ⟨vb,voff,none⟩) 1 vc]).run Tryz.prog w1=.ok (goInt 1) w2)
  (hcp2:∀ ty l m dc sc,l=n - i->m=n - i->(Builtin.copy_ #[34,34] ty #[.slice (some ⟨NB,(i+1)*7,none⟩) l dc,.slice (some ⟨B,q+i*7,none⟩) m sc]).run Tryz.prog w2.drew=.ok (goInt (n - i:Nat)) w3) :
  Calls Tryz.prog 194 #[.slice (some ⟨B,q,none⟩) n n,.int .i64 i,.slice (some ⟨vb,voff,none⟩) 1 vc] w fun e w'=>
   e=.returned (.slice (some ⟨NB,0,none⟩) (n+1) G)/\w'=w3:=by
 have hz1:¬ ((1:Int)=0):=by omega
 have hz2:¬ ((i:Int)=(n:Int)):=by omega
 have hz3:(n:Int)<(n:Int)+1:=by omega
 have hw1:IntKind.i64.wrap ((i:Int)+(1:Int))=(i:Int)+(1:Int):=by rw[IntKind.wrap_i64];omega
 have hw2:IntKind.i64.wrap ((n:Int)+(1:Int))=(n:Int)+(1:Int):=by rw[IntKind.wrap_i64];omega
 have hw3:IntKind.i64.wrap ((n:Int)+(1:Int) - (i:Int))=(n:Int)+(1:Int) - (i:Int):=by rw[IntKind.wrap_i64];omega
 have hb1:(0:Int)<=(i:Int)+(1:Int):=by omega
 have hin:i<=n:=by omega
 have htn:((i:Int)+(1:Int)).toNat=i+1:=by omega
 have hb3:(i:Int)<=(n:Int)+(1:Int):=by omega
 have hb4:¬ (n=i):=by omega
 have hb5:¬ (G=i):=by omega
 have hb6:¬ (G=i+1):=by omega
 have mixed:Tryz.prog.follows .mixedOrders=true:=by kernel_rfl
 go_enter Tryz.func194,Tryz.ntmps194
 go_wp2_with (first
  | (at_builtin;refine Lib.wpList_append_run _ rfl _ _ _ _ rfl _ _ rfl rfl _ _ (hap _ _ (by omega)) ?_)
  | (at_builtin;refine wpList_copy_runI _ rfl _ _ 34 34 rfl _ _ rfl rfl (hcp1 _ _ _ (by omega)) ?_))
 go_region_law_o (refine step_copy_runI rfl _ _ 34 34 rfl _ _ (by simp[Act.eval,Act.put]) (by simp[Act.eval,Act.put]) (hcp2 _ _ _ _ _ (by omega) (by omega)) ?_)
 go_wp2
 go_ret
 exact⟨rfl,rfl⟩
end Go.Proofs.YtbalmcpknmjgkaaGreat
end
noncomputable section
open Go Go.AM Go.Md
namespace Go.Wk
set_option maxRecDepth 100000
set_option maxHeartbeats 400000
theorem Lh{P:Program}(W:World)(dT sT ty elem:TypeId)(sz B dq dLen dCap sb sq sLen sCap:Nat)(vs:List Value){c:Array Value}{e:TypeId}{fz:Nat × Nat}
  (hu:P.underlying dT=some (.slice elem)) (hs:(P.info? elem).map (·.size)=some sz) (hn:vs.length=Nat.min sLen dLen*sz)
  (hsrc:∀ (j:Nat) v,vs[j]? = some v->W.cell? ⟨sb,sq+j,none⟩=some v) (hc:W.heap[B]? = some (.cells c e fz)) (hfit:dq+vs.length<=c.size) (ht:Hm c fz) (h1:∀ v ∈ vs,v.oneCell'=true) :
  (Builtin.copy_ #[dT,sT] ty #[.slice (some ⟨B,dq,none⟩) dLen dCap,.slice (some ⟨sb,sq,none⟩) sLen sCap]).run P W=.ok (goInt (Nat.min sLen dLen)) (World.setBlk W B (.cells (splice c dq vs) e fz)):=by
 have hl:=EA (P:=P) (w:=W) vs rfl hsrc
 have hst:=run_storeCells (P:=P) (o:=dq) vs 0 c W hc (by omega) ht h1
 rw[Nat.add_zero]at hst
 cases hq:P.info? elem with
 | none=>simp[hq]at hs
 | some i=>
  have hi:i.size=sz:=by simpa [hq] using hs
  simp[Builtin.copy_,run_underlying hu,Builtin.lenOf,Builtin.firstCells,sizeOf,typeInfo,hq,hi,<- hn,hl,hst]
def insL(l:List Seen)(i:Nat)(a:Seen):List Seen:=l.take i++a::l.drop i
theorem Tt{l:List Seen}{i:Nat}{a:Seen}(h:i<=l.length):(insL l i a).length=l.length+1:=by unfold insL;simp;omega
theorem VC{l:List Seen}{i k:Nat}{a:Seen}(h:i<=l.length)(hk:k<i):(insL l i a).getD k default=l.getD k default:=by
 unfold insL
 simp only[List.getD]
 rw[List.getElem?_append_left (by simp;omega),List.getElem?_take,if_pos hk]
theorem VD{l:List Seen}{i:Nat}{a:Seen}(h:i<=l.length):(insL l i a).getD i default=a:=by
 unfold insL
 simp only[List.getD]
 rw[List.getElem?_append_right (by simp;omega)]
 have:i - (l.take i).length=0:=by simp;omega
 rw[this];rfl
theorem iL{l:List Seen}{i k:Nat}{a:Seen}(h:i<=l.length)(hk:i<k):(insL l i a).getD k default=l.getD (k - 1) default:=by
 unfold insL
 simp only[List.getD]
 rw[List.getElem?_append_right (by simp;omega)]
 have:k - (l.take i).length=(k - 1 - i)+1:=by simp;omega
 rw[this,List.getElem?_cons_succ,List.getElem?_drop]
 have:i+(k - 1 - i)=k - 1:=by omega
 rw[this]
def M3(l:List Seen):BS:=.seq true 7 l.length fun k=>As (l.getD k default)
def NF(a:Seen)(r:Nat):AV:=(As a).getD r .undef
theorem Rh{a:Seen}{r:Nat}(h:r<7):(As a)[r]? = some (NF a r):=by
 match r,h with
 | 0,_=>rfl
 | 1,_=>rfl
 | 2,_=>rfl
 | 3,_=>rfl
 | 4,_=>rfl
 | 5,_=>rfl
 | 6,_=>rfl
theorem abh{a:Seen}{r:Nat}{x:AV}(h:(As a)[r]? = some x):r<7/\x=NF a r:=by
 have hr:r<7:=by
  rcases Nat.lt_or_ge r 7 with h' | h'
  ·exact h'
  ·rw[List.getElem?_eq_none (by exact h')]at h;cases h
 rw[Rh hr]at h
 cases h
 exact⟨hr,rfl⟩
theorem nE(a:Seen)(r:Nat):BP (NF a r)=true:=by
 unfold NF
 match r with
 | 0=>rfl
 | 1=>rfl
 | 2=>rfl
 | 3=>rfl
 | 4=>rfl
 | 5=>rfl
 | 6=>rfl
 | _+7=>rfl
theorem nG(w:World)(B:Nat)(x y:Obj):World.setBlk (World.setBlk w B x) B y=World.setBlk w B y:=by
 simp only[World.setBlk,Array.setIfInBounds_setIfInBounds]
theorem ah6{w:World}{B B2 voff vc x lb cb:Nat}{c c2:Array Value}{e e2:TypeId}{fz fz2:Nat × Nat}(hB:w.heap[B]? = some (.cells c e fz))(hV:w.heap[B2]? = some (.cells c2 e2 fz2))(hne:B2 ≠ B)(hc:c.size ≠ 0)
  (ht:Hm c2 fz2) (hs:F3 c2 fz2 7) (hv:voff<c2.size) :
  (callFunc 207 #[.slice (some ⟨B2,voff,none⟩) 1 vc,.slice (some ⟨B,x,none⟩) lb cb]).run PG w=.ok (.value (.bool false)) w:=by
 have hov:=Lib.run_overlaps_apart (P:=PG) w 34 4 146 (by kernel_rfl) 7 (fun w=>by
  have:Gp PG 146=some ((Gp PG 146).getD ⟨0,0,false,.bool,none,false,none⟩):=by kernel_rfl
  rw[AM.run_sizeOf this w]
  have h3:((Gp PG 146).getD ⟨0,0,false,.bool,none,false,none⟩).size=7:=by kernel_rfl
  rw[h3]) ⟨B2,voff,none⟩ ⟨B,x,none⟩ 1 vc lb cb hne e2 e c2.size c.size (by simp[World.shape?,hV]) (by simp[World.shape?,hB]) hc (Wh hV ht hv) (by
   simp only[World.frozen?,hV]
   have:=hs.resolve_left (by decide)
   simpa using this)
 rw[run_callFunc_extern (P:=PG) (f:=207) (fn:=Go.Proofs.Tryz.f207) Go.Proofs.Tryz.func207 (by kernel_rfl) (by kernel_rfl) (by kernel_rfl) (e:=Extern.SlicesOverlaps.overlaps #[34,34] #[4]) (by kernel_rfl),hov]
 rfl
end Go.Wk
end
noncomputable section
open Go Go.AM Go.Md
namespace Go.Wk
set_option maxRecDepth 100000
set_option maxHeartbeats 1000000
def Kq(l:List Seen)(a:Seen):Heap:=[M3 l,.arr true 7 [As a]]
def M4(l:List Seen)(i:Nat)(a:Seen):Heap:=[.dead,.arr true 7 [As a],M3 (insL l i a)]
theorem ae9(l:List Seen)(i:Nat)(a:Seen):Ab (M4 l i a)=AZ (AZ (Ab (Kq l a)) 0 .dead) 2 (M3 (insL l i a)):=by
 funext b
 match b with
 | 0=>rfl
 | 1=>rfl
 | 2=>rfl
 | _+3=>rfl
theorem Xk{w:World}{I:Nat->Prop}{φ:Phi}{rd:Nat->BS}{b B o:Nat}{l:List Seen}(hh:RH w I φ rd)(hb:rd b=M3 l)(h0:φ b=some (B,o,7)) :
  ∃ c e fz,w.heap[B]? = some (.cells c e fz)/\Hm c fz/\F3 c fz 7 /\ ∀ k r,k<l.length->r<7 -> ∃ u,c[o+k*7+r]? = some u/\u.oneCell'=true/\RV w I Phi.no (NF (l.getD k default) r) u:=by
 obtain⟨B',o',sz',e,hrb⟩:=(hh.blk b (by rw[hb];rfl)).resolve_right fun⟨e0,_⟩=>by rw[h0]at e0;cases e0
 rw[h0]at e;cases e
 rw[hb]at hrb
 obtain⟨_,⟨c,e,fz,hc,ht⟩,_,hcell⟩:=hrb
 refine⟨c,e,fz,hc,(ht rfl).1,(ht rfl).2,fun k r hk hr=>?_⟩
 obtain⟨u,h1,h2,h3⟩:=hcell k r _ hk (Rh hr)
 rw[cell_of hc]at h1
 exact⟨u,h1,h2,h3⟩
theorem Xl{w:World}{I:Nat->Prop}{φ:Phi}{rd:Nat->BS}{b B o:Nat}{a:Seen}(hh:RH w I φ rd)(hb:rd b=.arr true 7 [As a])(h0:φ b=some (B,o,7)) :
  ∃ c e fz,w.heap[B]? = some (.cells c e fz)/\Hm c fz/\F3 c fz 7 /\ ∃ vs:List Value,vs.length=7/\(∀ r v,vs[r]? = some v->c[o+r]? = some v/\v.oneCell'=true/\RV w I Phi.no (NF a r) v):=by
 obtain⟨B',o',sz',e,hrb⟩:=(hh.blk b (by rw[hb];rfl)).resolve_right fun⟨e0,_⟩=>by rw[h0]at e0;cases e0
 rw[h0]at e;cases e
 rw[hb]at hrb
 obtain⟨_,⟨c,e,fz,hc,ht⟩,_,hcell⟩:=hrb
 have g:∀ r,r<7 -> ∃ u,c[o+r]? = some u/\u.oneCell'=true/\RV w I Phi.no (NF a r) u:=fun r hr=>by
  obtain⟨u,h1,h2,h3⟩:=hcell 0 (As a) r _ rfl (Rh hr)
  rw[cell_of hc,Nat.zero_mul,Nat.add_zero]at h1
  exact⟨u,h1,h2,h3.free (nE a r)⟩
 obtain⟨u0,a0⟩:=g 0 (by omega)
 obtain⟨u1,a1⟩:=g 1 (by omega)
 obtain⟨u2,a2⟩:=g 2 (by omega)
 obtain⟨u3,a3⟩:=g 3 (by omega)
 obtain⟨u4,a4⟩:=g 4 (by omega)
 obtain⟨u5,a5⟩:=g 5 (by omega)
 obtain⟨u6,a6⟩:=g 6 (by omega)
 refine⟨c,e,fz,hc,(ht rfl).1,(ht rfl).2,[u0,u1,u2,u3,u4,u5,u6],rfl,fun r v hv=>?_⟩
 match r with
 | 0=>cases hv;exact a0
 | 1=>cases hv;exact a1
 | 2=>cases hv;exact a2
 | 3=>cases hv;exact a3
 | 4=>cases hv;exact a4
 | 5=>cases hv;exact a5
 | 6=>cases hv;exact a6
 | _+7=>simp at hv
def piece(c:Array Value)(p m:Nat):List Value:=(List.range m).map fun j=>c.getD (p+j) default
theorem Ri(c:Array Value)(p m:Nat):(piece c p m).length=m:=by simp[piece]
theorem Rj{c:Array Value}{p m j:Nat}(h:p+m<=c.size)(hj:j<m):(piece c p m)[j]? = c[p+j]? := by
 unfold piece
 rw[List.getElem?_map,List.getElem?_range hj,Option.map_some,Array.getElem?_eq_getElem (by omega),Array.getD_eq_getD_getElem?,Array.getElem?_eq_getElem (by omega)]
 rfl
theorem vC{n j:Nat}(h:j<n*7):j / 7<n/\j % 7<7/\j=j / 7*7+j % 7:=by omega
def Rk(c:Array Value)(q i n:Nat)(src:List Value)(vs:List Value):Array Value:=splice (splice c (q+(i+1)*7) src) (q+i*7) vs
theorem abi{c:Array Value}{q i n:Nat}{src vs:List Value}(hi:i<=n)(hs:src.length=(n - i)*7)(hv:vs.length=7)(hc:q+(n+1)*7<=c.size){k r:Nat}(hk:k<n+1)(hr:r<7) :
  (Rk c q i n src vs)[q+k*7+r]? = if k<i then c[q+k*7+r]? else if k=i then vs[r]? else src[(k - 1 - i)*7+r]? := by
 unfold Rk
 rw[splice_get _ _ _ _ (by rw[B7,hv];omega),splice_get _ _ _ _ (by rw[hs];omega),hv,hs]
 by_cases h1:k<i
 ·rw[if_pos h1,if_neg (by omega),if_neg (by omega)]
 ·rw[if_neg h1]
  by_cases h2:k=i
  ·subst h2
   rw[if_pos rfl,if_pos (by omega)]
   congr 1;omega
  ·rw[if_neg h2,if_neg (by omega),if_pos (by omega)]
   congr 1
   omega
theorem adt{w W:World}{I:Nat->Prop}{φ':Phi}{B q:Nat}{l:List Seen}{i:Nat}{a:Seen}{c':Array Value}{e:TypeId}{fz:Nat × Nat}(hi:i<=l.length)(hW:W.heap[B]? = some (.cells c' e fz))(ht:Hm c' fz)(hn:F3 c' fz 7)
  (mono:∀ {v:AV} {u:Value},RV w I Phi.no v u->RV W I Phi.no v u)
  (hg:∀ k r,k<l.length+1->r<7 -> ∃ u,c'[q+k*7+r]? = some u/\u.oneCell'=true/\RV w I Phi.no (NF ((insL l i a).getD k default) r) u):RB W I φ' B q 7 (M3 (insL l i a)):=by
 have hl:=Tt (a:=a) hi
 refine⟨rfl,⟨c',e,fz,hW,fun _=>⟨ht,hn⟩⟩,fun k _=>rfl,fun k r cc hk hcc=>?_⟩
 obtain⟨hr,rfl⟩:=abh hcc
 obtain⟨u,h1,h2,h3⟩:=hg k r (by omega) hr
 exact⟨u,by rw[cell_of hW];exact h1,h2,mono h3⟩
theorem vD{w:World}{I:Nat->Prop}{φ:Phi}{l:List Seen}{i:Nat}{a:Seen}(hh:RH w I φ (Ab (Kq l a))){B o cap B2 o2 vc:Nat}(h0:φ 0=some (B,o,7))(h1:φ 1=some (B2,o2,7))(hi:i<l.length)(hl:l.length<=100000)
  (hcap:l.length+1<=cap) (hs:o+cap*7<=csize w B) :
  ∃ w2,(Calls PG Bu #[.slice (some ⟨B,o,none⟩) l.length cap,.int .i64 i,.slice (some ⟨B2,o2,none⟩) 1 vc] w fun e w'=>e=.returned (.slice (some ⟨B,o,none⟩) (l.length+1) cap)/\w'=w2) /\
   RH w2 I (φ.set 2 (B,o,7)) (Ab (M4 l i a))/\Step 2 (Ab (Kq l a)) φ I w (Ab (M4 l i a)) (φ.set 2 (B,o,7)) I w2/\csize w2 B=csize w B:=by
 obtain⟨c,e,fz,hc,ht,hns,hcell⟩:=Xk (b:=0) hh rfl h0
 obtain⟨c2,e2,fz2,hc2,ht2,hns2,vs,hvl,hvs⟩:=Xl (b:=1) hh rfl h1
 have hne:B2 ≠ B:=fun hE=>by
  have:=hh.inj 1 0 B2 o2 7 o 7 rfl rfl h1 (hE ▸ h0)
  cases this
 have hcs:csize w B=c.size:=by unfold AM.csize;rw[hc]
 rw[hcs]at hs
 have hin:i<=l.length:=by omega
 have hv0:o2<c2.size:=by
  obtain⟨h,_⟩:=hvs 0 _ (List.getElem?_eq_getElem (by omega:0<vs.length))
  rw[Nat.add_zero]at h
  exact(Array.getElem?_eq_some_iff.1 h).1
 have hsrcl:(piece c (o+i*7) ((l.length - i)*7)).length=(l.length - i)*7:=Ri _ _ _
 have hpf:o+i*7+(l.length - i)*7<=c.size:=by omega
 have hpg:∀ j,j<(l.length - i)*7->(piece c (o+i*7) ((l.length - i)*7))[j]? = c[o+i*7+j]? := fun j hj=>Rj hpf hj
 have hdr:=hh.drew 2
 have hone:∀ v ∈ piece c (o+i*7) ((l.length - i)*7),v.oneCell'=true:=fun v hv=>by
  obtain⟨j,hj⟩:=List.getElem?_of_mem hv
  have hjl:j<(l.length - i)*7:=by
   rcases Nat.lt_or_ge j ((l.length - i)*7)with h | h
   ·exact h
   ·rw[List.getElem?_eq_none (by rw[hsrcl];exact h)]at hj;cases hj
  rw[hpg j hjl]at hj
  obtain⟨s1,s2,s3⟩:=vC hjl
  obtain⟨u,g1,g2,_⟩:=hcell (i+j / 7) (j % 7) (by omega) s2
  have:o+(i+j / 7)*7+j % 7=o+i*7+j:=by omega
  rw[this,hj]at g1
  cases g1
  exact g2
 have hvone:∀ v ∈ vs,v.oneCell'=true:=fun v hv=>by
  obtain⟨j,hj⟩:=List.getElem?_of_mem hv
  exact(hvs j v hj).2.1
 have hu30:PG.underlying 34=some (.slice 146):=by kernel_rfl
 have hs75:(PG.info? 146).map (·.size)=some 7:=by kernel_rfl
 have hcd:w.drew.heap[B]? = some (.cells c e fz):=hc
 have hm1:Nat.min (l.length+1 - i) (l.length - i)=l.length - i:=Nat.min_eq_right (by omega)
 have hm2:Nat.min 1 (l.length+1 - i)=1:=Nat.min_eq_left (by omega)
 have hcp1:∀ ty ll m dc sc,ll=l.length - i->m=l.length+1 - i->(Builtin.copy_ #[34,34] ty #[.slice (some ⟨B,o+(i+1)*7,none⟩) ll dc,.slice (some ⟨B,o+i*7,none⟩) m sc]).run PG w.drew =
   .ok (goInt (l.length - i:Nat)) (World.setBlk w.drew B (.cells (splice c (o+(i+1)*7) (piece c (o+i*7) ((l.length - i)*7))) e fz)):=by
  intro ty ll m dc sc h2 h3
  subst h2 h3
  have:=Lh (P:=PG) w.drew 34 34 ty 146 7 B (o+(i+1)*7) (l.length - i) dc B (o+i*7) (l.length+1 - i) sc (piece c (o+i*7) ((l.length - i)*7)) hu30 hs75 (by rw[hsrcl,hm1])
   (fun j v hj=>by
    have hjl:j<(l.length - i)*7:=by
     rcases Nat.lt_or_ge j ((l.length - i)*7)with h | h
     ·exact h
     ·rw[List.getElem?_eq_none (by rw[hsrcl];exact h)]at hj;cases hj
    rw[cell_of hcd,<- hpg j hjl];exact hj) hcd (by rw[hsrcl];omega) ht hone
  rw[hm1]at this
  exact this
 have hW1:=Bv (w:=w.drew) (o:=.cells (splice c (o+(i+1)*7) (piece c (o+i*7) ((l.length - i)*7))) e fz) (AE hcd)
 have ht1:Hm (splice c (o+(i+1)*7) (piece c (o+i*7) ((l.length - i)*7))) fz:=fun k hk=>ht k (by simpa using hk)
 have hcp2:∀ ty ll dc,ll=l.length+1 - i->(Builtin.copy_ #[34,34] ty #[.slice (some ⟨B,o+i*7,none⟩) ll dc,.slice (some ⟨B2,o2,none⟩) 1 vc]).run PG (World.setBlk w.drew B (.cells (splice c (o+(i+1)*7) (piece c (o+i*7) ((l.length - i)*7))) e fz)) =
   .ok (goInt 1) (World.setBlk w.drew B (.cells (Rk c o i l.length (piece c (o+i*7) ((l.length - i)*7)) vs) e fz)):=by
  intro ty ll dc h2
  subst h2
  have:=Lh (P:=PG) (World.setBlk w.drew B (.cells (splice c (o+(i+1)*7) (piece c (o+i*7) ((l.length - i)*7))) e fz)) 34 34 ty 146 7 B (o+i*7) (l.length+1 - i) dc B2 o2 1 vc vs hu30 hs75 (by rw[hvl,hm2])
   (fun j v hj=>by
    have h3:(World.setBlk w.drew B (.cells (splice c (o+(i+1)*7) (piece c (o+i*7) ((l.length - i)*7))) e fz)).heap[B2]? = some (.cells c2 e2 fz2):=by rw[Cj hne];exact hc2
    rw[cell_of h3];exact(hvs j v hj).1) hW1 (by rw[hvl,B7];omega) ht1 hvone
  rw[hm2,nG]at this
  exact this
 have hsz:(Rk c o i l.length (piece c (o+i*7) ((l.length - i)*7)) vs).size=c.size:=by unfold Rk;rw[B7,B7]
 have hrun:=Go.Proofs.YtbalmcpknmjgkaaGreat.ins_shift B o l.length cap i B2 o2 vc w _ _ hi hcap (by omega) (fun x lb cb=>ah6 hc hc2 hne (by omega) ht2 hns2 hv0) hcp1 hcp2
 have hM:Dr φ (Ab (Kq l a)) B:=⟨0,o,7,rfl,h0⟩
 have ext:=Ext.setBlk (M:=Dr φ (Ab (Kq l a))) (c':=Rk c o i l.length (piece c (o+i*7) ((l.length - i)*7)) vs) hcd hsz hM
 have mono:∀ {v:AV} {u:Value},RV w I Phi.no v u->RV (World.setBlk w.drew B (.cells (Rk c o i l.length (piece c (o+i*7) ((l.length - i)*7)) vs) e fz)) I Phi.no v u:=fun hvu=>
  hvu.mono (fun B' hB'=>⟨hB',(ext.keep B' (hdr.1.lt B' hB') fun⟨b,o',sz,hm,e'⟩=>hh.disj b B' o' sz hm e' hB').trans rfl⟩) (fun B'=>ext.csize B') (Phi.le_refl _)
 have hnss:F3 (Rk c o i l.length (piece c (o+i*7) ((l.length - i)*7)) vs) fz 7:=by
  unfold F3 at *;rw[hsz];exact hns
 have hmv:=hdr.1.move (b:=0) (nx:=2) h0 rfl rfl hcd hsz (M3 (insL l i a)) o rfl (adt (w:=w) hin (Bv (AE hcd)) (fun k hk=>ht k (by rw[<- hsz];exact hk)) hnss mono fun k r hk hr=>by
  rw[abi hin hsrcl hvl (by omega) hk hr]
  by_cases c1:k<i
  ·rw[if_pos c1,VC hin c1]
   exact hcell k r (by omega) hr
  ·rw[if_neg c1]
   by_cases c2:k=i
   ·subst c2
    rw[if_pos rfl,VD hin]
    have hv:vs[r]? = some vs[r]:=List.getElem?_eq_getElem (by omega)
    obtain⟨g1,g2,g3⟩:=hvs r _ hv
    exact⟨_,hv,g2,g3⟩
   ·rw[if_neg c2,iL hin (by omega),hpg _ (by omega)]
    have:o+i*7+((k - 1 - i)*7+r)=o+(k - 1)*7+r:=by omega
    rw[this]
    exact hcell (k - 1) r (by omega) hr) 2
 rw[<- ae9]at hmv
 refine⟨_,hrun,hmv.1,hdr.2.trans hmv.2.1,?_⟩
 rw[hcs]
 unfold AM.csize
 rw[Bv (AE hcd)]
 exact hsz
theorem vF{R:Array Value}{i n:Nat}{src vs:List Value}(hi:i<=n)(hs:src.length=(n - i)*7)(hv:vs.length=7)(hc:(n+1)*7<=R.size){k r:Nat}(hk:k<n+1)(hr:r<7) :
  (splice (splice R (i*7) vs) ((i+1)*7) src)[0+k*7+r]? = if k<i then R[k*7+r]? else if k=i then vs[r]? else src[(k - 1 - i)*7+r]? := by
 rw[splice_get _ _ _ _ (by rw[B7,hs];omega),splice_get _ _ _ _ (by rw[hv];omega),hv,hs,Nat.zero_add]
 by_cases h1:k<i
 ·rw[if_pos h1,if_neg (by omega),if_neg (by omega)]
 ·rw[if_neg h1]
  by_cases h2:k=i
  ·subst h2
   rw[if_pos rfl,if_neg (by omega),if_pos (by omega)]
   congr 1;omega
  ·rw[if_neg h2,if_pos (by omega)]
   congr 1
   omega
theorem OH(z:Array Value)(n:Nat):(Builtin.zeroCells z n).size=n*z.size:=by simp[Builtin.zeroCells]
theorem afa{w:World}{I:Nat->Prop}{φ:Phi}{l:List Seen}{i:Nat}{a:Seen}(hh:RH w I φ (Ab (Kq l a))){B o B2 o2 vc:Nat}(h0:φ 0=some (B,o,7))(h1:φ 1=some (B2,o2,7))(hi:i<l.length)(hl:l.length<=100000)
  (hs:o+l.length*7<=csize w B) :
  ∃ w2 G,l.length+1<=G/\(Calls PG Bu #[.slice (some ⟨B,o,none⟩) l.length l.length,.int .i64 i,.slice (some ⟨B2,o2,none⟩) 1 vc] w fun e w'=>e=.returned (.slice (some ⟨w.heap.size,0,none⟩) (l.length+1) G)/\w'=w2) /\
   RH w2 I (φ.set 2 (w.heap.size,0,7)) (Ab (M4 l i a))/\Step 2 (Ab (Kq l a)) φ I w (Ab (M4 l i a)) (φ.set 2 (w.heap.size,0,7)) I w2/\G*7<=csize w2 w.heap.size:=by
 obtain⟨c,e,fz,hc,ht,hns,hcell⟩:=Xk (b:=0) hh rfl h0
 obtain⟨c2,e2,fz2,hc2,ht2,hns2,vs,hvl,hvs⟩:=Xl (b:=1) hh rfl h1
 have hcs:csize w B=c.size:=by unfold AM.csize;rw[hc]
 rw[hcs]at hs
 have hin:i<=l.length:=by omega
 have hBlt:=AE hc
 have hB2lt:=AE hc2
 have hsrcl:(piece c (o+i*7) ((l.length - i)*7)).length=(l.length - i)*7:=Ri _ _ _
 have hpg:∀ j,j<(l.length - i)*7->(piece c (o+i*7) ((l.length - i)*7))[j]? = c[o+i*7+j]? := fun j hj=>Rj (by omega) hj
 have hol:(piece c o (i*7)).length=i*7:=Ri _ _ _
 have hog:∀ j,j<i*7->(piece c o (i*7))[j]? = c[o+j]? := fun j hj=>Rj (by omega) hj
 have hdr:=hh.drew 2
 have hone:∀ v ∈ piece c (o+i*7) ((l.length - i)*7),v.oneCell'=true:=fun v hv=>by
  obtain⟨j,hj⟩:=List.getElem?_of_mem hv
  have hjl:j<(l.length - i)*7:=by
   rcases Nat.lt_or_ge j ((l.length - i)*7)with h | h
   ·exact h
   ·rw[List.getElem?_eq_none (by rw[hsrcl];exact h)]at hj;cases hj
  rw[hpg j hjl]at hj
  obtain⟨s1,s2,s3⟩:=vC hjl
  obtain⟨u,g1,g2,_⟩:=hcell (i+j / 7) (j % 7) (by omega) s2
  have:o+(i+j / 7)*7+j % 7=o+i*7+j:=by omega
  rw[this,hj]at g1
  cases g1
  exact g2
 have hvone:∀ v ∈ vs,v.oneCell'=true:=fun v hv=>by
  obtain⟨j,hj⟩:=List.getElem?_of_mem hv
  exact(hvs j v hj).2.1
 have hu30:PG.underlying 34=some (.slice 146):=by kernel_rfl
 have hu3:PG.underlying 3=some (.int .i64):=by kernel_rfl
 have hs75:(PG.info? 146).map (·.size)=some 7:=by kernel_rfl
 have hi75:(PG.info? 146).map (fun i=>(i.size,i.bytes,i.zero.map (·.cells.size)))=some (7,72,some 7):=by kernel_rfl
 obtain⟨i0,hi0,e1,e3,z,hz,hzs⟩:∃ i0,PG.info? 146=some i0/\i0.size=7/\i0.bytes=72 /\ ∃ z,i0.zero=some z/\z.cells.size=7:=by
  cases hq:PG.info? 146 with
  | none=>rw[hq]at hi75;cases hi75
  | some i0=>
   rw[hq]at hi75
   simp only[Option.map_some,Option.some.injEq,Prod.mk.injEq]at hi75
   obtain⟨a1,a2,a3⟩:=hi75
   cases hz:i0.zero with
   | none=>rw[hz]at a3;cases a3
   | some z=>rw[hz]at a3;exact⟨i0,rfl,a1,a2,z,hz,by simpa using a3⟩
 have hold:(Builtin.firstCells i0.size i (.slice (some ⟨B,o,none⟩) i l.length)).run PG w.drew=.ok (piece c o (i*7)).toArray w.drew:=by
  rw[e1]
  exact EA (P:=PG) (w:=w.drew) (piece c o (i*7)) hol fun j v hj=>by
   have hjl:j<i*7:=by
    rcases Nat.lt_or_ge j (i*7)with h | h
    ·exact h
    ·rw[List.getElem?_eq_none (by rw[hol];exact h)]at hj;cases hj
   rw[cell_of (w:=w.drew) hc,<- hog j hjl];exact hj
 have hik:i+(l.length+1 - i)=l.length+1:=by omega
 have hap:=Lib.run_append_grow_zeros (P:=PG) w 34 3
 obtain⟨G,hG⟩:∃ G,G=grownCap w (l.length+1) l.length 146:=⟨_,rfl⟩
 obtain⟨R,hR⟩:∃ R:Array Value,R=(piece c o (i*7)).toArray++Builtin.zeroCells z.cells (l.length+1 - i)++Builtin.zeroCells z.cells (G - (l.length+1)):=⟨_,rfl⟩
 have hGn:l.length+1<=G:=by rw[hG];exact grownCap_ge w _ _ _
 have hG63:G<=9223372036854775807:=by
  have:=grownCap_le_maxLen w (l.length+1) l.length 146 (by unfold maxLen;omega)
  rw[<- hG]at this
  unfold maxLen at this
  omega
 have hRs:R.size=G*7:=by
  rw[hR,Array.size_append,Array.size_append,OH,OH,hzs]
  have:(piece c o (i*7)).toArray.size=i*7:=by simpa using hol
  rw[this];omega
 have hRg:∀ j,j<i*7->R[j]? = c[o+j]? := fun j hj=>by
  have h2:(piece c o (i*7)).toArray.size=i*7:=by simpa using hol
  rw[hR,Array.append_assoc,Array.getElem?_append_left (by rw[h2];exact hj),<- hog j hj]
  simp
 have happ:∀ ty x,x=(l.length:Int)+1 - i->(Builtin.append_ #[34,3] ty #[.slice (some ⟨B,o,none⟩) i l.length,.int .i64 x]).run PG w=.ok (.slice (some ⟨w.heap.size,0,none⟩) (l.length+1) G) (w.drew.alloc (.cells R 146)):=by
  intro ty x hx
  have h:=hap ty 146 i0 z .i64 .i64 hu30 hu3 hi0 hz (some ⟨B,o,none⟩) i l.length (piece c o (i*7)) hold (l.length+1 - i) (by omega) (by omega) (by omega) (by omega) (by rw[e3];omega) (by rw[e3,hik];exact growslice_fits (by omega) (by omega))
  rw[hik,<- hG,<- hR]at h
  have:x=((l.length+1 - i:Nat):Int):=by omega
  rw[this]
  exact h
 have hW1:(w.drew.alloc (.cells R 146)).heap[w.heap.size]? = some (.cells R 146 (0,0)):=Em w.drew _
 have hth0:∀ {c:Array Value},Hm c (0,0):=fun k _ h=>Nat.not_lt_zero _ h.2
 have hns0:∀ {c:Array Value},F3 c (0,0) 7:=.inr fun h=>Nat.not_lt_zero _ h.2
 have hm1:Nat.min 1 (l.length+1 - i)=1:=Nat.min_eq_left (by omega)
 have hm2:Nat.min (l.length - i) (l.length - i)=l.length - i:=Nat.min_self _
 have hcp1:∀ ty ll dc,ll=l.length+1 - i->(Builtin.copy_ #[34,34] ty #[.slice (some ⟨w.heap.size,i*7,none⟩) ll dc,.slice (some ⟨B2,o2,none⟩) 1 vc]).run PG (w.drew.alloc (.cells R 146)) =
   .ok (goInt 1) (World.setBlk (w.drew.alloc (.cells R 146)) w.heap.size (.cells (splice R (i*7) vs) 146 (0,0))):=by
  intro ty ll dc h2
  subst h2
  have:=Lh (P:=PG) (w.drew.alloc (.cells R 146)) 34 34 ty 146 7 w.heap.size (i*7) (l.length+1 - i) dc B2 o2 1 vc vs hu30 hs75 (by rw[hvl,hm1])
   (fun j v hj=>by
    have h3:(w.drew.alloc (.cells R 146)).heap[B2]? = some (.cells c2 e2 fz2):=by rw[alloc_old w.drew _ hB2lt];exact hc2
    rw[cell_of h3];exact(hvs j v hj).1) hW1 (by rw[hvl,hRs];omega) hth0 hvone
  rw[hm1]at this
  exact this
 have hW2:(World.setBlk (w.drew.alloc (.cells R 146)) w.heap.size (.cells (splice R (i*7) vs) 146 (0,0))).drew.heap[w.heap.size]? = some (.cells (splice R (i*7) vs) 146 (0,0)):=Bv (AE hW1)
 have hcp2:∀ ty ll m dc sc,ll=l.length - i->m=l.length - i->(Builtin.copy_ #[34,34] ty #[.slice (some ⟨w.heap.size,(i+1)*7,none⟩) ll dc,.slice (some ⟨B,o+i*7,none⟩) m sc]).run PG (World.setBlk (w.drew.alloc (.cells R 146)) w.heap.size (.cells (splice R (i*7) vs) 146 (0,0))).drew =
   .ok (goInt (l.length - i:Nat)) (World.setBlk (World.setBlk (w.drew.alloc (.cells R 146)) w.heap.size (.cells (splice R (i*7) vs) 146 (0,0))).drew w.heap.size (.cells (splice (splice R (i*7) vs) ((i+1)*7) (piece c (o+i*7) ((l.length - i)*7))) 146 (0,0))):=by
  intro ty ll m dc sc h2 h3
  subst h2 h3
  have:=Lh (P:=PG) (World.setBlk (w.drew.alloc (.cells R 146)) w.heap.size (.cells (splice R (i*7) vs) 146 (0,0))).drew 34 34 ty 146 7 w.heap.size ((i+1)*7) (l.length - i) dc B (o+i*7) (l.length - i) sc (piece c (o+i*7) ((l.length - i)*7)) hu30 hs75 (by rw[hsrcl,hm2])
   (fun j v hj=>by
    have hjl:j<(l.length - i)*7:=by
     rcases Nat.lt_or_ge j ((l.length - i)*7)with h | h
     ·exact h
     ·rw[List.getElem?_eq_none (by rw[hsrcl];exact h)]at hj;cases hj
    have h3:(World.setBlk (w.drew.alloc (.cells R 146)) w.heap.size (.cells (splice R (i*7) vs) 146 (0,0))).drew.heap[B]? = some (.cells c e fz):=by
     show(World.setBlk (w.drew.alloc (.cells R 146)) w.heap.size (.cells (splice R (i*7) vs) 146 (0,0))).heap[B]? = _
     rw[Cj (by omega),alloc_old w.drew _ hBlt];exact hc
    rw[cell_of h3,<- hpg j hjl];exact hj) hW2 (by rw[hsrcl,B7,hRs];omega) hth0 hone
  rw[hm2]at this
  exact this
 have hrun:=Go.Proofs.YtbalmcpknmjgkaaGreat.ins_grow B o l.length i B2 o2 vc w.heap.size G w _ _ _ hi hGn hG63 (by omega) happ hcp1 hcp2
 have x0:∀ {W:World} {φ':Phi} {cc:Array Value},W.heap[w.heap.size]? = some (.cells cc 146 (0,0))->RB W I φ' w.heap.size 0 7 (.arr true 7 []):=fun hW=>
  ⟨rfl,⟨_,_,_,hW,fun _=>⟨hth0,hns0⟩⟩,fun i cs h=>by simp at h,fun i cs k c h=>by simp at h⟩
 have r2:=hdr.1.alloc (nx:=2) rfl (.cells R 146) (.arr true 7 []) 7 rfl (x0 hW1) okObj.row 2
 have r3:=r2.1.write (b:=2) (Phi.set_same _ _ _) rfl hW1 (B7 vs R (i*7)) (.arr true 7 []) rfl (x0 (Bv (AE hW1))) 2
 have r4:=r3.1.drew 2
 have st4:=((hdr.2.trans r2.2.1).trans r3.2).trans r4.2
 have e5:=Ext.setBlk (M:=fun B'=>B'=w.heap.size) (c':=splice (splice R (i*7) vs) ((i+1)*7) (piece c (o+i*7) ((l.length - i)*7))) hW2 (B7 _ _ _) rfl
 have mono:∀ {v:AV} {u:Value},RV w I Phi.no v u->RV (World.setBlk (World.setBlk (w.drew.alloc (.cells R 146)) w.heap.size (.cells (splice R (i*7) vs) 146 (0,0))).drew w.heap.size (.cells (splice (splice R (i*7) vs) ((i+1)*7) (piece c (o+i*7) ((l.length - i)*7))) 146 (0,0))) I Phi.no v u:=fun hvu=>
  (hvu.mono (fun B' hB'=>⟨hB',st4.ext.keep B' (hh.lt B' hB') fun⟨b,o',sz,hm,e'⟩=>hh.disj b B' o' sz hm e' hB'⟩) (fun B'=>st4.ext.csize B') (Phi.le_refl _)).mono
   (fun B' hB'=>⟨hB',e5.keep B' (r4.1.lt B' hB') (fun hE=>by have:=hh.lt B' hB';omega)⟩) (fun B'=>e5.csize B') (Phi.le_refl _)
 have r5:=r4.1.write (b:=2) (Phi.set_same _ _ _) rfl hW2 (B7 _ _ _) (M3 (insL l i a)) rfl (adt (w:=w) (q:=0) hin (Bv (AE hW2)) hth0 hns0 mono fun k r hk hr=>by
  rw[vF hin hsrcl hvl (by rw[hRs];omega) hk hr]
  by_cases c1:k<i
  ·rw[if_pos c1,VC hin c1,hRg _ (by omega)]
   have:o+(k*7+r)=o+k*7+r:=by omega
   rw[this]
   exact hcell k r (by omega) hr
  ·rw[if_neg c1]
   by_cases c2:k=i
   ·subst c2
    rw[if_pos rfl,VD hin]
    have hv:vs[r]? = some vs[r]:=List.getElem?_eq_getElem (by omega)
    obtain⟨g1,g2,g3⟩:=hvs r _ hv
    exact⟨_,hv,g2,g3⟩
   ·rw[if_neg c2,iL hin (by omega),hpg _ (by omega)]
    have:o+i*7+((k - 1 - i)*7+r)=o+(k - 1)*7+r:=by omega
    rw[this]
    exact hcell (k - 1) r (by omega) hr) 2
 have r6:=r5.1.kill 0 rfl 2
 have hrd:AZ (AZ (AZ (AZ (Ab (Kq l a)) 2 (.arr true 7 [])) 2 (.arr true 7 [])) 2 (M3 (insL l i a))) 0 .dead=Ab (M4 l i a):=by
  funext b
  match b with
  | 0=>rfl
  | 1=>rfl
  | 2=>rfl
  | _+3=>rfl
 rw[hrd]at r6
 refine⟨_,G,hGn,hrun,r6.1,(st4.trans r5.2).trans r6.2,?_⟩
 unfold AM.csize
 rw[Bv (AE hW2)]
 simp only[B7]
 omega
def aQ(l:List Seen)(i:Nat):List AV:=[.sl 7 0 0 l.length 0,.int .i64 i,.sl 7 1 0 1 1]
theorem abj(ra:Array Value)(w:World):(callFunc Bu ra).run PG w=.ok (.enter Bu ra) w:=by
 have hfn:PG.funcs[Bu]? = some Go.Proofs.Tryz.f194:=Go.Proofs.Tryz.func194
 have hname : (Go.Proofs.Tryz.f194.name == "runtime.NumGoroutine") = false := by kernel_rfl
 have hbody:Go.Proofs.Tryz.f194.body.isNone=false:=by kernel_rfl
 simp only[callFunc,Sem.run_bind,run_program,Result.andThen_ok,hfn,hname,hbody,Bool.false_eq_true,if_false,Sem.run_pure]
theorem vG{w:World}{I:Nat->Prop}{φ:Phi}{sz b off len cm:Nat}{u:Value}(h:RV w I φ (.sl sz b off len cm) u)(hn:0<len) :
  ∃ B o cap,φ b=some (B,o,sz)/\len<=cap/\cm<=cap/\o+(off+cap)*sz<=csize w B/\u=.slice (some ⟨B,o+off*sz,none⟩) len cap:=by
 cases h with
 | sl _ _ B o _ _ _ cap q h hq hl hc hs=>exact⟨B,o,cap,h,hl,hc,hs,by rw[hq]⟩
 | sle=>omega
theorem afb{l:List Seen}{i:Nat}{a:Seen}(hi:i<l.length)(hl:l.length<=100000) :
  Aa PG Bu (aQ l i) (Kq l a) (.sl 7 2 0 (l.length+1) 0) (M4 l i a)/\(Kq l a).length<=(M4 l i a).length:=by
 refine⟨fun w I φ ra hh hx=>?_,by show 2<=3;omega⟩
 obtain⟨hsz,hel⟩:=hx
 have hsz:ra.size=3:=hsz.symm
 have g0:=hel 0 _ ra[0] rfl (Array.getElem?_eq_getElem (by omega))
 have g1:=hel 1 _ ra[1] rfl (Array.getElem?_eq_getElem (by omega))
 have g2:=hel 2 _ ra[2] rfl (Array.getElem?_eq_getElem (by omega))
 obtain⟨B,o,cap,h0,hc1,_,hs,e0⟩:=vG g0 (by omega)
 obtain⟨B2,o2,vc,h1,_,_,_,e2⟩:=vG g2 (by omega)
 have e1:ra[1]=.int .i64 i:=by
  generalize ra[1]=v at g1
  cases g1
  rfl
 have hra:ra = #[.slice (some ⟨B,o,none⟩) l.length cap,.int .i64 i,.slice (some ⟨B2,o2,none⟩) 1 vc]:=by
  rw[Nat.zero_mul,Nat.add_zero]at e0 e2
  refine Array.ext (by simp[hsz]) fun j h3 h4=>?_
  match j,h3 with
  | 0,_=>exact e0
  | 1,_=>exact e1
  | 2,_=>exact e2
  | j+3,h=>omega
 subst hra
 rw[Nat.zero_add]at hs
 refine .inl ⟨abj _ _,?_⟩
 by_cases hr:l.length+1<=cap
 ·obtain⟨w2,hrun,a1,a2,a3⟩:=vD hh h0 h1 hi hl hr hs
  refine Calls.mono hrun fun e w' ⟨he,hw⟩=>⟨_,he,φ.set 2 (B,o,7),I,?_,hw ▸ a1,hw ▸ a2⟩
  subst hw
  exact .sl 7 2 B o 0 _ 0 cap o (Phi.set_same _ _ _) (by omega) hr (Nat.zero_le _) (by rw[a3];omega)
 ·have hcap:cap=l.length:=by omega
  subst hcap
  obtain⟨w2,G,hG,hrun,a1,a2,a3⟩:=afa hh h0 h1 hi hl hs
  refine Calls.mono hrun fun e w' ⟨he,hw⟩=>⟨_,he,φ.set 2 (w.heap.size,0,7),I,?_,hw ▸ a1,hw ▸ a2⟩
  subst hw
  exact .sl 7 2 w.heap.size 0 0 _ 0 G 0 (Phi.set_same _ _ _) (by omega) hG (Nat.zero_le _) (by omega)
end Go.Wk
end
noncomputable section
open Go Go.AM Go.Md
namespace Go.Wk
set_option maxRecDepth 100000
set_option maxHeartbeats 400000
def alZ:Env:=Pk [] (fun _=>none) []
theorem ah7(n:Nat)(f:Nat->List AV)(a:Seen)(i:Int):Mh alZ 5 Bu [AV.sl 7 0 0 (n+1) 0,AV.int IntKind.i64 i,AV.sl 7 1 0 1 1] [BS.seq true 7 (n+1) f,BS.arr true 7 [As a]] =
 bif decide (0<=i)&&decide (i<=(↑(n+1):Int))then
  bif decide (i=(↑(n+1):Int))then
   bif(n+1).ble (n+1)then
    bif((n+1+1)*72).ble 140737488355328&&(n+1+1).ble 140737488355328 then
     some ((AV.sl 7 2 0 (n+1+1) 0,[BS.dead,BS.arr true 7 [As a],BS.seq true 7 (n+1+1) fun i=>bif i.blt (n+1)then f i else bif i.blt (n+1+1)then [As a].getD (i - (n+1)) []else f (n+1)]))
    else none
   else none
  else none
 else none:=by kernel_rfl
theorem nH{l:List Seen}{a:Seen}(hne:l ≠ [])(hl:l.length<=100000) :
  Aa PG Bu (aQ l l.length) (Kq l a) (.sl 7 2 0 (l.length+1) 0) (M4 l l.length a):=by
 obtain⟨n,hn⟩:∃ n,l.length=n+1:=⟨l.length - 1,by have:=List.length_pos_iff.2 hne;omega⟩
 have e:=ah7 n (fun k=>As (l.getD k default)) a ((n+1:Nat):Int)
 rw[decide_eq_true (by omega),decide_eq_true (Int.le_refl _),Bool.and_true,cond_true,decide_eq_true rfl,cond_true,Bn (Nat.le_refl _),cond_true,Bn (by omega),Bn (by omega),Bool.and_true,cond_true]at e
 have hc:=(KL (Sa AL) Nt mixed e).1
 have ea:aQ l l.length=[.sl 7 0 0 (n+1) 0,.int .i64 ((n+1:Nat):Int),.sl 7 1 0 1 1]:=by unfold aQ;rw[hn]
 have eh:Kq l a=[.seq true 7 (n+1) (fun k=>As (l.getD k default)),.arr true 7 [As a]]:=by unfold Kq M3;rw[hn]
 have er:(AV.sl 7 2 0 (l.length+1) 0)=.sl 7 2 0 (n+1+1) 0:=by rw[hn]
 have hil:(insL l l.length a).length=n+1+1:=by rw[Tt (Nat.le_refl _),hn]
 have eo:M3 (insL l l.length a)=.seq true 7 (n+1+1) fun k=>As ((insL l l.length a).getD k default):=by unfold M3;rw[hil]
 rw[ea,eh,er]
 unfold M4
 rw[eo]
 refine hc.resub (.refl _) (.cons (.refl _) (.cons (.refl _) (.cons (.seq true 7 _ _ _ _ (Nat.le_refl _) fun k hk=>?_) .nil)))
 by_cases h1:k<n+1
 ·rw[AB h1,cond_true,VC (Nat.le_refl _) (by omega)];exact .refl _
 ·have:k=l.length:=by omega
  subst this
  rw[CI (by omega),cond_false,AB (by omega),cond_true,VD (Nat.le_refl _)]
  have:l.length - (n+1)=0:=by omega
  rw[this];exact .refl _
def cell0(h:Heap)(b:Nat):List AV:=match Ab h b with
 | .arr _ _ es=>es.getD 0 []
 | _=>[]
def dNs(h:Heap)(b:Nat):List Seen:=match Ab h b with
 | .seq _ _ n f=>(List.range n).map fun k=>BZ (f k)
 | _=>[]
structure IX where
 l:List Seen
 i:Nat
 a:Seen
def dIX(args:List AV)(h:Heap):IX:=⟨dNs h 0,(Ar args 1).toNat,BZ (cell0 h 1)⟩
def pIX(x:IX):Prop:=x.i<=x.l.length/\x.l.length<=100000/\x.l ≠ []
def Xm(x:IX):List AV × Heap:=(aQ x.l x.i,Kq x.l x.a)
def oIX(x:IX):AV × Heap:=(.sl 7 2 0 (x.l.length+1) 0,M4 x.l x.i x.a)
theorem ah8(x:IX):dIX (Xm x).1 (Xm x).2=x:=by
 obtain⟨l,i,a⟩:=x
 have h2:(List.range l.length).map (fun k=>BZ (As (l.getD k default)))=l:=EO (e:=As) (d:=BZ) (z:=default) (sz:=7) Jf l
 show(⟨(List.range l.length).map (fun k=>BZ (As (l.getD k default))),((i:Int)).toNat,BZ (As a)⟩:IX)=_
 rw[h2,Int.toNat_natCast,Jf]
theorem vH(x:IX)(h:pIX x):Aa PG Bu (Xm x).1 (Xm x).2 (oIX x).1 (oIX x).2/\(Xm x).2.length<=(oIX x).2.length:=by
 obtain⟨l,i,a⟩:=x
 obtain⟨h1,h2,h3⟩:=h
 simp only[]at h1 h2 h3
 refine⟨?_,by show 2<=3;omega⟩
 by_cases hi:i<l.length
 ·exact(afb hi h2).1
 ·have:i=l.length:=by omega
  subst this
  exact nH h3 h2
def ah9:Known:=.specH Bu dIX pIX Xm oIX
theorem VE:ah9.Ok PG:=Known.specH_ok vH
end Go.Wk
end
noncomputable section
open Go Go.AM Go.Md
namespace Go.Hd
open Go.Wk
set_option maxRecDepth 100000
set_option maxHeartbeats 400000
def Lj(l:List Seen)(s:Seen):List Seen:=
 bif(CC l s.sess).2 then bif decide ((l.getD (CC l s.sess).1 default).num<s.num)then l.set (CC l s.sess).1 s else l else Wk.insL l (CC l s.sess).1 s
def eSp(l:List Known):Env:=BU [] [(DK,0),(Dq,0),(Ck,1),(Bu,5)] [] l
def al0:List Known:=[ads,ah9]
theorem akD(s:Seen):Am (eSp [Pu]) 30 DK [.nils,.agg (As s)]=some (.trl 7 [As s]):=by kernel_rfl
theorem akE(s:Seen):Am (eSp [Pu]) 30 DK [.trl 7 [],.agg (As s)]=some (.trl 7 [As s]):=by kernel_rfl
def gSr(A:List AV)(K:SI->Option AV):Option AV:=gC (fun a=>(AN BZ (a.getD 0 .nils),Ar a 1)) (fun p=>FM p.1) Ny A K
theorem akF(n:Nat)(F:Nat->Seen)(s:Seen):Am (eSp al0) 9 DK [.tr 7 (n+1) fun i=>As (F i),.agg (As s)] =
 bif((0+(n+1))*72).ble 140737488355328&&(0+(n+1)).ble 140737488355328 then bif(n+1).ble (n+1)&&true then
  gSr [.tr 7 (n+1) fun i=>As (F i),.int .i64 s.sess] fun y=>bif !(CC y.1 y.2).2 then
   Yz dIX pIX Xm [.sl 7 0 0 (n+1) 0,.int .i64 ((CC y.1 y.2).1:Nat),.sl 7 1 0 1 1] [.seq true 7 (n+1) fun i=>As (F i),.arr true 7 [As s]] fun z=>
   bif(z.l.length+1).ble (Wk.insL z.l z.i z.a).length then some (.tr 7 (z.l.length+1) fun k=>As ((Wk.insL z.l z.i z.a).getD k default))else none
  else bif decide (((CC y.1 y.2).1:Int)<((n+1:Nat):Int))then bif(0+(((CC y.1 y.2).1:Nat):Int).toNat).blt (n+1)then bif decide ((F (0+(((CC y.1 y.2).1:Nat):Int).toNat)).num<s.num)then
     bif decide (((CC y.1 y.2).1:Int)<((n+1:Nat):Int))then bif(0+(((CC y.1 y.2).1:Nat):Int).toNat).blt (n+1)&&true then bif(n+1).ble (n+1)then
      some (.tr 7 (n+1) fun j=>bif Nat.beq j (0+(((CC y.1 y.2).1:Nat):Int).toNat)then As s else As (F j))else none else none else none
    else bif(n+1).ble (n+1)then some (.tr 7 (n+1) fun j=>As (F j))else none
   else none else none
 else none else none:=by kernel_rfl
theorem afc{l:List Seen}{s:Int}:(CC l s).1<=l.length:=List.length_filter_le _ _
theorem aR{l:List Seen}{s:Int}(h:(CC l s).2=true)(hp:l.Pairwise fun a b=>a.sess<b.sess):(CC l s).1<l.length/\(l.getD (CC l s).1 default).sess=s:=by
 unfold CC at h ⊢
 dsimp only at h ⊢
 induction l with
 | nil=>cases h
 | cons a l ih=>
  obtain⟨h1,h2⟩:=List.pairwise_cons.1 hp
  by_cases ha:a.sess<s
  ·have hn:¬ a.sess=s:=by omega
   rw[List.filter_cons_of_pos (by simpa using ha)]
   have:=ih (by simpa [hn] using h) h2
   simp only[List.length_cons,List.getD_cons_succ]
   exact⟨by omega,this.2⟩
  ·have he:a.sess=s:=by
    obtain⟨x,hx,hx2⟩:=List.any_eq_true.1 h
    have hx2:x.sess=s:=by simpa using hx2
    rcases List.mem_cons.1 hx with rfl | hx
    ·exact hx2
    ·have:=h1 x hx;omega
   have hf:(a::l).filter (fun x=>decide (x.sess<s))=[]:=by
    rw[List.filter_eq_nil_iff]
    intro x hx
    rcases List.mem_cons.1 hx with rfl | hx
    ·simpa using ha
    ·have:=h1 x hx;simp;omega
   rw[hf]
   exact⟨by simp,he⟩
theorem afd{X:Type}(e:X->List AV)(z:X)(l:List X)(k:Nat)(x:X)(hk:k<l.length):(fun i=>bif Nat.beq i k then e x else e (l.getD i z))=fun i=>e ((l.set k x).getD i z):=by
 funext i
 by_cases hi:i=k
 ·subst hi
  rw[AM.beq_true rfl,cond_true]
  simp[List.getD,hk]
 ·rw[AM.beq_false hi,cond_false]
  simp[List.getD,List.getElem?_set,show ¬ k=i from fun e=>hi e.symm]
theorem afe(p:SS)(h:FM p.1):Aa PG DK (Ue p) [] (Ax (Lj p.1 p.2)) []:=by
 obtain⟨l,s⟩:=p
 have one:AR (.trl 7 [As s]) (Ax [s]):=AR.trl_of [s] rfl
 cases l with
 | nil=>exact Aa.split (On.of [] [.agg (As s)] .nil) ((BQ (ak JL AL) (akD s)).res one) ((BQ (ak JL AL) (akE s)).res one)
 | cons a l=>
  have hl:=h.1
  have e:=akF l.length (fun i=>(a::l).getD i default) s
  have hlen:(a::l).length=l.length+1:=rfl
  rw[hlen]at hl
  have q:∀ {K:SI->Option AV},gSr [.tr 7 (l.length+1) fun i=>As ((a::l).getD i default),.int .i64 s.sess] K=K (a::l,s.sess):=fun {K}=>Aw (a::l,s.sess) (Prod.ext (EB (a::l)) rfl) h (.refl _)
  rw[Aq (show(0+(l.length+1))*72<=140737488355328 by omega),Aq (show 0+(l.length+1)<=140737488355328 by omega),Aq (Nat.le_refl _),Bool.and_true,cond_true,cond_true,q]at e
  dsimp only at e
  obtain⟨i,hi⟩:∃ i,(CC (a::l) s.sess).1=i:=⟨_,rfl⟩
  have hle:i<=(a::l).length:=by rw[<- hi];exact afc
  have hhit:=fun hs=>aR (l:=a::l) (s:=s.sess) hs h.2
  have hz:(0+((i:Nat):Int).toNat)=i:=by omega
  unfold Lj
  dsimp only
  rw[hi]at e hhit ⊢
  cases hs:(CC (a::l) s.sess).2 with
  | false=>
   have q2:∀ {K:IX->Option AV},Yz dIX pIX Xm [.sl 7 0 0 (l.length+1) 0,.int .i64 (i:Nat),.sl 7 1 0 1 1] [.seq true 7 (l.length+1) fun j=>As ((a::l).getD j default),.arr true 7 [As s]] K=K ⟨a::l,i,s⟩:=fun {K}=>
    qF (⟨a::l,i,s⟩:IX) (ah8 (⟨a::l,i,s⟩:IX)) ⟨hle,by show(a::l).length<=100000;rw[hlen];omega,by show a::l ≠ [];simp⟩ rfl
   have hil:(Wk.insL (a::l) i s).length=(a::l).length+1:=Tt hle
   rw[hs,Bool.not_false,cond_true,q2]at e
   dsimp only at e
   rw[hil,Aq (Nat.le_refl _),cond_true]at e
   rw[cond_false]
   have:Ax (Wk.insL (a::l) i s)=.tr 7 ((a::l).length+1) fun k=>As ((Wk.insL (a::l) i s).getD k default):=by unfold Ax C5;rw[hil]
   rw[this]
   exact BQ (ak Ts (ak VE AL)) e
  | true=>
   obtain⟨h1,_⟩:=hhit hs
   rw[hlen]at h1
   rw[hs,Bool.not_true,cond_false,decide_eq_true (show((i:Nat):Int)<((l.length+1:Nat):Int) by omega),cond_true,hz,AB h1,cond_true,cond_true,Bool.and_true,cond_true,cond_true]at e
   rw[cond_true]
   cases hn:decide (((a::l).getD i default).num<s.num)with
   | true=>
    rw[hn,cond_true]at e
    rw[cond_true]
    have hset:=afd As default (a::l) i s (by rw[hlen];exact h1)
    rw[hset]at e
    have:Ax ((a::l).set i s)=.tr 7 (l.length+1) fun j=>As (((a::l).set i s).getD j default):=by unfold Ax C5;rw[List.length_set];rfl
    rw[this]
    exact BQ (ak Ts (ak VE AL)) e
   | false=>rw[hn,cond_false]at e;exact BQ (ak Ts (ak VE AL)) e
def kSPut:Known:=.spec DK fH (fun p=>FM p.1) Ue (fun p=>Ax (Lj p.1 p.2))
theorem kSPut_ok:kSPut.Ok PG:=Known.spec_ok afe
def pushR(r:Rep)(e:Entry):Rep:={r with tail:=⟨r.tail.floor,e.ver,r.tail.log++[e]⟩,seen:=Lj r.seen (Hp e)}
def pushP(r:Rep)(e:Entry):Rep × Bool:=bif AH r.tail.last e.ver then(pushR r e,true)else(r,false)
structure PushOk(r:Rep)(e:Entry):Prop where
 log:r.tail.log.length<=10000
 last:Au r.tail.last
 ver:Au e.ver
 seen:FM r.seen
def eCp(l:List Known):Env:=BU [] [(ER,0),(Ip,0),(HI,0),(DK,0),(QK,0),(K9,0),(Eh,0)] [] l
def gTP(t:Tail)(e:Entry)(K:TE->Option AV):Option AV:=gC rE WL YY [.agg (AJ t),.agg (Ai e)] K
def gSP(l:List Seen)(s:Seen)(K:SS->Option AV):Option AV:=gC fH (fun p=>FM p.1) Ue [Ax l,.agg (As s)] K
theorem aia(r:Rep)(e:Entry):Am (eCp [YZ,kSPut,kOf]) 9 ER [.agg (Ag r),.agg (Ai e)] =
 gTP r.tail e fun y=>bif !(Gd y.1 y.2).2 then some (.tup [.agg (Ag r),.bool false])else gC T9 Ua Ub [.agg (Ai e)] fun z=>gSP r.seen (Hp z) fun x=>
  some (.tup [.agg (Ag {r with tail:=(Gd y.1 y.2).1,seen:=Lj x.1 x.2}),.bool true]):=by kernel_rfl
def oRE(p:RE):AV:=.tup [.agg (Ag (pushP p.1 p.2).1),.bool (pushP p.1 p.2).2]
theorem aff(p:RE)(h:PushOk p.1 p.2):Aa PG ER (Nu p) [] (oRE p) []:=by
 obtain⟨r,e⟩:=p
 have k:=aia r e
 have q1:∀ {K:TE->Option AV},gTP r.tail e K=K (r.tail,e):=fun {K}=>qTE ⟨h.log,h.last,h.ver⟩
 have q2:∀ {K:SS->Option AV},gSP r.seen (Hp e) K=K (r.seen,Hp e):=fun {K}=>Aw (r.seen,Hp e) (Prod.ext (EB _) (Jf _)) h.seen (.refl _)
 rw[q1,acz,q2]at k
 refine BQ (ak WN (ak kSPut_ok (ak qW AL))) (k.trans ?_)
 unfold oRE pushP Gd
 dsimp only
 cases AH r.tail.last e.ver <;> rfl
def kPush:Known:=.spec ER QO (fun p=>PushOk p.1 p.2) Nu oRE
theorem kPush_ok:kPush.Ok PG:=Known.spec_ok aff
theorem afg(r:Rep)(e:Entry):Am (eCp [lL,Mn,kPush]) 9 Ip [.agg (Ag r),.agg (Ai e)] =
 gC CO Cw CP [.agg (Ag r)] fun y=>gC CO EK CP [.agg (Ag y)] fun z=>bif !Co z then some (.tup [.agg (Ag y),.bool false])else
  gC QO (fun p=>PushOk p.1 p.2) Nu [.agg (Ag y),.agg (Ai e)] fun x=>some (oRE x):=by kernel_rfl
def C0(p:RE):Rep × Bool:=bif Co p.1 then pushP p.1 p.2 else(p.1,false)
def abk(p:RE):AV:=.tup [.agg (Ag (C0 p).1),.bool (C0 p).2]
def aS(p:RE):Prop:=Cw p.1/\PushOk p.1 p.2
theorem abl(p:RE)(h:aS p):Aa PG Ip (Nu p) [] (abk p) []:=by
 obtain⟨r,e⟩:=p
 have k:=afg r e
 have q3:∀ {K:RE->Option AV},gC QO (fun p=>PushOk p.1 p.2) Nu [.agg (Ag r),.agg (Ai e)] K=K (r,e):=fun {K}=>qRE h.2
 rw[R7 (P:=Cw) h.1,R7 (P:=EK) trivial,q3]at k
 refine BQ (ak Vq (ak Ir (ak kPush_ok AL))) (k.trans ?_)
 unfold abk C0
 dsimp only
 cases Co r <;> rfl
def vI:Known:=.spec Ip QO aS Nu abk
theorem vJ:vI.Ok PG:=Known.spec_ok abl
def VF(c:CallF):Known:=.specG C4 (fun a h=>(Hf h,AN BI (a.getD 1 .nils))) (fun p=>p.2.length<=100000/\Fp c p.1 p.2) (fun p=>([.ptr 0 0 0,AG p.2],Bl p.1)) (fun p=>(.tup [],BG (GY c p.1 p.2)))
theorem UE{c:CallF}(h:c.Ok):(VF c).Ok PG:=Known.specG_ok fun p hp=>uX c h p.1 p.2 hp.1 hp.2
def eFr(l:List Known):Env:=BU [(B6,0,[0,8,116,117,118])] [(CZ,5),(BR,5),(Di,5),(Dk,5),(C4,5),(Cv,5),(B6,5),(Io,0),(Hr,0),(IK,0),(IJ,0),(Ip,0),(C1,0),(Iq,0)] [] l
def abm(c:CallF):List Known:=[ZD,Vu,uZ,adr,acy,ZF,vI,Uc,mS,Z8,acR,nB,VF c]
def aib(w:Wrk)(nO:Nat)(FO:Nat->List AV):Heap:=[.arr true 44 [HQ w (.sn 4 1 w.d.waits.length) (.sn 3 2 w.d.asks.length) (.sn 31 3 nO)],.seq true 4 w.d.waits.length (D5 w.d.waits),.seq true 3 w.d.asks.length (B5 w.d.asks),.seq true 31 nO FO]
def eR(e:RsA):Entry:=E2 e.o e.v e.s e.n e.x e.room
def Fc(w:Wrk)(r:Rep):Wrk:={w with d:={w.d with rep:=r}}
def Rl(w:Wrk)(l:List Md.Ask):Wrk:={w with d:={w.d with asks:=l}}
def LFr(c:CallF)(w:Wrk)(e:Entry)(N m:Nat)(i:Int):Option (AV × Heap):=LP (eFr (abm c)) N 4 B6 (Cr 1 4) 0 [] m {fr:=[(0,.ptr 0 0 0),(8,.ptr 7 0 0),(116,.sn 3 5 w.d.asks.length),(117,.int .i64 w.d.asks.length),(118,.int .i64 i)],hp:=[.arr true 44 [HQ w (.sn 4 4 w.d.waits.length) (.sn 3 5 w.d.asks.length) (.sn 31 6 w.out.length)],.dead,.dead,.dead,.seq true 4 w.d.waits.length (D5 w.d.waits),.seq true 3 w.d.asks.length (B5 w.d.asks),.seq true 31 w.out.length (BX w.out),.arr true 11 [Ai e]]}
theorem vK(c:CallF)(w:Wrk)(e:Entry)(N m:Nat)(i:Int):LFr c w e N (m+1) i =
 bif decide (i<(w.d.asks.length:Int))then rg i w.d.asks.length (bif i.toNat.blt w.d.asks.length then bif Ah (w.d.asks.getD i.toNat default).key e.key then
   BF iK (fun p=>p.2<p.1.length/\p.1.length<=100000) aM [.sn 3 0 w.d.asks.length,.int .i64 i,.int .i64 (IntKind.i64.wrap (i+1))] [.seq true 3 w.d.asks.length (B5 w.d.asks)] fun y=>
   BF (fun a h=>(Hf h,AN BI (a.getD 1 .nils))) (fun p=>p.2.length<=100000/\Fp c p.1 p.2) (fun p=>([.ptr 0 0 0,AG p.2],Bl p.1)) [.ptr 0 0 0,AG (w.d.asks.getD i.toNat default).calls] (Bl (Rl w (y.1.eraseIdx y.2))) fun z=>some (.tup [],BG (GY c z.1 z.2))
  else LFr c w e N m (IntKind.i64.wrap (i+1))else none)
 else some (.tup [],BG w):=by kernel_rfl
def adu(c:CallF)(N:Nat)(e:Entry)(q:Wrk):Option (AV × Heap):=gC MR GR KQ [Al q.d.clean,.str e.key] fun o=>LFr c (Hh q (Cd o.1 o.2)) e N N 0
def nI(c:CallF)(N:Nat)(e:Entry)(w:Wrk)(r:Rep):Option (AV × Heap):=gC CO Gc CP [.agg (Ag r)] fun g=>
 bif w.out.length.ble w.out.length then bif((w.out.length+(AD g).length)*392).ble 140737488355328&&(w.out.length+(AD g).length).ble 140737488355328 then
  bif !e.write then some (.tup [],Kn w w.d.waits.length (D5 w.d.waits) w.d.asks.length (B5 w.d.asks) (w.out.length+(AD g).length) (Be w.out.length (BX w.out) (.fn (AD g).length (BX (AD g)))))
  else BF (fun _ h=>Hf h) (fun w=>Ke w.d.rep.tail.log) (fun w=>([.ptr 0 0 0],Bl w)) [.ptr 0 0 0] (aib w (w.out.length+(AD g).length) (Be w.out.length (BX w.out) (.fn (AD g).length (BX (AD g))))) fun q=>adu c N e (C9 q)
 else none else none
def So(c:CallF)(N:Nat)(w0 w:Wrk)(m:Msg)(x:Itm):Option (AV × Heap):=
 gC dVI pVI eVI [eV w0.d.rep.tail.last,.int .i64 w0.d.rep.view.epoch] fun v=>gC dRs (fun _=>True) eRs [.agg (JZ m.op),eV (vr v.2 (nu v.1+1)),.int .i64 m.sess,.int .i64 m.num,.agg (Af x),.bool (!w0.d.busy)] fun e=>
 gC QO aS Nu [.agg (Ag w0.d.rep),.agg (Ai (eR e))] fun p=>bif !(C0 p).2 then some (.tup [],BG w)else
 BF Z9 (fun p=>p.1.d.waits.length<=100000) Vz [.ptr 0 0 0,eV (eR e).ver,.agg (Ac m)] (Bl (Fc w (C0 p).1)) fun q=>nI c N (eR e) (Fa q.1 q.2.1 q.2.2) (C0 p).1
def XX(c:CallF)(N:Nat)(w0:Wrk)(m:Msg):Option (AV × Heap):=
 BF dWK (fun p=>M1 p.1) uY [.ptr 0 0 0,.str m.op.key] (Bl w0) fun z=>bif !(A4 z.1 z.2).2.1 then BF Gj (fun p=>Sn p.1 p.2) FN [.ptr 0 0 0,.agg (Ac m)] (Bl (A4 z.1 z.2).2.2) fun q=>some (.tup [],BG (Rg q.1 q.2))else So c N w0 (A4 z.1 z.2).2.2 m (A4 z.1 z.2).1
theorem akG(c:CallF)(N:Nat)(w:Wrk)(m:Msg):BA 1 (eFr (abm c)) (N+1) B6 [.ptr 0 0 0,.agg (Ac m)] (Bl w) =
 gC (fun a=>Ar a 0) (fun _=>True) (fun k=>[.int .i64 k]) [.int .i64 m.op.kind] fun y=>bif MS y then
  bif !w.d.busy then XX c N w m else gC (fun a=>Ar a 0) (fun _=>True) (fun k=>[.int .i64 k]) [.int .i64 m.op.kind] fun y=>bif !GU y then XX c N w m else So c N w w m default
 else So c N w w m default:=by kernel_rfl
theorem afh{c:CallF}(h:c.Ok):∀ k ∈ abm c,k.Ok PG:=ak WW (ak Un (ak vA (ak abf (ak zI (ak dC (ak vJ (ak QN (ak aA (ak Xg (ak aaq (ak aN (ak (UE h) AL))))))))))))
def Tu(k:Txt)(a:Md.Ask):Bool:=Ah a.key k
def Iy(w:Wrk)(k:Txt):Nat:=w.d.asks.findIdx (Tu k)
def N4(c:CallF)(w:Wrk)(k:Txt):Wrk:=
 bif(Iy w k).blt w.d.asks.length then GY c (Rl w (w.d.asks.eraseIdx (Iy w k))) (w.d.asks.getD (Iy w k) default).calls else w
def Sp(c:CallF)(w:Wrk)(k:Txt):Prop:=w.d.asks.length<=100000 /\
 (Iy w k<w.d.asks.length->(w.d.asks.getD (Iy w k) default).calls.length<=100000/\Fp c (Rl w (w.d.asks.eraseIdx (Iy w k))) (w.d.asks.getD (Iy w k) default).calls)
def Fq(w:Wrk):Wrk:=Vy w (AD w.d.rep)
def PH(w:Wrk)(k:Txt):Wrk:=Hh (C9 (Fq w)) (Cd (C9 (Fq w)).d.clean k)
def UF(c:CallF)(w:Wrk)(e:Entry):Wrk:=bif !e.write then Fq w else N4 c (PH w e.key) e.key
structure vL(c:CallF)(w:Wrk)(e:Entry):Prop where
 ag:Gc w.d.rep
 out:w.out.length<=1000000
 outs:(AD w.d.rep).length<=100000
 es:e.write=true->Ke w.d.rep.tail.log
 cl:e.write=true->w.d.clean.length<=100000
 fin:e.write=true->Sp c (PH w e.key) e.key
def N5(w:Wrk):Ver:=vr w.d.rep.view.epoch.toNat (nu w.d.rep.tail.last+1)
def Ek(w:Wrk)(m:Msg)(x:Itm):Entry:=E2 m.op (N5 w) m.sess m.num x (!w.d.busy)
def Lk(c:CallF)(w:Wrk)(m:Msg)(x:Itm):Wrk:=
 bif !(C0 (w.d.rep,Ek w m x)).2 then w else UF c (Fa (Fc w (C0 (w.d.rep,Ek w m x)).1) (Ek w m x).ver m) (Ek w m x)
structure OI(c:CallF)(w:Wrk)(m:Msg)(x:Itm):Prop where
 ep:0<=w.d.rep.view.epoch
 last:Au w.d.rep.tail.last
 pre:aS (w.d.rep,Ek w m x)
 waits:w.d.waits.length<=100000
 done:(C0 (w.d.rep,Ek w m x)).2=true->vL c (Fa (Fc w (C0 (w.d.rep,Ek w m x)).1) (Ek w m x).ver m) (Ek w m x)
def CV(w:Wrk)(m:Msg):Bool:=MS m.op.kind&&(!w.d.busy || !GU m.op.kind)
def FB(c:CallF)(w:Wrk)(m:Msg):Wrk:=
 bif CV w m then bif !(A4 w m.op.key).2.1 then Rg (A4 w m.op.key).2.2 m else Lk c (A4 w m.op.key).2.2 m (A4 w m.op.key).1
 else Lk c w m default
structure FrOk(c:CallF)(w:Wrk)(m:Msg):Prop where
 fi:CV w m=true->M1 w
 ask:CV w m=true->(A4 w m.op.key).2.1=false->Sn (A4 w m.op.key).2.2 m
 got:CV w m=true->(A4 w m.op.key).2.1=true->OI c (A4 w m.op.key).2.2 m (A4 w m.op.key).1
 new:CV w m=false->OI c w m default
theorem Xn(w:Wrk)(k:Txt):(A4 w k).2.2.d.rep=w.d.rep/\(A4 w k).2.2.d.busy=w.d.busy:=by
 unfold A4
 cases (Dt w.d.rep.tail k).2 with
 | true=>exact⟨rfl,rfl⟩
 | false=>
  rw[cond_false]
  cases w.isRead&&Ah w.just.key k with
  | true=>exact⟨rfl,rfl⟩
  | false=>exact⟨rfl,rfl⟩
theorem afi(c:CallF)(w:Wrk)(e:Entry)(h:Sp c w e.key)(N:Nat):∀ (d i m:Nat),i+d=w.d.asks.length->d<m->(∀ j,j<i->Tu e.key (w.d.asks.getD j default)=false)->LFr c w e N m (i:Nat)=some (.tup [],BG (N4 c w e.key)):=by
 intro d
 induction d with
 | zero=>
  intro i m hi hm hno
  obtain⟨m,rfl⟩:∃ k,m=k+1:=⟨m - 1,by omega⟩
  have hix:Iy w e.key=w.d.asks.length:=by
   unfold Iy
   refine List.findIdx_eq_length.2 fun x hx=>?_
   obtain⟨j,hj,rfl⟩:=List.getElem_of_mem hx
   have:=hno j (by omega)
   rw[show w.d.asks.getD j default=w.d.asks[j] by simp[List.getD,hj]]at this
   exact this
  rw[vK,decide_eq_false (by omega),cond_false]
  unfold N4
  rw[hix,CI (Nat.le_refl _),cond_false]
 | succ d ih=>
  intro i m hi hm hno
  obtain⟨m,rfl⟩:∃ k,m=k+1:=⟨m - 1,by omega⟩
  have hil:i<w.d.asks.length:=by omega
  have hl:=h.1
  have hw:IntKind.i64.wrap ((i:Int)+1)=((i+1:Nat):Int):=Bz (by omega)
  have hg:w.d.asks.getD i default=w.d.asks[i]:=by simp[List.getD,hil]
  rw[vK,decide_eq_true (show((i:Nat):Int)<(w.d.asks.length:Int) by omega),cond_true,Bq hil,Int.toNat_natCast,AB hil,cond_true,hw]
  cases hs:Ah (w.d.asks.getD i default).key e.key with
  | true=>
   have hix:Iy w e.key=i:=by
    unfold Iy
    refine(List.findIdx_eq hil).2 ⟨by rw[<- hg];exact hs,fun j hj=>?_⟩
    have:=hno j hj
    rw[show w.d.asks.getD j default=w.d.asks[j] by simp[List.getD,show j<w.d.asks.length by omega]]at this
    exact this
   have h2:=h.2
   rw[hix]at h2
   obtain⟨ha,hb⟩:=h2 hil
   have q1:∀ {K:LI->Option (AV × Heap)},BF iK (fun p=>p.2<p.1.length/\p.1.length<=100000) aM [.sn 3 0 w.d.asks.length,.int .i64 (i:Int),.int .i64 ((i+1:Nat):Int)] [.seq true 3 w.d.asks.length (B5 w.d.asks)] K=K (w.d.asks,i):=fun {K}=>
    BT (w.d.asks,i) (uV (w.d.asks,i)) ⟨hil,hl⟩ (.refl _) (.refl _)
   have q2:∀ {W:Wrk} {l:List Msg} {K:Wrk × List Msg->Option (AV × Heap)},l.length<=100000->Fp c W l->BF (fun a h=>(Hf h,AN BI (a.getD 1 .nils))) (fun p=>p.2.length<=100000/\Fp c p.1 p.2) (fun p=>([.ptr 0 0 0,AG p.2],Bl p.1)) [.ptr 0 0 0,AG l] (Bl W) K=K (W,l):=fun {W l K} h1 h2=>
    BT (W,l) (Prod.ext (HM W) (R1 l)) ⟨h1,h2⟩ (.refl _) (.refl _)
   rw[cond_true,q1,q2 ha hb]
   unfold N4
   rw[hix,AB hil,cond_true]
  | false=>
   rw[cond_false]
   refine ih (i+1) m (by omega) (by omega) fun j hj=>?_
   by_cases hji:j<i
   ·exact hno j hji
   ·rw[show j=i by omega];exact hs
theorem afj(c:CallF)(w:Wrk)(e:Entry)(h:vL c w e)(N:Nat)(hN:100000<N):nI c N e w w.d.rep=some (.tup [],BG (UF c w e)):=by
 have h2:=h.out
 have h3:=h.outs
 have hq:∀ {K:Rep->Option (AV × Heap)},gC CO Gc CP [.agg (Ag w.d.rep)] K=K w.d.rep:=fun {K}=>Aw w.d.rep (B8 w.d.rep) h.ag (.refl _)
 have happ:Be w.out.length (BX w.out) (.fn (AD w.d.rep).length (BX (AD w.d.rep)))=BX (w.out++AD w.d.rep):=Ps _ _ _ _
 have hpe:Kn w w.d.waits.length (D5 w.d.waits) w.d.asks.length (B5 w.d.asks) (w.out.length+(AD w.d.rep).length) (BX (w.out++AD w.d.rep))=BG (Fq w):=by
  rw[show w.out.length+(AD w.d.rep).length=(w.out++AD w.d.rep).length by simp,Q0];rfl
 have hwe:aib w (w.out.length+(AD w.d.rep).length) (BX (w.out++AD w.d.rep))=Bl (Fq w):=by
  rw[show w.out.length+(AD w.d.rep).length=(w.out++AD w.d.rep).length by simp];rfl
 unfold nI UF
 rw[hq,Aq (Nat.le_refl _),cond_true,Aq (show(w.out.length+(AD w.d.rep).length)*392<=140737488355328 by omega),Aq (show w.out.length+(AD w.d.rep).length<=140737488355328 by omega),Bool.and_true,cond_true,happ,hpe,hwe]
 cases hw:e.write with
 | false=>rfl
 | true=>
  rw[Bool.not_true,cond_false,cond_false]
  have q1:∀ {K:Wrk->Option (AV × Heap)},BF (fun _ h=>Hf h) (fun w=>Ke w.d.rep.tail.log) (fun w=>([.ptr 0 0 0],Bl w)) [.ptr 0 0 0] (Bl (Fq w)) K=K (Fq w):=fun {K}=>BT (Fq w) (HM _) (h.es hw) (.refl _) (.refl _)
  rw[q1]
  unfold adu
  have q2:∀ {K:YO->Option (AV × Heap)},gC MR GR KQ [Al (C9 (Fq w)).d.clean,.str e.key] K=K ((C9 (Fq w)).d.clean,e.key):=fun {K}=>Aw ((C9 (Fq w)).d.clean,e.key) (Sc ((C9 (Fq w)).d.clean,e.key)) (h.cl hw) (.refl _)
  rw[q2]
  exact afi c (PH w e.key) e (h.fin hw) N _ 0 N (Nat.zero_add _) (by have:=(h.fin hw).1;omega) fun j hj=>absurd hj (Nat.not_lt_zero j)
theorem iM(c:CallF)(w0 w:Wrk)(m:Msg)(x:Itm)(hr:w.d.rep=w0.d.rep)(hb:w.d.busy=w0.d.busy)(h:OI c w m x)(N:Nat)(hN:100000<N):So c N w0 w m x=some (.tup [],BG (Lk c w m x)):=by
 have hE:eR ⟨m.op,N5 w,m.sess,m.num,x,!w.d.busy⟩=Ek w m x:=rfl
 have q1:∀ {K:Ver × Nat->Option (AV × Heap)},gC dVI pVI eVI [eV w.d.rep.tail.last,.int .i64 w.d.rep.view.epoch] K=K (w.d.rep.tail.last,w.d.rep.view.epoch.toNat):=fun {K}=>by
  have:w.d.rep.view.epoch=((w.d.rep.view.epoch.toNat:Nat):Int):=by have:=h.ep;omega
  refine Aw (w.d.rep.tail.last,w.d.rep.view.epoch.toNat) rfl h.last ?_
  unfold eVI
  rw[<- this];exact .refl _
 have q2:∀ {K:RsA->Option (AV × Heap)},gC dRs (fun _=>True) eRs [.agg (JZ m.op),eV (N5 w),.int .i64 m.sess,.int .i64 m.num,.agg (Af x),.bool (!w.d.busy)] K=K (⟨m.op,N5 w,m.sess,m.num,x,!w.d.busy⟩:RsA):=fun {K}=>Aw (⟨m.op,N5 w,m.sess,m.num,x,!w.d.busy⟩:RsA) rfl trivial (.refl _)
 unfold So
 rw[<- hr,<- hb,q1]
 have:vr w.d.rep.view.epoch.toNat (nu w.d.rep.tail.last+1)=N5 w:=rfl
 rw[this,q2,hE]
 have q3:∀ {K:RE->Option (AV × Heap)},gC QO aS Nu [.agg (Ag w.d.rep),.agg (Ai (Ek w m x))] K=K (w.d.rep,Ek w m x):=fun {K}=>qRE h.pre
 rw[q3]
 unfold Lk
 cases hp:(C0 (w.d.rep,Ek w m x)).2 with
 | false=>rfl
 | true=>
  rw[Bool.not_true,cond_false,cond_false]
  have q4:∀ {K:WVM->Option (AV × Heap)},BF Z9 (fun p=>p.1.d.waits.length<=100000) Vz [.ptr 0 0 0,eV (Ek w m x).ver,.agg (Ac m)] (Bl (Fc w (C0 (w.d.rep,Ek w m x)).1)) K=K (Fc w (C0 (w.d.rep,Ek w m x)).1,(Ek w m x).ver,m):=fun {K}=>
   BT (Fc w (C0 (w.d.rep,Ek w m x)).1,(Ek w m x).ver,m) (iF (Fc w (C0 (w.d.rep,Ek w m x)).1,(Ek w m x).ver,m)) h.waits (.refl _) (.refl _)
  rw[q4]
  exact afj c _ _ (h.done hp) N hN
theorem vM(c:CallF)(hc:c.Ok)(w:Wrk)(m:Msg)(h:FrOk c w m):Aa PG B6 [.ptr 0 0 0,.agg (Ac m)] (Bl w) (.tup []) (BG (FB c w m))/\(Bl w).length<=(BG (FB c w m)).length:=by
 obtain⟨N,hN⟩:∃ N,N=200000:=⟨_,rfl⟩
 refine conC (afh hc) (c:=1) (n:=N+1) (by show 1<=4;omega) ((akG c N w m).trans ?_)
 have qk:∀ {K:Int->Option (AV × Heap)},gC (fun a=>Ar a 0) (fun _=>True) (fun k=>[.int .i64 k]) [.int .i64 m.op.kind] K=K m.op.kind:=fun {K}=>Aw m.op.kind rfl trivial (.refl _)
 rw[qk,qk]
 have hf:CV w m=true->XX c N w m=some (.tup [],BG (FB c w m)):=by
  intro ha
  unfold XX FB
  have q1:∀ {K:WK->Option (AV × Heap)},BF dWK (fun p=>M1 p.1) uY [.ptr 0 0 0,.str m.op.key] (Bl w) K=K (w,m.op.key):=fun {K}=>BT (w,m.op.key) (ah5 (w,m.op.key)) (h.fi ha) (.refl _) (.refl _)
  rw[q1,ha,cond_true]
  cases hg:(A4 w m.op.key).2.1 with
  | false=>
   have q2:∀ {K:WM->Option (AV × Heap)},BF Gj (fun p=>Sn p.1 p.2) FN [.ptr 0 0 0,.agg (Ac m)] (Bl (A4 w m.op.key).2.2) K=K ((A4 w m.op.key).2.2,m):=fun {K}=>BT ((A4 w m.op.key).2.2,m) (OD ((A4 w m.op.key).2.2,m)) (h.ask ha hg) (.refl _) (.refl _)
   rw[Bool.not_false,cond_true,cond_true,q2]
  | true=>
   rw[Bool.not_true,cond_false,cond_false]
   exact iM c w _ m _ (Xn w _).1 (Xn w _).2 (h.got ha hg) N (by omega)
 have hn:CV w m=false->So c N w w m default=some (.tup [],BG (FB c w m)):=by
  intro ha
  unfold FB
  rw[ha,cond_false]
  exact iM c w w m _ rfl rfl (h.new ha) N (by omega)
 cases h1:MS m.op.kind with
 | false=>rw[cond_false];exact hn (by unfold CV;rw[h1];rfl)
 | true=>
  rw[cond_true]
  cases h2:w.d.busy with
  | false=>rw[Bool.not_false,cond_true];exact hf (by unfold CV;rw[h1,h2];rfl)
  | true=>
   rw[Bool.not_true,cond_false]
   cases h3:GU m.op.kind with
   | false=>rw[Bool.not_false,cond_true];exact hf (by unfold CV;rw[h1,h2,h3];rfl)
   | true=>rw[Bool.not_true,cond_false];exact hn (by unfold CV;rw[h1,h2,h3];rfl)
def vO(c:CallF):Known:=.specG B6 Gj (fun p=>FrOk c p.1 p.2) FN (fun p=>(.tup [],BG (FB c p.1 p.2)))
theorem vP{c:CallF}(h:c.Ok):(vO c).Ok PG:=Known.specG_ok fun p hp=>vM c h p.1 p.2 hp
def eVl(l:List Known):Env:=BU [(Du,0,[0,3,14,15,16])] [(Du,5),(DM,5),(Cv,5),(F9,0),(C4,5)] [] l
def abn(c:CallF):List Known:=[XV,nB,aau,VF c]
def I8(m:Msg):Itm:=⟨m.key,m.val,m.has,m.ver⟩
def XY(w:Wrk)(m:Msg):Wrk:={w with just:=I8 m,isRead:=true}
def iN(c:CallF)(w:Wrk)(m:Msg)(N k:Nat)(i:Int):Option (AV × Heap):=LP (eVl (abn c)) N 4 Du (Cr 1 4) 0 [] k {fr:=[(0,.ptr 0 0 0),(3,.ptr 4 0 0),(14,.sn 3 2 w.d.asks.length),(15,.int .i64 w.d.asks.length),(16,.int .i64 i)],hp:=Bl w++[.arr true 31 [Ac m]]}
theorem akH(c:CallF)(N:Nat)(w:Wrk)(m:Msg):BA 1 (eVl (abn c)) (N+1) Du [.ptr 0 0 0,.agg (Ac m)] (Bl w) =
 BF Gj (fun _=>True) FN [.ptr 0 0 0,.agg (Ac m)] (Bl w) fun q=>bif !Gi q.1 q.2 then some (.tup [],BG q.1)else iN c q.1 m N N 0:=by kernel_rfl
theorem adv(c:CallF)(w:Wrk)(m:Msg)(N k:Nat)(i:Int):iN c w m N (k+1) i =
 bif decide (i<(w.d.asks.length:Int))then rg i w.d.asks.length (bif i.toNat.blt w.d.asks.length then bif !decide ((w.d.asks.getD i.toNat default).num=m.num)then iN c w m N k (IntKind.i64.wrap (i+1))else
   bif !Ah (w.d.asks.getD i.toNat default).key m.key then iN c w m N k (IntKind.i64.wrap (i+1))else
   BF iK (fun p=>p.2<p.1.length/\p.1.length<=100000) aM [.sn 3 0 w.d.asks.length,.int .i64 i,.int .i64 (IntKind.i64.wrap (i+1))] [.seq true 3 w.d.asks.length (B5 w.d.asks)] fun y=>
   gC (fun a=>(AN Bd (a.getD 0 .nils),Bd (AA a 1),Ar a 2)) LJ QT [Al w.d.clean,.agg (Af (I8 m)),.int .i64 w.c.room] fun p=>
   BF (fun a h=>(Hf h,AN BI (a.getD 1 .nils))) (fun p=>p.2.length<=100000/\Fp c p.1 p.2) (fun p=>([.ptr 0 0 0,AG p.2],Bl p.1)) [.ptr 0 0 0,AG (w.d.asks.getD i.toNat default).calls] (Bl (Hh (XY (Rl w (y.1.eraseIdx y.2)) m) (putP p))) fun z=>some (.tup [],BG (GY c z.1 z.2))
  else none)
 else some (.tup [],BG w):=by kernel_rfl
def eCl(l:List Known):Env:=BU [] [(Ci,5),(Cz,5),(Di,5),(B6,5),(Il,0),(Ea,0),(Fm,0),(Lr,0),(EJ,0),(EC,0)] [] l
def aic(c:CallF):List Known:=[iE,mS,vO c,ZE,Up,mD,Vo,Fz,Vp]
def nJ(w:Wrk)(m:Msg)(k:Int):Option (AV × Heap):=BF aa2 (fun p=>p.1.out.length<=1000000) mQ [.ptr 0 0 0,.agg (Ac m),.int .i64 k] (Bl w) fun p=>some (.tup [],BG (FY p.1 p.2.1 p.2.2))
def gWt(w:Wrk)(v:Ver)(m:Msg):Option (AV × Heap):=BF Z9 (fun p=>p.1.d.waits.length<=100000) Vz [.ptr 0 0 0,eV v,.agg (Ac m)] (Bl w) fun p=>some (.tup [],BG (Fa p.1 p.2.1 p.2.2))
def gFr(c:CallF)(w:Wrk)(m:Msg):Option (AV × Heap):=BF Gj (fun p=>FrOk c p.1 p.2) FN [.ptr 0 0 0,.agg (Ac m)] (Bl w) fun p=>some (.tup [],BG (FB c p.1 p.2))
def call2(c:CallF)(w:Wrk)(m:Msg):Option (AV × Heap):=gC Np Au Nq [eV w.d.rep.tail.last] fun y=>
 bif decide (w.c.maxSeq<=(nu y:Int))then gC CO EK CP [.agg (Ag w.d.rep)] fun r=>gC DA V2 Dz [eV (Db r),eV w.d.rep.tail.last] fun v=>bif !AH v.1 v.2 then nJ w m 5 else some (.tup [],BG w)
 else gFr c w m
def adw(c:CallF)(w:Wrk)(m:Msg)(known:Bool):Option (AV × Heap):=
 bif decide (w.c.maxLog<=(w.d.rep.tail.log.length:Int))then some (.tup [],BG w)else
 bif !known then bif decide (w.c.sessions<=(w.d.rep.seen.length:Int))then some (.tup [],BG w)else call2 c w m else call2 c w m
theorem akI(c:CallF)(w:Wrk)(m:Msg):BA 1 (eCl (aic c)) 9 Ci [.ptr 0 0 0,.agg (Ac m)] (Bl w) =
 bif decide (m.gen<w.d.rep.view.gen)then nJ w m 6 else
 gC (fun a=>(R0 (AA a 0),JK (AA a 1))) (fun _=>True) gU [.agg (JZ m.op),.agg (CG w.c)] fun y=>
 bif !decide (Dp y.1 y.2=0)then nJ w m (Dp y.1 y.2)else
 gC Uo (fun p=>FM p.1) Ny [Ax w.d.rep.seen,.int .i64 m.sess] fun z=>
 gC (fun a=>(AN BZ (a.getD 0 .nils),Ar a 1,Ar a 2)) (fun p=>FM p.1) Vv [Ax w.d.rep.seen,.int .i64 m.sess,.int .i64 m.num] fun v=>
 bif decide (Kf v.1 v.2.1 v.2.2=1)then gWt w (Bt z.1 z.2).1.ver m else
 bif decide (Kf v.1 v.2.1 v.2.2=2)then some (.tup [],BG w)else adw c w m (Bt z.1 z.2).2:=by kernel_rfl
theorem afk{c:CallF}(h:c.Ok):∀ k ∈ aic c,k.Ok PG:=ak mR (ak aA (ak (vP h) (ak WX (ak Pw (ak ZH (ak Ow (ak DW (ak T8 AL))))))))
def HX(w:Wrk)(m:Msg):Bool:=decide (w.c.maxLog<=(w.d.rep.tail.log.length:Int))||(!(Bt w.d.rep.seen m.sess).2&&decide (w.c.sessions<=(w.d.rep.seen.length:Int)))
def HY(w:Wrk)(m:Msg):Int:=Kf w.d.rep.seen m.sess m.num
def Kr(w:Wrk)(m:Msg):Bool:=!decide (m.gen<w.d.rep.view.gen)&&(decide (Dp m.op w.c=0)&&(!decide (HY w m=1)&&(!decide (HY w m=2)&&(!HX w m && !decide (w.c.maxSeq<=(nu w.d.rep.tail.last:Int))))))
def Ks(c:CallF)(w:Wrk)(m:Msg):Wrk:=
 bif decide (m.gen<w.d.rep.view.gen)then FY w m 6 else
 bif !decide (Dp m.op w.c=0)then FY w m (Dp m.op w.c)else
 bif decide (HY w m=1)then Fa w (Bt w.d.rep.seen m.sess).1.ver m else
 bif decide (HY w m=2)then w else
 bif HX w m then w else
 bif decide (w.c.maxSeq<=(nu w.d.rep.tail.last:Int))then bif !AH (Db w.d.rep) w.d.rep.tail.last then FY w m 5 else w else FB c w m
structure VG(c:CallF)(w:Wrk)(m:Msg):Prop where
 out:w.out.length<=1000000
 waits:w.d.waits.length<=100000
 seen:FM w.d.rep.seen
 last:Au w.d.rep.tail.last
 com:Au (Db w.d.rep)
 fr:Kr w m=true->FrOk c w m
theorem abo(c:CallF)(hc:c.Ok)(w:Wrk)(m:Msg)(h:VG c w m):Aa PG Ci [.ptr 0 0 0,.agg (Ac m)] (Bl w) (.tup []) (BG (Ks c w m)):=by
 refine(conC (afk hc) (c:=1) (n:=9) (by show 1<=4;omega) ((akI c w m).trans ?_)).1
 have qr:∀ k,nJ w m k=some (.tup [],BG (FY w m k)):=fun k=>BT (w,m,k) (ae1 (w,m,k)) h.out (.refl _) (.refl _)
 have qw:∀ v,gWt w v m=some (.tup [],BG (Fa w v m)):=fun v=>BT (w,v,m) (iF (w,v,m)) h.waits (.refl _) (.refl _)
 have qf:FrOk c w m->gFr c w m=some (.tup [],BG (FB c w m)):=fun hf=>BT (w,m) (OD (w,m)) hf (.refl _) (.refl _)
 have qc:∀ {K:OC->Option (AV × Heap)},gC (fun a=>(R0 (AA a 0),JK (AA a 1))) (fun _=>True) gU [.agg (JZ m.op),.agg (CG w.c)] K=K (m.op,w.c):=fun {K}=>Aw (m.op,w.c) rfl trivial (.refl _)
 have qv:∀ {K:SII->Option (AV × Heap)},gC (fun a=>(AN BZ (a.getD 0 .nils),Ar a 1,Ar a 2)) (fun p=>FM p.1) Vv [Ax w.d.rep.seen,.int .i64 m.sess,.int .i64 m.num] K=K (w.d.rep.seen,m.sess,m.num):=fun {K}=>Aw (w.d.rep.seen,m.sess,m.num) (Prod.ext (EB _) rfl) h.seen (.refl _)
 have q2:(Kr w m=true\/w.c.maxSeq<=(nu w.d.rep.tail.last:Int))->call2 c w m=some (.tup [],BG (bif decide (w.c.maxSeq<=(nu w.d.rep.tail.last:Int))then bif !AH (Db w.d.rep) w.d.rep.tail.last then FY w m 5 else w else FB c w m)):=by
  intro hg
  unfold call2
  have qn:∀ {K:Ver->Option (AV × Heap)},gC Np Au Nq [eV w.d.rep.tail.last] K=K w.d.rep.tail.last:=fun {K}=>Aw _ rfl h.last (.refl _)
  have qm:∀ {K:Rep->Option (AV × Heap)},gC CO EK CP [.agg (Ag w.d.rep)] K=K w.d.rep:=fun {K}=>Aw w.d.rep (B8 w.d.rep) trivial (.refl _)
  have qa:∀ {K:Ver × Ver->Option (AV × Heap)},gC DA V2 Dz [eV (Db w.d.rep),eV w.d.rep.tail.last] K=K (Db w.d.rep,w.d.rep.tail.last):=fun {K}=>Aw (_,_) rfl ⟨h.com,h.last⟩ (.refl _)
  rw[qn,qm,qa]
  by_cases hm:w.c.maxSeq<=(nu w.d.rep.tail.last:Int)
  ·rw[decide_eq_true hm,cond_true,cond_true]
   cases hv:AH (Db w.d.rep) w.d.rep.tail.last with
   | false=>rw[Bool.not_false,cond_true,cond_true];exact qr 5
   | true=>rfl
  ·rw[decide_eq_false hm,cond_false,cond_false]
   rcases hg with hg | hg
   ·exact qf (h.fr hg)
   ·exact absurd hg hm
 rw[qc,Uq h.seen,qv]
 unfold Ks
 by_cases h1:m.gen<w.d.rep.view.gen
 ·rw[decide_eq_true h1,cond_true,cond_true];exact qr 6
 rw[decide_eq_false h1,cond_false,cond_false]
 dsimp only
 by_cases h2:Dp m.op w.c=0
 ·rw[decide_eq_true h2,Bool.not_true,cond_false,cond_false]
  have e:Kf w.d.rep.seen m.sess m.num=HY w m:=rfl
  rw[e]
  by_cases h3:HY w m=1
  ·rw[decide_eq_true h3,cond_true,cond_true];exact qw _
  rw[decide_eq_false h3,cond_false,cond_false]
  by_cases h4:HY w m=2
  ·rw[decide_eq_true h4,cond_true,cond_true]
  rw[decide_eq_false h4,cond_false,cond_false]
  have hg:HX w m=false->(Kr w m=true\/w.c.maxSeq<=(nu w.d.rep.tail.last:Int)):=by
   intro hf
   by_cases hm:w.c.maxSeq<=(nu w.d.rep.tail.last:Int)
   ·exact .inr hm
   ·left;unfold Kr;rw[decide_eq_false h1,decide_eq_true h2,decide_eq_false h3,decide_eq_false h4,hf,decide_eq_false hm];rfl
  unfold adw
  cases h5:decide (w.c.maxLog<=(w.d.rep.tail.log.length:Int))with
  | true=>
   have:HX w m=true:=by unfold HX;rw[h5];rfl
   rw[this];rfl
  | false=>
   rw[cond_false]
   cases h6:(Bt w.d.rep.seen m.sess).2 with
   | true=>
    have:HX w m=false:=by unfold HX;rw[h5,h6];rfl
    rw[this,Bool.not_true,cond_false,cond_false];exact q2 (hg this)
   | false=>
    rw[Bool.not_false,cond_true]
    cases h7:decide (w.c.sessions<=(w.d.rep.seen.length:Int))with
    | true=>
     have:HX w m=true:=by unfold HX;rw[h5,h6,h7];rfl
     rw[this];rfl
    | false=>
     have:HX w m=false:=by unfold HX;rw[h5,h6,h7];rfl
     rw[this,cond_false,cond_false];exact q2 (hg this)
 ·rw[decide_eq_false h2,Bool.not_false,cond_true,cond_true];exact qr _
def CallF.none:CallF:=⟨fun w _=>w,fun _ _=>False⟩
def CallF.next(c:CallF):CallF:=⟨Ks c,VG c⟩
theorem CallF.none_ok:CallF.none.Ok:=fun _ _ h=>h.elim
theorem CallF.Ok.next{c:CallF}(h:c.Ok):c.next.Ok:=fun w m hp=>abo c h w m hp
def Iz:CallF:=CallF.none.next
def IA:CallF:=Iz.next
theorem vQ:Iz.Ok:=CallF.none_ok.next
theorem aid:IA.Ok:=vQ.next
def eBh(l:List Known):Env:=BU [] [(Dh,5),(DM,5),(Dk,5),(Ct,5),(CR,5),(EC,0),(HF,0),(Im,0),(Dj,0),(Hq,0),(HC,0)] [] l
def aie:List Known:=[XV,Z8,uG,iI,Vp,acW,rS,acX,tR,mL]
def IS(w:Wrk)(p:Pump):Wrk:={w with d:={w.d with pump:=p}}
def vR(w:Wrk)(cv:Ver):Option (AV × Heap):=gC dSt iB tP [.agg (Bg w.d.pump),.agg (Ag w.d.rep),eV cv,.int .i64 w.c.batch] fun s=>
 bif(Cn s).2 then gC (fun a=>(De (AA a 0),Cy (AA a 1))) (fun q=>q.1.out.length<=100000) ZU [.agg (Bg (Cn s).1),.agg (Ag w.d.rep)] fun q=>
  bif w.out.length.ble w.out.length then bif((w.out.length+(A8 q).length)*392).ble 140737488355328&&(w.out.length+(A8 q).length).ble 140737488355328 then
   some (.tup [],Kn (IS w (Cn s).1) w.d.waits.length (D5 w.d.waits) w.d.asks.length (B5 w.d.asks) (w.out.length+(A8 q).length) (Be w.out.length (BX w.out) (.fn (A8 q).length (BX (A8 q)))))else none else none
 else some (.tup [],BG (IS w (Cn s).1))
def bh1(w:Wrk)(cv:Ver)(m:Msg):Option (AV × Heap):=
 bif decide (m.kind=16)then bif !decide (m.code=0)then BF Gj (fun _=>True) FN [.ptr 0 0 0,.agg (Ac m)] (Bl w) fun y=>bif Gi y.1 y.2 then some (.tup [],BG y.1)else vR y.1 cv
 else vR w cv else vR w cv
theorem akJ(w:Wrk)(m:Msg):BA 1 (eBh aie) 9 Dh [.ptr 0 0 0,.agg (Ac m)] (Bl w) =
 gC CO EK CP [.agg (Ag w.d.rep)] fun r=>gC dRi tA eRi [.agg (AJ w.d.rep.tail),eV (Db r),Al w.d.pump.done] fun p=>
 BF aC (fun p=>aF p.1 p.2) Xh [.ptr 0 0 0,eV (Py p)] (Bl w) fun q=>
 gC dRV fL rQ [.agg (Ag (Ez q.1 q.2).d.rep),eV (Py p)] fun l=>
 gC (fun a=>(De (AA a 0),El (AA a 1))) tE ePT [.agg (Bg (Ez q.1 q.2).d.pump),.agg (AJ (Jp l.1 l.2).tail)] fun t=>
 BF (fun _ h=>Hf h) (fun w=>Ke w.d.rep.tail.log) (fun w=>([.ptr 0 0 0],Bl w)) [.ptr 0 0 0] (Bl (IS (Fc (Ez q.1 q.2) (Jp l.1 l.2)) (Sg t.1 t.2.log))) fun k=>
 BF aC (fun p=>Tn p.1 p.2) Xh [.ptr 0 0 0,eV (Db r)] (Bl (C9 k)) fun a=>bh1 (KS a.1 a.2) (Db r) m:=by kernel_rfl
end Go.Hd
end
