/- Part 5 of the texts that the proof needs: the abstract machine, plain laws, contracts of the program's functions. No statement is claimed here. -/
import Derived.Test.YtjhfgaadinklhaaGreatPart4
import Derived.Test.YtjhfgaadinklhaaGreatRows
import Derived.WalkKit
import Derived.WalkSpells
import Derived.WalkLawsBesides
import Derived.Shelf.RegionOpenPlain
import Derived.Lib.AppendZerosOnto
import Derived.Shelf.Spec.SlicesInsert
set_option linter.unusedVariables false
set_option linter.unusedSimpArgs false
noncomputable section
open Go Go.AM Go.Md Go.Wk
namespace Go.Co
set_option maxRecDepth 100000
set_option maxHeartbeats 400000
theorem hpQ_eq{s:ES}{b:Bool}(hn:s.nb=true)  : hpQ .blk s b .nils []=hpEE s b:=by
 obtain⟨e,g,p,ns,nb,op,keep,fz,fe,he,l,c⟩:=s
 simp only at hn
 subst hn
 cases l <;> rfl
theorem hnK_out{s:ES}{b:Bool}(g:Int)(p:Plan)(hn:s.nb=true)  : hnK (qOf .blk s.l) (.tup []) (outE (wrE s g p) b)=some (.tup [],outE (wrE s g p) b):=by
 obtain⟨e,g0,p0,ns,nb,op,keep,fz,fe,he,l,c⟩:=s
 simp only at hn
 subst hn
 cases l <;> cases b <;> kernel_rfl
theorem actC_free(p:Plan):(actC p).all refFree=true:=rfl
theorem SubB.arr_seq1{m:Bool}{sz:Nat}{c:List AV}(hf:c.all refFree=true):SubB (.arr m sz [c]) (.seq m sz 1 (canF idC [] [c])):=.arr_seq hf rfl
theorem hpQ_sub{d:ND}{s:ES}{b:Bool}{V:AV}{x y:BS}(h:SubB x y):SubH (hpQ d s b V [x]) (hpQ d s b V [y]):=by
 unfold hpQ hpK akBlK
 cases d with
 | blk=>cases s.l with
  | nil=>exact .cons (.refl _) (.cons (.refl _) (.cons (.refl _) (.cons (.refl _) (.cons h (.refl _)))))
  | cons a t=>exact .cons (.refl _) (.cons (.refl _) (.cons (.refl _) (.cons (.refl _) (.cons (.refl _) (.cons h (.refl _))))))
 | emp n=>cases s.l with
  | nil=>exact .cons (.refl _) (.cons (.refl _) (.cons (.refl _) (.cons h (.refl _))))
  | cons a t=>exact .cons (.refl _) (.cons (.refl _) (.cons (.refl _) (.cons (.refl _) (.cons h (.refl _)))))
def agR(d:ND)(s:ES)(b:Bool):Option (AV × Heap):=bif decide (s.p.phase=1)then
   bif !s.fe then bif s.p.fresh then LAg d false 1000 s b false s.p.chain (1000+9) (.sl 31 (qOf d s.l) 0 1 1) [.seq true 31 1 fun k=>[feC s.p.epoch].getD k (feC s.p.epoch)] 0 else LAg d false 1000 s b false s.keep (1000+9) (.sl 31 (qOf d s.l) 0 1 1) [.seq true 31 1 fun k=>[feC s.p.epoch].getD k (feC s.p.epoch)] 0
   else bif s.p.fresh then LAg d false 1000 s b true s.p.chain (1000+9) .nils [] 0 else LAg d false 1000 s b true s.keep (1000+9) .nils [] 0
  else bif decide (s.p.phase=3)then
   bif !s.he then bif decide ((s.p.chain.length:Int)=0)then some (.tup [],hpQ d s b .nils [])else bif decide (0<(s.p.chain.length:Int))then
    gMs s.p.chain fun ch=>some (.tup [],hpQ d s b (.sl 31 (qOf d s.l) 0 1 1) [.arr true 31 [actM s.p ch]])else none
   else some (.tup [],hpQ d s b .nils [])
  else some (.tup [],hpQ d s b .nils [])
theorem agR_ok{d:ND}{s:ES}{b:Bool}(h:EOk s):∃ H,agR d s b=some (.tup [],H)/\SubH H (hpQ d s b (gSl 31 (qOf d s.l) (agC s)) (gBl 31 idC [] (agC s))):=by
 have hc:=h.ch
 have hk:=h.keep
 have hf:=h.fz
 unfold agR agC
 cases hp:decide (s.p.phase=1)with
 | true=>
  rw[cond_true,cond_true]
  cases hfr:s.p.fresh with
  | true=>
   have r:=ag_loop (d:=d) (N:=1000) (b:=b) (l:=s.p.chain) hf hc hc
   rw[cond_true,cond_true,cond_true]
   exact⟨_,r,.refl _⟩
  | false=>
   have r:=ag_loop (d:=d) (N:=1000) (b:=b) (l:=s.keep) hf (by omega) (by omega)
   rw[cond_false,cond_false,cond_false]
   exact⟨_,r,.refl _⟩
 | false=>
  rw[cond_false,cond_false]
  cases hp3:decide (s.p.phase=3)with
  | false=>exact⟨_,rfl,.refl _⟩
  | true=>
   cases hh:s.he with
   | true=>exact⟨_,rfl,.refl _⟩
   | false=>
    rw[Bool.not_false,cond_true,cond_true,Bool.and_true,cond_true]
    by_cases h0:0<s.p.chain.length
    ·rw[decide_eq_false (by omega),cond_false,decide_eq_true (by omega),cond_true,gMs_eq _ (by unfold shortL LB;omega),decide_eq_true h0,cond_true]
     exact⟨_,rfl,hpQ_sub (.arr_seq1 (actC_free s.p))⟩
    ·rw[decide_eq_true (by omega),cond_true,decide_eq_false h0,cond_false]
     exact⟨_,rfl,.refl _⟩
theorem gMF_eq{R:Type}{n:Bool}{s:ES}{b:Bool}{K:Option R}(h:EOk s)(hns:s.ns=[])  (hm:mayE s=false):gMF n s b K=K:=by
 have h1:=dsk_sub (d:=.emp n) (s:=s) (.inr hns) (akAV_sub s.l b)
 have h2:=dsk_dec (d:=.emp n) (s:=s) (.inr hns) (akAV_dec s.l b)
 have e:gMayF (.emp n) s b K=K:=by
  have hd:dMy [.tp (dsk s.e s.g (.trl 8 [encPlan s.p]) (nV (.emp n) s.ns) (.trl 4 [wkA s]) (opV s.op) (akAV s.l b) s.c .nils) 0,.int .i64 0]=dsE s (s.l.map askM):=by
   have e1:decBureau (dsk s.e s.g (.trl 8 [encPlan s.p]) (nV (.emp n) s.ns) (.trl 4 [wkA s]) (opV s.op) (akAV s.l b) s.c .nils)=(dsE s (s.l.map askM)).dx.b:=congrArg DX.b h2
   show dDS (dsk s.e s.g (.trl 8 [encPlan s.p]) (nV (.emp n) s.ns) (.trl 4 [wkA s]) (opV s.op) (akAV s.l b) s.c .nils)=_
   unfold dDS
   dsimp only
   rw[e1];rfl
  unfold gMayF
  refine gX_of ⟨⟨?_,?_⟩,?_⟩
  ·rw[hd];exact h.ds _
  ·rw[hd];exact .cons (SubV.tp h1) (.refl _)
  ·rw[hd];exact hm
 unfold gMF
 cases s.l with
 | nil=>exact e
 | cons a t=>simp only[orU,Bool.and_true,cond_true];exact e
theorem agn_run{d:ND}{s:ES}{b:Bool}(h:TOk d s):∃ N H,callH (env41 (qOf d s.l) (kn41 d (mayE s))) (N+10) F_coord_desk_again A0 (hpQ d s b .nils [])=some (.tup [],H)/\SubH H (hpAg d s b):=by
 refine⟨1000,?_⟩
 obtain⟨H,r1,r2⟩:=agR_ok (d:=d) (b:=b) h.eok
 unfold hpAg
 cases d with
 | emp n=>
  have hm:=h.no (fun e=>by cases e)
  have hns:s.ns=[]:=by
   rcases h.nd with e | e
   ·cases e
   ·exact e
  have e:=ag_f (.emp n) 1000 s b
  have e1:∀ K:Option (AV × Heap),gEnF (.emp n) s b K=K:=fun K=>gMF_eq h.eok hns hm
  rw[e1]at e
  rw[hm,cond_false]
  exact⟨H,e.trans r1,r2⟩
 | blk=>
  have hq:=hpQ_eq (b:=b) h.nb
  have e1:∀ K:Option (AV × Heap),gEb (mayE s) A0 (hpEE s b) K=K:=fun K=>gEb_eq (x:=⟨s,b⟩) h.eok rfl
  cases hm:mayE s with
  | true=>
   rw[hm]at e1
   have e:=ag_t 1000 s b
   rw[hq,e1]at e
   have e2:endH true (hpEE s b)=outE (wrE s (endP s).1 (endP s).2) b:=endH_eq s b true
   rw[e2,hnK_out _ _ h.nb]at e
   rw[hq,cond_true]
   exact⟨_,e,.refl _⟩
  | false=>
   rw[hm]at e1
   have e:=ag_f .blk 1000 s b
   have e3:∀ K:Option (AV × Heap),gEnF .blk s b K=K:=fun K=>by
    show gEb false A0 (hpQ .blk s b .nils []) K=K
    rw[hq];exact e1 K
   rw[e3]at e
   rw[cond_false]
   exact⟨H,e.trans r1,r2⟩
theorem agn_con{d:ND}{s:ES}{b:Bool}(h:TOk d s):Contract PG F_coord_desk_again A0 (hpQ d s b .nils []) (.tup []) (hpAg d s b)/\(hpQ d s b .nils []).length<=(hpAg d s b).length:=by
 obtain⟨N,H,h1,h2⟩:=agn_run (b:=b) h
 have:=con41H (kn41_ok _ _) h1
 refine⟨Contract.outH this.1 h2,?_⟩
 rw[<- h2.1];exact this.2
def ndOf(h:Heap):ND:=match (cell0 h 0).getD 3 .undef with
 | .sl .. => .blk
 | v=>.emp (isTrl v)
theorem ndOf_eq(d:ND)(t:Bool)(s:ES)(b:Bool)(hd:d=.blk\/s.ns=[]):ndOf (hpT9 d t s b)=d:=by
 cases d with
 | blk=>rfl
 | emp n=>cases n <;> rfl
theorem dT9_eq{d:ND}{t:Bool}{s:ES}{b:Bool}(hnb:s.nb=d.isB)(hd:d=.blk\/s.ns=[])  : dEn A0 (hpT9 d t s b)=nrm ⟨s,b⟩:=by
 obtain⟨e,g,p,ns,nb,op,keep,fz,fe,he,l,c⟩:=s
 simp only at hnb hd
 subst hnb
 have hA:(List.range l.length).map (fun i=>decAsk (encAsk (l.getD i (0,0))))=l:=decL_encL (e:=encAsk) (d:=decAsk) (z:=(0,0)) (sz:=31) (fun _=>rfl) l
 have hN:(List.range ns.length).map (fun i=>decAlive (encAlive (ns.getD i default)))=ns:=decL_encL (e:=encAlive) (d:=decAlive) (z:=default) (sz:=3) dec_encAlive ns
 have hF:dLN decMsg (fzV fz)=fz:=dLN_eq dec_encMsg fz
 have hK:decL decMember (encMembers keep)=keep:=decMembers keep
 have hP:=dec_encPlan p
 cases d with
 | blk=>
  cases l with
  | nil=>
   cases b
   ·show EB.mk ⟨e,g,decPlan (encPlan p),(List.range ns.length).map (fun i=>decAlive (encAlive (ns.getD i default))),true,dOp (opV op),decL decMember (encMembers keep),dLN decMsg (fzV fz),fe,he,[],⟨c.chain,c.susp,c.sess⟩⟩ false=_
    rw[hP,hN,dOp_eq,hK,hF];rfl
   ·show EB.mk ⟨e,g,decPlan (encPlan p),(List.range ns.length).map (fun i=>decAlive (encAlive (ns.getD i default))),true,dOp (opV op),decL decMember (encMembers keep),dLN decMsg (fzV fz),fe,he,[],⟨c.chain,c.susp,c.sess⟩⟩ true=_
    rw[hP,hN,dOp_eq,hK,hF];rfl
  | cons a t=>
   show EB.mk ⟨e,g,decPlan (encPlan p),(List.range ns.length).map (fun i=>decAlive (encAlive (ns.getD i default))),true,dOp (opV op),decL decMember (encMembers keep),dLN decMsg (fzV fz),fe,he,(List.range (a::t).length).map (fun i=>decAsk (encAsk ((a::t).getD i (0,0)))),⟨c.chain,c.susp,c.sess⟩⟩ false=_
   rw[hP,hN,dOp_eq,hK,hF,hA];rfl
 | emp n=>
  have hns:ns=[]:=by
   rcases hd with h | h
   ·cases h
   ·exact h
  subst hns
  cases l with
  | nil=>
   cases b <;> cases n
   ·show EB.mk ⟨e,g,decPlan (encPlan p),[],false,dOp (opV op),decL decMember (encMembers keep),dLN decMsg (fzV fz),fe,he,[],⟨c.chain,c.susp,c.sess⟩⟩ false=_
    rw[hP,dOp_eq,hK,hF];rfl
   ·show EB.mk ⟨e,g,decPlan (encPlan p),[],false,dOp (opV op),decL decMember (encMembers keep),dLN decMsg (fzV fz),fe,he,[],⟨c.chain,c.susp,c.sess⟩⟩ false=_
    rw[hP,dOp_eq,hK,hF];rfl
   ·show EB.mk ⟨e,g,decPlan (encPlan p),[],false,dOp (opV op),decL decMember (encMembers keep),dLN decMsg (fzV fz),fe,he,[],⟨c.chain,c.susp,c.sess⟩⟩ true=_
    rw[hP,dOp_eq,hK,hF];rfl
   ·show EB.mk ⟨e,g,decPlan (encPlan p),[],false,dOp (opV op),decL decMember (encMembers keep),dLN decMsg (fzV fz),fe,he,[],⟨c.chain,c.susp,c.sess⟩⟩ true=_
    rw[hP,dOp_eq,hK,hF];rfl
  | cons a t=>
   cases n
   ·show EB.mk ⟨e,g,decPlan (encPlan p),[],false,dOp (opV op),decL decMember (encMembers keep),dLN decMsg (fzV fz),fe,he,(List.range (a::t).length).map (fun i=>decAsk (encAsk ((a::t).getD i (0,0)))),⟨c.chain,c.susp,c.sess⟩⟩ false=_
    rw[hP,dOp_eq,hK,hF,hA];rfl
   ·show EB.mk ⟨e,g,decPlan (encPlan p),[],false,dOp (opV op),decL decMember (encMembers keep),dLN decMsg (fzV fz),fe,he,(List.range (a::t).length).map (fun i=>decAsk (encAsk ((a::t).getD i (0,0)))),⟨c.chain,c.susp,c.sess⟩⟩ false=_
    rw[hP,dOp_eq,hK,hF,hA];rfl
theorem hpT9_nrm(d:ND)(t:Bool)(s:ES)(b:Bool):hpT9 d t (nrm ⟨s,b⟩).s (nrm ⟨s,b⟩).b=hpT9 d t s b:=by
 obtain⟨e,g,p,ns,nb,op,keep,fz,fe,he,l,c⟩:=s
 cases d <;> cases l <;> rfl
def frzB:BS->BS
 | .seq _ sz n f=>.seq false sz n f
 | x=>x
def lkH(t:Bool)(hp:Heap)(p:Plan)(keep:List Member):Heap:=
 let W:=BS.arr true 4 [[.bool false,encMembers keep,.nils,.bool false]]
 bif isSl ((cell0 hp 0).getD 3 .undef)then [hget hp 0,bif t then .arr true 8 [encPlan p]else hget hp 1,frzB (hget hp 2),bif t then W else hget hp 3]++hp.drop 4
 else [hget hp 0,bif t then .arr true 8 [encPlan p]else hget hp 1,bif t then W else hget hp 2]++hp.drop 3
def lkC(t:Bool)(s:ES):Prop:=match t with
 | false=>lookP s=s
 | true=>lookP s=wkS s (lookP s).p (lookP s).keep
theorem lkH_eq{t:Bool}{d:ND}{s:ES}{b:Bool}(h:lkC t s):lkH t (hpT9 d true s b) (lookP s).p (lookP s).keep=hpT9 d false (lookP s) b:=by
 cases t with
 | false=>
  have h:lookP s=s:=h
  rw[h]
  cases d with
  | blk=>cases hl:s.l <;> (unfold hpT9 akCellK akBlK;rw[hl];rfl)
  | emp n=>cases hl:s.l <;> (unfold hpT9 akCellK akBlK;rw[hl];cases n <;> rfl)
 | true=>
  have h:lookP s=wkS s (lookP s).p (lookP s).keep:=h
  generalize (lookP s).p=p at h ⊢
  generalize (lookP s).keep=keep at h ⊢
  rw[h]
  cases d with
  | blk=>cases hl:s.l <;> (unfold hpT9 akCellK akBlK wkS;dsimp only;rw[hl];rfl)
  | emp n=>cases hl:s.l <;> (unfold hpT9 akCellK akBlK wkS;dsimp only;rw[hl];cases n <;> rfl)
def GL(t:Bool)(args:List AV)(hp:Heap):Prop:=(TOk (ndOf hp) (dEn args hp).s/\args=A0/\hpT9 (ndOf hp) true (dEn args hp).s (dEn args hp).b=hp)/\lkC t (dEn args hp).s
def kLk(t:Bool):Known:={f:=F_coord_desk_look,ans:=fun args hp=>some {X:=Unit,g:=cd (GL t args hp),a:=(),r:=fun _=>(.tup [],lkH t hp (lookP (dEn args hp).s).p (lookP (dEn args hp).s).keep)}}
theorem kLk_ok(t:Bool):(kLk t).Ok PG:=by
 intro args hp A e hg
 cases e
 obtain⟨⟨h1,h2,h3⟩,h4⟩:=cd_iff.1 hg
 have:=look_con (b:=(dEn args hp).b) h1
 have e5:lkH t hp (lookP (dEn args hp).s).p (lookP (dEn args hp).s).keep=hpT9 (ndOf hp) false (lookP (dEn args hp).s) (dEn args hp).b:=by
  have:=lkH_eq (d:=ndOf hp) (b:=(dEn args hp).b) h4
  rw[h3]at this
  exact this
 rw[h3,<- e5,<- h2]at this
 exact this
def gLk{R:Type}(t:Bool)(H:Heap)(K:Option R):Option R:=gX (GL t A0 H) () fun _=>K
theorem gLk_eq{R:Type}{t:Bool}{d:ND}{s:ES}{b:Bool}{K:Option R}(h:TOk d s)(ht:lkC t s):gLk t (hpT9 d true s b) K=K:=by
 have e1:=dT9_eq (t:=true) (b:=b) h.nb h.nd
 have e2:(dEn A0 (hpT9 d true s b)).s=s:=congrArg EB.s e1
 have e3:(dEn A0 (hpT9 d true s b)).b=(nrm ⟨s,b⟩).b:=congrArg EB.b e1
 have e4:=ndOf_eq d true s b h.nd
 refine gX_of ⟨⟨?_,rfl,?_⟩,?_⟩
 ·rw[e2,e4];exact h
 ·rw[e2,e3,e4];exact hpT9_nrm d true s b
 ·rw[e2];exact ht
inductive AC where
 | fin
 | non
 | one
 | many
def acC(c:AC)(s:ES):Prop:=match c with
 | .fin=>mayE s=true
 | .non=>mayE s=false/\agC s=[]
 | .one=>mayE s=false/\(agC s).length=1
 | .many=>mayE s=false/\2<=(agC s).length
theorem acC_or(s:ES):∃ c,acC c s:=by
 cases hm:mayE s with
 | true=>exact⟨.fin,hm⟩
 | false=>
  match h:agC s with
  | []=>exact⟨.non,hm,h⟩
  | [a]=>exact⟨.one,hm,by rw[h];rfl⟩
  | a::b::r=>exact⟨.many,hm,by rw[h];simp⟩
def setO(hp:Heap)(V:AV)(B:BS):Heap:=match hp with
 | .arr m sz [c]::r=>.arr m sz [c.set 22 V]::(r++[B])
 | _=>[]
def agH(c:AC)(hp:Heap)(s:ES):Heap:=match c with
 | .fin=>outT hp (endP s).1 (endP s).2 s.l
 | .non=>hp
 | .one=>setO hp (.sl 31 hp.length 0 1 1) (.seq true 31 1 (canF idC [] (agC s)))
 | .many=>setO hp (.sl 31 hp.length 0 (agC s).length 0) (.seq true 31 (agC s).length (canF idC [] (agC s)))
theorem setO_eq(d:ND)(s:ES)(b:Bool)(V:AV)(B:BS):setO (hpQ d s b .nils []) V B=hpQ d s b V [B]:=by
 unfold hpQ akCellK akBlK
 cases d <;> cases s.l <;> rfl
theorem hpQ_len(d:ND)(s:ES)(b:Bool):(hpQ d s b .nils []).length=qOf d s.l:=by
 unfold hpQ akCellK akBlK qOf
 cases d <;> cases s.l <;> rfl
theorem hpQ_T9(d:ND)(s:ES)(b:Bool):hpQ d s b .nils []=hpT9 d false s b:=by
 unfold hpQ hpT9
 rw[List.append_nil]
theorem agH_eq{c:AC}{d:ND}{s:ES}{b:Bool}(h:TOk d s)(hc:acC c s):agH c (hpT9 d false s b) s=hpAg d s b:=by
 unfold hpAg
 rw[<- hpQ_T9]
 cases c with
 | fin=>
  have hm:mayE s=true:=hc
  have hd:d=.blk:=by
   cases d with
   | blk=>rfl
   | emp n=>have:=h.no (fun e=>by cases e);rw[hm]at this;cases this
  subst hd
  rw[hm,cond_true,hpQ_eq h.nb]
  have e2:endH true (hpEE s b)=outE (wrE s (endP s).1 (endP s).2) b:=endH_eq s b true
  have e:(dEn [] (eEn ⟨s,b⟩).2).s=s:=congrArg EB.s (dEn_eq ⟨s,b⟩)
  unfold endH at e2
  have e:(dEn [] (hpEE s b)).s=s:=e
  rw[e]at e2
  exact e2
 | non=>
  obtain⟨h1,h2⟩:=hc
  rw[h1,h2];rfl
 | one=>
  obtain⟨h1,h2⟩:=hc
  rw[h1,cond_false]
  unfold agH
  simp only[]
  rw[setO_eq,hpQ_len]
  match hx:agC s,h2 with
  | [a],_=>rfl
 | many=>
  obtain⟨h1,h2⟩:=hc
  rw[h1,cond_false]
  unfold agH
  simp only[]
  rw[setO_eq,hpQ_len]
  match hx:agC s,h2 with
  | a::b::r,_=>rfl
def GA(c:AC)(args:List AV)(hp:Heap):Prop:=(TOk (ndOf hp) (dEn args hp).s/\args=A0/\hpT9 (ndOf hp) false (dEn args hp).s (dEn args hp).b=hp)/\acC c (dEn args hp).s
def kAgn(c:AC):Known:={f:=F_coord_desk_again,ans:=fun args hp=>some {X:=Unit,g:=cd (GA c args hp),a:=(),r:=fun _=>(.tup [],agH c hp (dEn args hp).s)}}
theorem kAgn_ok(c:AC):(kAgn c).Ok PG:=by
 intro args hp A e hg
 cases e
 obtain⟨⟨h1,h2,h3⟩,h4⟩:=cd_iff.1 hg
 have:=agn_con (b:=(dEn args hp).b) h1
 have e5:agH c hp (dEn args hp).s=hpAg (ndOf hp) (dEn args hp).s (dEn args hp).b:=by
  have:=agH_eq (b:=(dEn args hp).b) h1 h4
  rw[h3]at this
  exact this
 rw[hpQ_T9,h3,<- e5,<- h2]at this
 exact this
def gAgn{R:Type}(c:AC)(H:Heap)(K:Option R):Option R:=gX (GA c A0 H) () fun _=>K
theorem gAgn_eq{R:Type}{c:AC}{d:ND}{s:ES}{b:Bool}{K:Option R}(h:TOk d s)(ht:acC c s):gAgn c (hpT9 d false s b) K=K:=by
 have e1:=dT9_eq (t:=false) (b:=b) h.nb h.nd
 have e2:(dEn A0 (hpT9 d false s b)).s=s:=congrArg EB.s e1
 have e3:(dEn A0 (hpT9 d false s b)).b=(nrm ⟨s,b⟩).b:=congrArg EB.b e1
 have e4:=ndOf_eq d false s b h.nd
 refine gX_of ⟨⟨?_,rfl,?_⟩,?_⟩
 ·rw[e2,e4];exact h
 ·rw[e2,e3,e4];exact hpT9_nrm d false s b
 ·rw[e2];exact ht
def mdT9(f:Nat):Option Nat:=bif nmem f [F_coord_desk_look,F_coord_desk_again]then some 5 else mdT f
def envT9(l:List Known):Env:={envL [] mdT9 l with msk:=fun f=>bif Nat.beq f F_coord_Up then [2,4,5,6]else []}
theorem envT9_ok{l:List Known}(h:∀ k ∈ l,k.Ok PG):EnvOk PG (envT9 l):=⟨tt_ok rfl,orc_ok h⟩
theorem conT9{l:List Known}(h:∀ k ∈ l,k.Ok PG){n f:Nat}{xs:List AV}{r:AV}(e:callT (envT9 l) n f xs=some r):Contract PG f xs [] r []:=callT_ok (envT9_ok h) (codeOf_ok rfl) mixed e
def kn46(l:List Msg):List Known:=[kMsgO l,kCloA,kCloneMember]
theorem kn46_ok(l:List Msg):∀ k ∈ kn46 l,k.Ok PG:=ak (kMsgO_ok l) (ak kCloA_ok (ak kCloneMember_ok ank))
def kn46e(l:List Msg):List Known:=[kMsgO l,kCloneMember]
theorem kn46e_ok(l:List Msg):∀ k ∈ kn46e l,k.Ok PG:=ak (kMsgO_ok l) (ak kCloneMember_ok ank)
theorem conT2H{l:List Known}(h:∀ k ∈ l,k.Ok PG){n f:Nat}{args:List AV}{hp:Heap}{r:AV}{hp':Heap}(e:callH (envT2 l) n f args hp=some (r,hp')):Contract PG f args hp r hp'/\hp.length<=hp'.length:=callH_ok (envT2_ok h) (codeOf_ok rfl) mixed e
def buD(d:ND)(s:ES)(b:Bool):List AV:=[.int .i64 s.e,.int .i64 s.g,.trl 8 [encPlan s.p],nV d s.ns,.trl 4 [wkA s],opV s.op,akAV s.l b]
def ND.sh:ND->Nat
 | .blk=>3
 | .emp _=>2
def gAk3{R:Type}(d:ND)(l:List Ask)(b:Bool)(K:AV->List BS->Option R):Option R:=match l with
 | []=>K (aqV b) []
 | a::t=>gC dAk pAk eAk [encAsks (a::t)] fun y=>K (.sl 31 d.sh 0 y.length 0) [blkA y]
def gBuT{R:Type}(s:ES)(b:Bool)(K:Plan->List Alive->List Member->AV->AV->List BS->Option R):Option R:=
 gMs s.p.chain fun y0=>gMs s.p.valid fun y1=>gCA s.ns fun y2=>gMs s.keep fun y3=>gFzV s.fz fun F=>gOp s.op <| gAk3 .blk s.l b fun A B=>K {s.p with chain:=y0,valid:=y1} y2 y3 F A B
theorem bur_eq(s:ES)(b:Bool)(hne:s.ns ≠ []):callH (envT2 (kn46 s.op)) 20 F_twin_Bureau [.agg (buD .blk s b)] [] =
 gBuT s b fun p ns ke F A B=>some (.agg [.int .i64 s.e,.int .i64 s.g,.sl 8 0 0 1 1,.sl 3 1 0 ns.length 0,.sl 4 2 0 1 1,opV s.op,A],.arr true 8 [encPlan p]::blkM ns :: .arr true 4 [[.bool s.fe,encMembers ke,F,.bool s.he]]::B):=by
 obtain⟨e,g,p,ns,nb,op,keep,fz,fe,he,l,cf⟩:=s
 cases ns with
 | nil=>exact absurd rfl hne
 | cons n0 nt=>cases fz <;> cases l <;> cases b <;> kernel_rfl
def gBuE{R:Type}(n:Bool)(s:ES)(b:Bool)(K:Plan->List Member->AV->AV->List BS->Option R):Option R:=
 gMs s.p.chain fun y0=>gMs s.p.valid fun y1=>gMs s.keep fun y3=>gFzV s.fz fun F=>gOp s.op <| gAk3 (.emp n) s.l b fun A B=>K {s.p with chain:=y0,valid:=y1} y3 F A B
theorem bur_eqE(n:Bool)(s:ES)(b:Bool):callH (envK2 (kn46e s.op)) 20 F_twin_Bureau [.agg (buD (.emp n) s b)] [] =
 gBuE n s b fun p ke F A B=>some (.agg [.int .i64 s.e,.int .i64 s.g,.sl 8 0 0 1 1,nA n,.sl 4 1 0 1 1,opV s.op,A],.arr true 8 [encPlan p] :: .arr true 4 [[.bool s.fe,encMembers ke,F,.bool s.he]]::B):=by
 obtain⟨e,g,p,ns,nb,op,keep,fz,fe,he,l,cf⟩:=s
 cases n <;> cases fz <;> cases l <;> cases b <;> kernel_rfl
def trl1:AV->List AV
 | .trl _ [c]=>c
 | _=>[]
def akC(q:Nat):AV->AV
 | .tr _ n _=>.sl 31 q 0 n 0
 | A=>A
def akB:AV->List BS
 | .tr _ n f=>[.seq true 31 n f]
 | _=>[]
def outBu(args:List AV):AV × Heap:=
 let c:=argC args 0
 match c.getD 3 .undef with
 | .tr _ n f=>(.agg [c.getD 0 .undef,c.getD 1 .undef,.sl 8 0 0 1 1,.sl 3 1 0 n 0,.sl 4 2 0 1 1,c.getD 5 .undef,akC 3 (c.getD 6 .undef)],.arr true 8 [trl1 (c.getD 2 .undef)] :: .seq true 3 n f :: .arr true 4 [trl1 (c.getD 4 .undef)]::akB (c.getD 6 .undef))
 | N=>(.agg [c.getD 0 .undef,c.getD 1 .undef,.sl 8 0 0 1 1,N,.sl 4 1 0 1 1,c.getD 5 .undef,akC 2 (c.getD 6 .undef)],.arr true 8 [trl1 (c.getD 2 .undef)] :: .arr true 4 [trl1 (c.getD 4 .undef)]::akB (c.getD 6 .undef))
structure BOk(d:ND)(s:ES):Prop where
 eok:EOk s
 val:s.p.valid.length<=1000
 cp:∀ f ∈ s.fz.l,CpOk f
 op:pOp s.op
 nd:(d=.blk/\s.ns ≠ [])\/(d ≠ .blk/\s.ns=[])
theorem gAk3_eq{R:Type}{d:ND}{l:List Ask}{b:Bool}{K:AV->List BS->Option R}(h:l.length<=1000):gAk3 d l b K=K (akC d.sh (akAV l b)) (akB (akAV l b)):=by
 cases l with
 | nil=>cases b <;> rfl
 | cons a t=>
  have hp:pAk (a::t):=⟨Nat.le_trans h (by omega),List.cons_ne_nil _ _⟩
  exact qAk (k:=fun y=>K (.sl 31 d.sh 0 y.length 0) [blkA y]) hp
theorem bur_con{d:ND}{s:ES}{b:Bool}(h:BOk d s):Contract PG F_twin_Bureau [.agg (buD d s b)] [] (outBu [.agg (buD d s b)]).1 (outBu [.agg (buD d s b)]).2:=by
 have h1:=h.eok.ch
 have h2:=h.val
 have h3:=h.eok.ns
 have h4:=h.eok.keep
 cases d with
 | blk=>
  have hne:s.ns ≠ []:=by
   rcases h.nd with x | x
   ·exact x.2
   ·exact absurd rfl x.1
  have e:=bur_eq s b hne
  unfold gBuT at e
  rw[gMs_eq _ (by unfold shortL LB;omega),gMs_eq _ (by unfold shortL LB;omega),gCA_eq h3 hne,gMs_eq _ (by unfold shortL LB;omega),gFzV_eq h.eok.fz h.cp,gOp_eq h.op,gAk3_eq h.eok.l]at e
  exact(conT2H (kn46_ok _) e).1
 | emp n=>
  have e:=bur_eqE n s b
  unfold gBuE at e
  rw[gMs_eq _ (by unfold shortL LB;omega),gMs_eq _ (by unfold shortL LB;omega),gMs_eq _ (by unfold shortL LB;omega),gFzV_eq h.eok.fz h.cp,gOp_eq h.op,gAk3_eq h.eok.l]at e
  cases n <;> exact(conK2H (kn46e_ok _) e).1
def GBu(args:List AV):Prop:=∃ d s b,BOk d s/\args=[.agg (buD d s b)]
def kBu:Known:={f:=F_twin_Bureau,ans:=fun args hp=>match hp with
 | []=>some {X:=Unit,g:=cd (GBu args),a:=(),r:=fun _=>outBu args}
 | _=>none}
theorem kBu_ok:kBu.Ok PG:=by
 intro args hp A e hg
 cases hp with
 | nil=>
  cases e
  obtain⟨d,s,b,h,rfl⟩:=cd_iff.1 hg
  exact⟨bur_con h,Nat.zero_le _⟩
 | cons x r=>cases e
def gBuX{R:Type}(args:List AV)(K:Option R):Option R:=gX (GBu args) () fun _=>K
theorem gBuX_eq{R:Type}{d:ND}{s:ES}{b:Bool}{K:Option R}(h:BOk d s):gBuX [.agg (buD d s b)] K=K:=gX_of ⟨d,s,b,h,rfl⟩
def kn47(t:Bool)(c:AC):List Known:=[kBu,kLk t,kAgn c]
theorem kn47_ok(t:Bool)(c:AC):∀ k ∈ kn47 t c,k.Ok PG:=ak kBu_ok (ak (kLk_ok t) (ak (kAgn_ok c) ank))
def STq(s:ES)(A:AV)(B:List BS)(n:Nat)(f:Nat->List AV)(i:Int):St:={fr:=[(4,.ptr 0 0 0),(6,.ptr 1 0 0),(19,.int .i64 n),(20,.int .i64 i)],hp:=[.arr true 7 [[.int .i64 0,.int .i64 0,.nils,.nils,.nils,.nils,.nils]],.arr true 23 [dsk s.e s.g (.sl 8 2 0 1 1) (.sl 3 3 0 n 0) (.sl 4 4 0 1 1) (opV s.op) A s.c .nils],.arr true 8 [encPlan s.p],.seq true 3 n f,.arr true 4 [wkA s]]++B}
def LTk(N:Nat)(t:Bool)(c:AC)(j:Nat)(S:St):Option AV:=LP (envT9 (kn47 t c)) (N+19) 0 F_coord_Tick snK 0 [] j S
def STc(s:ES)(b:Bool)(n:Nat)(f:Nat->List AV)(i:Int):St:=STq s (akC 5 (akAV s.l b)) (akB (akAV s.l b)) n f i
theorem tk_in(N:Nat)(t:Bool)(c:AC)(s:ES)(b:Bool):callT (envT9 (kn47 t c)) (N+20) F_coord_Tick [.agg (buD .blk s b),.agg (encCf s.c)] =
 gBuX [.agg (buD .blk s b)] (LTk N t c (N+19) (STc s b s.ns.length (fun k=>encAlive (s.ns.getD k default)) 0)):=by
 obtain⟨e,g,p,ns,nb,op,keep,fz,fe,he,l,cf⟩:=s
 cases fz <;> cases l <;> cases b <;> kernel_rfl
def hpT8(s:ES)(b:Bool)(n:Nat)(f:Nat->List AV):Heap:=.arr true 23 [dsk s.e s.g (.sl 8 1 0 1 1) (.sl 3 2 0 n 0) (.sl 4 3 0 1 1) (opV s.op) (akCellK .blk s.l b) s.c .nils] :: .arr true 8 [encPlan s.p] :: .seq true 3 n f :: .arr true 4 [wkA s]::akBlK s.l
def tkE(t:Bool)(c:AC)(H:Heap):Option AV:=
 gLk t H (gAgn c (lkH t H (lookP (dEn A0 H).s).p (lookP (dEn A0 H).s).keep) (fin (agH c (lkH t H (lookP (dEn A0 H).s).p (lookP (dEn A0 H).s).keep) (dEn A0 (lkH t H (lookP (dEn A0 H).s).p (lookP (dEn A0 H).s).keep)).s)))
def incF(g:Nat->Alive)(i:Nat):Nat->List AV:=fun k=>bif k.beq i then [.int .i64 (g i).member.node,.int .i64 (g i).member.boot,.int .i64 (IntKind.i64.wrap ((g i).missed+1))]else encAlive (g k)
theorem tk_st(N:Nat)(t:Bool)(c:AC)(j:Nat)(s:ES)(b:Bool)(n:Nat)(g:Nat->Alive)(i:Int):LTk N t c (j+1) (STc s b n (fun k=>encAlive (g k)) i) =
 bif decide (i<(n:Int))then rg i n <| bif(0+i.toNat).blt n then rg i n <| bif(0+i.toNat).blt n&&true then LTk N t c j (STc s b n (incF g (0+i.toNat)) (IntKind.i64.wrap (i+1)))else none else none
 else tkE t c (hpT8 s b n fun k=>encAlive (g k)):=by
 obtain⟨e,g,p,ns,nb,op,keep,fz,fe,he,l,cf⟩:=s
 cases t <;> cases c <;> cases fz <;> cases l <;> cases b <;> kernel_rfl
theorem tk_e(t:Bool)(c:AC)(n:Bool)(s:ES)(b:Bool):callT (envT9 (kn47 t c)) 20 F_coord_Tick [.agg (buD (.emp n) s b),.agg (encCf s.c)] =
 gBuX [.agg (buD (.emp n) s b)] (tkE t c (hpT9 (.emp n) true s b)):=by
 obtain⟨e,g,p,ns,nb,op,keep,fz,fe,he,l,cf⟩:=s
 cases t <;> cases c <;> cases n <;> cases fz <;> cases l <;> cases b <;> kernel_rfl
def incA(a:Alive):Alive:={a with missed:=IntKind.i64.wrap (a.missed+1)}
def incS(s:ES):ES:={s with ns:=s.ns.map incA}
def frzMg(m:Member)(ep:Int):Msg:={msgZ with kind:=8,src:=1,dst:=m.node,boot:=m.boot,epoch:=ep}
def fenMg(ep:Int):Msg:={msgZ with kind:=19,src:=1,dst:=0,epoch:=ep}
def agF(s:ES)(m:Member):Option Msg:=bif(frozenP (wkE s) m).2 then none else some (frzMg m s.p.epoch)
def agMs(s:ES):List Msg:=
 bif decide (s.p.phase=1)then(bif !s.fe then [fenMg s.p.epoch]else [])++(bif s.p.fresh then s.p.chain else s.keep).filterMap (agF s)
 else bif decide (s.p.phase=3) && !s.he then(bif decide (0<s.p.chain.length)then [actMg s.p]else [])else []
def againQ(s:ES):ES × List Msg:=bif mayE s then(endS s,outMs (endP s).2 s.l)else(s,agMs s)
def CMs(c:List (List AV))(l:List Msg):Prop:=c.length=l.length /\ ∀ i,i<l.length->SubC (c.getD i []) (encMsg (l.getD i default))
theorem CMs.nil:CMs [] []:=⟨rfl,fun i hi=>absurd hi (Nat.not_lt_zero i)⟩
theorem CMs.cons{x:List AV}{m:Msg}{c:List (List AV)}{l:List Msg}(h:SubC x (encMsg m))(h':CMs c l):CMs (x::c) (m::l):=⟨by simp[h'.1],fun i hi=>by
 cases i with
 | zero=>exact h
 | succ i=>exact h'.2 i (by simpa using hi)⟩
theorem CMs.append{c c':List (List AV)}{l l':List Msg}(h:CMs c l)(h':CMs c' l'):CMs (c++c') (l++l'):=by
 induction c generalizing l with
 | nil=>
  cases l with
  | nil=>exact h'
  | cons a t=>have:=h.1;simp at this
 | cons x c ih=>
  cases l with
  | nil=>have:=h.1;simp at this
  | cons a t=>
   refine CMs.cons (h.2 0 (by simp)) (ih ⟨by have:=h.1;simpa using this,fun i hi=>h.2 (i+1) (by simpa using hi)⟩)
theorem frz_sub(m:Member)(ep:Int):SubC (frC m ep) (encMsg (frzMg m ep)):=subC_all (by repeat' (first | exact trivial | exact nilsL | exact SubV.refl _ | refine⟨?_,?_⟩))
theorem fen_sub(ep:Int):SubC (feC ep) (encMsg (fenMg ep)):=subC_all (by repeat' (first | exact trivial | exact nilsL | exact SubV.refl _ | refine⟨?_,?_⟩))
theorem frz_cms(s:ES):∀ l:List Member,CMs (l.filterMap (frzO s)) (l.filterMap (agF s))
 | []=>.nil
 | m::l=>by
  have ih:=frz_cms s l
  rw[List.filterMap_cons,List.filterMap_cons]
  unfold frzO agF at *
  cases (frozenP (wkE s) m).2 with
  | true=>exact ih
  | false=>exact .cons (frz_sub _ _) ih
theorem ag_cms(s:ES):CMs (agC s) (agMs s):=by
 unfold agC agMs
 cases decide (s.p.phase=1)with
 | true=>
  rw[cond_true,cond_true]
  refine .append ?_ (frz_cms s _)
  cases s.fe with
  | true=>exact .nil
  | false=>exact .cons (fen_sub _) .nil
 | false=>
  rw[cond_false,cond_false]
  cases decide (s.p.phase=3) && !s.he with
  | false=>exact .nil
  | true=>
   rw[cond_true,cond_true]
   cases decide (0<s.p.chain.length)with
   | false=>exact .nil
   | true=>exact .cons (act_sub _) .nil
def outV:List (List AV)->AV
 | []=>.nils
 | os=>.tr 31 os.length fun k=>canF idC [] os (k+0)
theorem outV_sub{c:List (List AV)}{l:List Msg}(h:CMs c l):SubV (outV c) (encMsgs l):=by
 cases c with
 | nil=>
  cases l with
  | nil=>exact nilsL
  | cons a t=>have:=h.1;simp at this
 | cons x c=>
  unfold encMsgs encL
  show SubV (.tr 31 (x::c).length fun k=>canF idC [] (x::c) (k+0)) _
  rw[h.1]
  refine SubV.trs fun i hi=>?_
  have e1:canF idC [] (x::c) (i+0)=(x::c).getD i []:=canF_at (e:=idC) (z:=[]) (by rw[h.1];exact hi)
  rw[e1];exact h.2 i hi
def nVT(d:ND)(ns:List Alive):AV:=match d with
 | .blk=>.tr 3 ns.length fun k=>encAlive (ns.getD (k+0) default)
 | .emp n=>nA n
theorem nVT_sub{d:ND}{ns:List Alive}(h:d=.blk\/ns=[]):SubV (nVT d ns) (encAlives ns):=by
 cases d with
 | blk=>exact .refl _
 | emp n=>
  rcases h with h | h
  ·cases h
  ·subst h;exact nA_sub n
theorem akAV_ask(l:List Ask)(b:Bool):SubV (akAV l b) (encAsks l):=by
 cases l with
 | nil=>exact aqV_ask b
 | cons a t=>exact .refl _
def tkV(d:ND)(s:ES)(b:Bool)(os:List (List AV)):AV:=.tup [.agg [.int .i64 s.e,.int .i64 s.g,.trl 8 [encPlan s.p],nVT d s.ns,.trl 4 [wkA s],opV s.op,akAV s.l b],outV os]
theorem tkV_sub{d:ND}{s:ES}{b:Bool}{os:List (List AV)}{ms:List Msg}(hd:d=.blk\/s.ns=[])(h:CMs os ms):SubV (tkV d s b os) (ansB (s,ms)):=
 .tup (.cons (.agg (.cons (.refl _) (.cons (.refl _) (.cons (.refl _) (.cons (nVT_sub hd) (.cons (.refl _) (.cons (.refl _) (.cons (akAV_ask _ _) .nil)))))))) (.cons (outV_sub h) .nil))
def gUL(n:Nat):Bool:=n.beq 0||(n+0).ble n
theorem gUL_eq(n:Nat):gUL n=true:=by unfold gUL;rw[show n+0=n from rfl,orU]
def gND(d:ND)(n:Nat)(G:Bool):Bool:=match d with
 | .blk=>gUL n&&G
 | .emp _=>G
theorem gND_eq{d:ND}{n:Nat}{G:Bool}:gND d n G=G:=by cases d <;> simp only[gND,gUL_eq,Bool.true_and]
def gLD(l:List Ask):Bool:=match l with
 | []=>true
 | _::_=>gUL l.length&&true
theorem gLD_eq{l:List Ask}:gLD l=true:=by cases l <;> simp only[gLD,gUL_eq,Bool.true_and]
theorem fin_T0(d:ND)(s:ES)(b:Bool):fin (hpQ d s b .nils [])=bif gND d s.ns.length (gLD s.l)&&true then some (tkV d s b [])else none:=by
 obtain⟨e,g,p,ns,nb,op,keep,fz,fe,he,l,c⟩:=s
 rcases d with _ | n
 ·cases l <;> cases b <;> cases fz <;> rfl
 ·cases n <;> cases l <;> cases b <;> cases fz <;> rfl
theorem fin_T1(d:ND)(s:ES)(b:Bool)(x:List AV):fin (hpQ d s b (gSl 31 (qOf d s.l) [x]) (gBl 31 idC [] [x]))=bif gND d s.ns.length (gLD s.l)&&true then some (tkV d s b [x])else none:=by
 obtain⟨e,g,p,ns,nb,op,keep,fz,fe,he,l,c⟩:=s
 rcases d with _ | n
 ·cases l <;> cases b <;> cases fz <;> rfl
 ·cases n <;> cases l <;> cases b <;> cases fz <;> rfl
theorem fin_Tn(d:ND)(s:ES)(b:Bool)(x y:List AV)(r:List (List AV)):fin (hpQ d s b (gSl 31 (qOf d s.l) (x::y::r)) (gBl 31 idC [] (x::y::r)))=bif gND d s.ns.length (gLD s.l)&&(gUL (x::y::r).length&&true)then some (tkV d s b (x::y::r))else none:=by
 obtain⟨e,g,p,ns,nb,op,keep,fz,fe,he,l,c⟩:=s
 rcases d with _ | n
 ·cases l <;> cases b <;> cases fz <;> rfl
 ·cases n <;> cases l <;> cases b <;> cases fz <;> rfl
theorem fin_endN{s:ES}(b:Bool)(g:Int)(p:Plan)(hn:s.nb=true)  : ∃ v,fin (outE (wrE s g p) b)=some v/\SubV v (ansB ({s with g:=g,p:=p,fe:=false,keep:=[],fz:=.nil,he:=false,l:=[]},outMs p s.l)):=by
 obtain⟨e,g0,p0,ns,nb,op,keep,fz,fe,he,l,c⟩:=s
 subst hn
 have hw:SubV (.trl 4 [wk0]) (.trl 4 [wkA ⟨e,g,p,ns,false,op,[],.nil,false,false,[],c⟩]):=one_trl (wk0_sub _ rfl rfl rfl rfl)
 have hN:SubV (nVT .blk ns) (encAlives ns):=.refl _
 cases l with
 | nil=>
  refine⟨.tup [.agg [.int .i64 e,.int .i64 g,.trl 8 [encPlan p],nVT .blk ns,.trl 4 [wk0],opV op,aqV b],.trl 31 [actC p]],?_,?_⟩
  ·have:(bif(gUL ns.length&&true)&&true then some (AV.tup [.agg [.int .i64 e,.int .i64 g,.trl 8 [encPlan p],nVT .blk ns,.trl 4 [wk0],opV op,aqV b],.trl 31 [actC p]])else none)=some (AV.tup [.agg [.int .i64 e,.int .i64 g,.trl 8 [encPlan p],nVT .blk ns,.trl 4 [wk0],opV op,aqV b],.trl 31 [actC p]]):=by rw[gUL_eq];rfl
   refine Eq.trans ?_ this
   cases b <;> rfl
  ·refine .tup (.cons (.agg (.cons (.refl _) (.cons (.refl _) (.cons (.refl _) (.cons hN (.cons hw (.cons (.refl _) (.cons (aqV_ask b) .nil)))))))) (.cons ?_ .nil))
   exact SubV.trans (one_trl (act_sub p)) (SubV.trl_encL (e:=encMsg) (z:=default) [actMg p])
 | cons a t=>
  refine⟨.tup [.agg [.int .i64 e,.int .i64 g,.trl 8 [encPlan p],nVT .blk ns,.trl 4 [wk0],opV op,.tr 31 0 fun i=>bif(i+0).blt (0+(a::t).length)then zMsgC else encAsk ((a::t).getD (i+0) (0,0))],.tr 31 ((a::t).length+1) fun i=>canF idC [] (actC p::(a::t).map ansC) (i+0)],?_,?_⟩
  ·have:(bif(gUL ns.length&&(true&&true))&&(gUL ((a::t).length+1)&&true)then some (AV.tup [.agg [.int .i64 e,.int .i64 g,.trl 8 [encPlan p],nVT .blk ns,.trl 4 [wk0],opV op,.tr 31 0 fun i=>bif(i+0).blt (0+(a::t).length)then zMsgC else encAsk ((a::t).getD (i+0) (0,0))],.tr 31 ((a::t).length+1) fun i=>canF idC [] (actC p::(a::t).map ansC) (i+0)])else none)=some (AV.tup [.agg [.int .i64 e,.int .i64 g,.trl 8 [encPlan p],nVT .blk ns,.trl 4 [wk0],opV op,.tr 31 0 fun i=>bif(i+0).blt (0+(a::t).length)then zMsgC else encAsk ((a::t).getD (i+0) (0,0))],.tr 31 ((a::t).length+1) fun i=>canF idC [] (actC p::(a::t).map ansC) (i+0)]):=by
    rw[gUL_eq,gUL_eq];rfl
   exact this
  ·refine .tup (.cons (.agg (.cons (.refl _) (.cons (.refl _) (.cons (.refl _) (.cons hN (.cons hw (.cons (.refl _) (.cons ?_ .nil)))))))) (.cons (outs_sub p (a::t)) .nil))
   exact SubV.trs fun i hi=>absurd hi (Nat.not_lt_zero i)
theorem fin_Ag{d:ND}{s:ES}{b:Bool}(h:TOk d s):∃ v,fin (hpAg d s b)=some v/\SubV v (ansB (againQ s)):=by
 unfold hpAg againQ
 cases hm:mayE s with
 | true=>
  have hd:d=.blk:=by
   cases d with
   | blk=>rfl
   | emp n=>have:=h.no (fun e=>by cases e);rw[hm]at this;cases this
  subst hd
  exact fin_endN b _ _ h.nb
 | false=>
  rw[cond_false,cond_false]
  have hc:=ag_cms s
  match ha:agC s with
  | []=>
   rw[ha]at hc
   have e:=fin_T0 d s b
   rw[gND_eq,gLD_eq]at e
   exact⟨_,e,tkV_sub h.nd hc⟩
  | [x]=>
   rw[ha]at hc
   have e:=fin_T1 d s b x
   rw[gND_eq,gLD_eq]at e
   exact⟨_,e,tkV_sub h.nd hc⟩
  | x::y::r=>
   rw[ha]at hc
   have e:=fin_Tn d s b x y r
   rw[gND_eq,gLD_eq,gUL_eq]at e
   exact⟨_,e,tkV_sub h.nd hc⟩
theorem tkE_ok{t:Bool}{c:AC}{d:ND}{s:ES}{b:Bool}(h:TOk d s)(ht:lkC t s)(h2:TOk d (lookP s))(hc:acC c (lookP s)):tkE t c (hpT9 d true s b)=fin (hpAg d (lookP s) b):=by
 have e1:(dEn A0 (hpT9 d true s b)).s=s:=congrArg EB.s (dT9_eq (t:=true) (b:=b) h.nb h.nd)
 have e2:(dEn A0 (hpT9 d false (lookP s) b)).s=lookP s:=congrArg EB.s (dT9_eq (t:=false) (b:=b) h2.nb h2.nd)
 unfold tkE
 rw[gLk_eq h ht,e1,lkH_eq ht,gAgn_eq h2 hc,e2,agH_eq h2 hc]
theorem begin_or(s:ES)(fr:Bool):beginS s fr=s \/ ∃ p keep,beginS s fr=wkS s p keep/\p.chain=s.p.chain/\p.valid=s.p.valid/\keep.length<=s.p.valid.length:=by
 unfold beginS
 cases decide (1099511627776<=s.p.epoch)with
 | true=>exact .inl rfl
 | false=>
  refine .inr ⟨_,_,rfl,rfl,rfl,?_⟩
  cases fr with
  | true=>exact Nat.zero_le _
  | false=>exact List.length_filterMap_le _ _
theorem look_begin(s:ES):lookP s=s \/ ∃ fr,lookP s=beginS s fr:=by
 unfold lookP
 cases decide (s.p.phase=0)with
 | true=>
  cases decide (0<(upP s.ns s.c.susp).length)with
  | true=>exact .inr ⟨true,rfl⟩
  | false=>exact .inl rfl
 | false=>
  rw[cond_false]
  cases decide (s.p.phase=3)with
  | true=>
   rw[cond_true]
   cases s.p.chain.any (fun m=>!inUp (upP s.ns s.c.susp) m)&&s.p.valid.any (fun m=>inUp (upP s.ns s.c.susp) m)||growsP s.p s.c (upP s.ns s.c.susp)with
   | true=>exact .inr ⟨false,rfl⟩
   | false=>exact .inl rfl
  | false=>
   rw[cond_false]
   cases decide (s.p.phase=1) && !s.p.fresh with
   | false=>exact .inl rfl
   | true=>
    rw[cond_true]
    cases (decide (s.keep.length=0)||s.keep.any (fun m=>!inUp (upP s.ns s.c.susp) m))&&s.p.valid.any (fun m=>inUp (upP s.ns s.c.susp) m)with
    | true=>exact .inr ⟨false,rfl⟩
    | false=>exact .inl rfl
theorem look_or(s:ES):lookP s=s \/ ∃ p keep,lookP s=wkS s p keep/\p.chain=s.p.chain/\p.valid=s.p.valid/\keep.length<=s.p.valid.length:=by
 rcases look_begin s with h | ⟨fr,h⟩
 ·exact .inl h
 ·rw[h];exact begin_or s fr
theorem lkC_or(s:ES):∃ t,lkC t s:=by
 rcases look_or s with h | ⟨p,keep,h,_⟩
 ·exact⟨false,h⟩
 ·refine⟨true,?_⟩
  show lookP s=wkS s (lookP s).p (lookP s).keep
  rw[h];rfl
theorem TOk.look{s:ES}(h:TOk .blk s):TOk .blk (lookP s):=by
 rcases look_or s with e | ⟨p,keep,e,h1,h2,h3⟩
 ·rw[e];exact h
 ·rw[e]
  have:=h.val
  exact⟨⟨by rw[show(wkS s p keep).p.chain=s.p.chain from h1];exact h.eok.ch,h.eok.ns,by show keep.length<=3;omega,Nat.zero_le _,(fun f hf=>by cases hf),h.eok.c1,h.eok.c2,h.eok.l⟩,
   .inl rfl,fun e=>absurd rfl e,h.nb,h.op,by rw[show(wkS s p keep).p.valid=s.p.valid from h2];exact h.val,(fun f hf=>by cases hf),by rw[show(wkS s p keep).p.chain=s.p.chain from h1];exact h.pc⟩
theorem look_nil{s:ES}(h:s.ns=[]):lookP s=s:=by
 have hu:upP s.ns s.c.susp=[]:=by rw[h];rfl
 unfold lookP
 rw[hu]
 have h1:∀ l:List Member,l.any (fun m=>inUp [] m)=false:=fun l=>by
  rw[List.any_eq_false]
  intro m _ hm
  unfold inUp at hm
  have:idx [] m = -1:=rfl
  rw[this]at hm
  exact absurd (of_decide_eq_true hm) (by omega)
 have h2:growsP s.p s.c []=false:=by
  unfold growsP
  cases decide (s.c.chain<=(s.p.chain.length:Int))with
  | true=>rfl
  | false=>rw[cond_false,List.any_nil,Bool.and_false]
 rw[h1,h2,Bool.and_false,Bool.and_false]
 cases decide (s.p.phase=0) <;> cases decide (s.p.phase=3) <;> cases (decide (s.p.phase=1) && !s.p.fresh) <;> rfl
theorem may_nil{s:ES}(h:s.ns=[])(hk:s.keep=[]):mayE s=false:=by
 have hu:upP s.ns s.c.susp=[]:=by rw[h];rfl
 show(bif !decide (s.p.phase=1)then false else bif !s.fe then false else
  bif s.p.fresh then bif decide (0<s.p.chain.length)then bif !s.p.chain.any (fun m=>overP (wkE s) s.ns m)then false else decide (0<(upP s.ns s.c.susp).length)else decide (0<(upP s.ns s.c.susp).length)
  else bif s.keep.all (fun m=>(frozenP (wkE s) m).2)then bif decide (0<s.keep.length)then bif(bestP (wkE s) s.p.base).isSome then true else decide (0<(upP s.ns s.c.susp).length)else false else false)=false
 rw[hu,hk]
 have e0:decide (0<([]:List Member).length)=false:=rfl
 rw[e0]
 cases decide (s.p.phase=1) <;> cases s.fe <;> cases s.p.fresh <;> cases decide (0<s.p.chain.length) <;> cases s.p.chain.any (fun m=>overP (wkE s) s.ns m) <;> rfl
def gInc(g:Nat->Alive)(i k:Nat):Alive:=bif k.blt i then incA (g k)else g k
theorem blt_false'{a b:Nat}(h:¬ a<b):a.blt b=false:=by
 cases e:a.blt b with
 | false=>rfl
 | true=>exact absurd (Nat.le_of_ble_eq_true e) h
theorem incF_gInc(g:Nat->Alive)(i:Nat):incF (gInc g i) i=fun k=>encAlive (gInc g (i+1) k):=by
 funext k
 unfold incF
 by_cases e:k=i
 ·subst e
  have e1:gInc g k k=g k:=by unfold gInc;rw[blt_false' (Nat.lt_irrefl k)];rfl
  have e2:gInc g (k+1) k=incA (g k):=by unfold gInc;rw[blt_true (Nat.lt_succ_self k)];rfl
  rw[AM.beq_true rfl,cond_true,e1,e2];rfl
 ·rw[AM.beq_false e,cond_false]
  unfold gInc
  by_cases h:k<i
  ·rw[blt_true h,blt_true (by omega)]
  ·rw[blt_false' h,blt_false' (by omega)]
def blkS(s:ES):ES:={incS s with nb:=true}
theorem tk_hp(s:ES)(b:Bool):hpT8 s b s.ns.length (fun k=>encAlive (gInc (fun k=>s.ns.getD k default) s.ns.length k))=hpT9 .blk true (blkS s) b:=by
 have e:(fun k=>encAlive (gInc (fun k=>s.ns.getD k default) s.ns.length k))=fun k=>encAlive ((s.ns.map incA).getD k default):=by
  funext k
  congr 1
  unfold gInc
  by_cases h:k<s.ns.length
  ·rw[blt_true h,cond_true]
   simp[List.getD,h]
  ·rw[blt_false' h,cond_false]
   have h':s.ns.length<=k:=by omega
   simp[List.getD,List.getElem?_eq_none h']
 rw[e]
 have e2:s.ns.length=(s.ns.map incA).length:=by simp
 rw[e2]
 rfl
theorem tk_run(N:Nat)(t:Bool)(c:AC)(s:ES)(b:Bool)(hl:s.ns.length<=1000):∀ d i j,i+d=s.ns.length->d<j->LTk N t c j (STc s b s.ns.length (fun k=>encAlive (gInc (fun k=>s.ns.getD k default) i k)) (i:Nat))=tkE t c (hpT9 .blk true (blkS s) b):=by
 intro d
 induction d with
 | zero=>
  intro i j hi hj
  obtain⟨j,rfl⟩:∃ k,j=k+1:=⟨j - 1,by omega⟩
  have:i=s.ns.length:=by omega
  subst this
  rw[tk_st,decide_eq_false (by omega),cond_false,tk_hp]
 | succ d ih=>
  intro i j hi hj
  obtain⟨j,rfl⟩:∃ k,j=k+1:=⟨j - 1,by omega⟩
  have hil:i<s.ns.length:=by omega
  rw[tk_st,decide_eq_true (by omega),cond_true,rg_eq hil,Int.toNat_natCast,Nat.zero_add,blt_true hil,cond_true,rg_eq hil,Bool.and_true,cond_true,wrapS (by omega),incF_gInc]
  exact ih (i+1) j (by omega) (by omega)
structure KOk(s:ES):Prop where
 eok:EOk s
 nb:s.nb=false
 op:pOp s.op
 val:s.p.valid.length<=3
 cp:∀ f ∈ s.fz.l,CpOk f
 kn:s.ns=[]->s.keep=[]
theorem KOk.blk{s:ES}(h:KOk s):TOk .blk (blkS s):=
 ⟨⟨h.eok.ch,by show(s.ns.map incA).length<=1000;rw[List.length_map];exact h.eok.ns,h.eok.keep,h.eok.fz,h.eok.ver,h.eok.c1,h.eok.c2,h.eok.l⟩,.inl rfl,fun e=>absurd rfl e,rfl,h.op,h.val,h.cp,h.eok.ch⟩
theorem KOk.emp{s:ES}(h:KOk s)(hns:s.ns=[])(n:Bool):TOk (.emp n) s:=⟨h.eok,.inr hns,fun _=>may_nil hns (h.kn hns),h.nb,h.op,h.val,h.cp,h.eok.ch⟩
def tickQ(s:ES):ES × List Msg:=againQ (lookP (blkS s))
theorem tick_blk{s:ES}{b:Bool}(h:KOk s)(hne:s.ns ≠ []):Contract PG F_coord_Tick [.agg (buD .blk s b),.agg (encCf s.c)] [] (ansB (tickQ s)) []:=by
 have h1:=h.blk
 obtain⟨t,ht⟩:=lkC_or (blkS s)
 obtain⟨c,hc⟩:=acC_or (lookP (blkS s))
 have e:=tk_in 2000 t c s b
 have hl:=h.eok.ns
 rw[gBuX_eq ⟨h.eok,Nat.le_trans h.val (by omega),h.cp,h.op,.inl ⟨rfl,hne⟩⟩]at e
 have r:=tk_run 2000 t c s b hl s.ns.length 0 (2000+19) (by omega) (by omega)
 have e0:(fun k=>encAlive (gInc (fun k=>s.ns.getD k default) 0 k))=fun k=>encAlive (s.ns.getD k default):=rfl
 rw[e0]at r
 obtain⟨v,f1,f2⟩:=fin_Ag (b:=b) h1.look
 have e:=e.trans (r.trans ((tkE_ok h1 ht h1.look hc).trans f1))
 exact(conT9 (kn47_ok _ _) e).res f2
theorem tick_emp{s:ES}{b n:Bool}(h:KOk s)(hns:s.ns=[]):Contract PG F_coord_Tick [.agg (buD (.emp n) s b),.agg (encCf s.c)] [] (ansB (tickQ s)) []:=by
 have h1:=h.emp hns n
 have hl:=look_nil hns
 have h2:TOk (.emp n) (lookP s):=by rw[hl];exact h1
 obtain⟨t,ht⟩:=lkC_or s
 obtain⟨c,hc⟩:=acC_or (lookP s)
 have e:=tk_e t c n s b
 rw[gBuX_eq ⟨h.eok,Nat.le_trans h.val (by omega),h.cp,h.op,.inr ⟨(fun e=>by cases e),hns⟩⟩]at e
 obtain⟨v,f1,f2⟩:=fin_Ag (b:=b) h2
 have e:=e.trans ((tkE_ok h1 ht h2 hc).trans f1)
 have eq:ansB (againQ (lookP s))=ansB (tickQ s):=by
  have hm:mayE s=false:=may_nil hns (h.kn hns)
  have hb:(blkS s).ns=[]:=by show s.ns.map incA=[];rw[hns];rfl
  have hm2:mayE (blkS s)=false:=may_nil hb (h.kn hns)
  unfold tickQ
  rw[hl,look_nil hb]
  unfold againQ
  rw[hm,hm2,cond_false,cond_false]
  have:blkS s={s with nb:=true}:=by
   unfold blkS incS
   rw[hns];rfl
  rw[this]
  rfl
 rw[<- eq]
 exact(conT9 (kn47_ok _ _) e).res f2
theorem tick_asks{s:ES}{d:ND}(h:∀ b,Contract PG F_coord_Tick [.agg (buD d s b),.agg (encCf s.c)] [] (ansB (tickQ s)) []):Contract PG F_coord_Tick [.agg [.int .i64 s.e,.int .i64 s.g,.trl 8 [encPlan s.p],nV d s.ns,.trl 4 [wkA s],opV s.op,encAsks s.l],.agg (encCf s.c)] [] (ansB (tickQ s)) []:=by
 by_cases hl:s.l=[]
 ·refine Contract.split (args1:=[.agg (buD d s false),.agg (encCf s.c)]) (args2:=[.agg (buD d s true),.agg (encCf s.c)]) ?_ (h false) (h true)
  unfold buD akAV
  rw[hl]
  exact OrC.of [] [.agg (encCf s.c)] (.agg (OrC.of [.int .i64 s.e,.int .i64 s.g,.trl 8 [encPlan s.p],nV d s.ns,.trl 4 [wkA s],opV s.op] [] .nil))
 ·have:encAsks s.l=akAV s.l false:=by
   unfold akAV
   cases h:s.l with
   | nil=>exact absurd h hl
   | cons a t=>rfl
  rw[this]
  exact h false
theorem tick_con{s:ES}(h:KOk s):Contract PG F_coord_Tick [.agg (buT s),.agg (encCf s.c)] [] (ansB (tickQ s)) []:=by
 by_cases hns:s.ns=[]
 ·have h0:=tick_asks (d:=.emp false) (s:=s) fun b=>tick_emp h hns
  have h1:=tick_asks (d:=.emp true) (s:=s) fun b=>tick_emp h hns
  refine Contract.split ?_ h0 h1
  unfold buT
  rw[hns]
  exact OrC.of [] [.agg (encCf s.c)] (.agg (OrC.of [.int .i64 s.e,.int .i64 s.g,.trl 8 [encPlan s.p]] [.trl 4 [wkA s],opV s.op,encAsks s.l] .nil))
 ·exact tick_asks (d:=.blk) fun b=>tick_blk h hns
def CG(f:Nat)(args:List AV)(hp:Heap)(r:AV)(H:Heap):Prop:=Contract PG f args hp r H/\hp.length<=H.length
def kCon(f:Nat)(r:AV)(H:Heap):Known:={f:=f,ans:=fun args hp=>some {X:=Unit,g:=cd (CG f args hp r H),a:=(),r:=fun _=>(r,H)}}
theorem kCon_ok(f:Nat)(r:AV)(H:Heap):(kCon f r H).Ok PG:=by
 intro args hp A e hg
 cases e
 exact cd_iff.1 hg
def gCon{R:Type}(f:Nat)(args:List AV)(hp:Heap)(r:AV)(H:Heap)(K:Option R):Option R:=gX (CG f args hp r H) () fun _=>K
theorem gCon_eq{R:Type}{f:Nat}{args:List AV}{hp:Heap}{r:AV}{H:Heap}{K:Option R}(h:CG f args hp r H):gCon f args hp r H K=K:=gX_of h
inductive RH where
 | kp (s:ES)
 | en (x:WR)
def RH.t:RH->Bool
 | .kp _=>false
 | .en _=>true
def dd(sh:Bool)(B:List BS):List BS:=bif sh then .dead::B else B
def RH.H(sh:Bool):RH->Heap
 | .kp s=>hpD false s.e s.g s.ns (opV s.op) (.sl 31 (3+sft sh) 0 s.l.length 0) .nils s.c (encPlan s.p) (wkA s) (dd sh [blkA s.l])
 | .en y=>hpD false y.e y.g y.ns (opV y.op) (.sl 31 (3+sft sh) 0 0 0) (.sl 31 (4+sft sh) 0 (y.l.length+1) 0) y.c (encPlan y.p) wk0 (dd sh [clrA y.l,.seq true 31 (y.l.length+1) (canF idC [] (outW y))])
def kn52(R:RH):List Known:=[kCon F_coord_desk_end (.bool R.t) (R.H false)]
theorem kn52_ok(R:RH):∀ k ∈ kn52 R,k.Ok PG:=ak (kCon_ok _ _ _) ank
def A1(m:Msg):List AV:=[.ptr 0 0 0,.agg (encMsg (kM m 21))]
def hpR(s:ES)(P W:List AV)(A O:AV)(B:List BS):Heap:=hpD false s.e s.g s.ns (opV s.op) A O s.c P W B
def rsP1(p:Plan)(m:Msg):Plan:={p with reset:=m.num}
structure AQ where
 A:Nat->AV
 B:BS
def AQ.hp(q:AQ)(sh:Bool)(s:ES)(P W:List AV):Heap:=hpR s P W (q.A (3+sft sh)) .nils (dd sh [q.B])
def rsT(R:RH)(sh:Bool)(q:AQ)(s:ES)(p:Plan)(W:List AV):Option (AV × Heap):=gCon F_coord_desk_end A0 (q.hp false s (encPlan p) W) (.bool R.t) (R.H false) (some (.tup [],R.H sh))
def rsB(R:RH)(sh:Bool)(q:AQ)(s:ES)(m:Msg):Option (AV × Heap):=bif decide (1099511627776<=s.p.epoch)then rsT R sh q s (rsP1 s.p m) (wkA s)else rsT R sh q s (begP (rsP1 s.p m) true) wk0
def rsE(R:RH)(sh:Bool)(q:AQ)(s:ES)(m:Msg):Option (AV × Heap):=bif !s.p.fresh then rsB R sh q s m else rsT R sh q s (rsP1 s.p m) (wkA s)
def rsK(sh:Bool)(q:AQ)(s:ES):Option (AV × Heap):=some (.tup [],q.hp sh s (encPlan s.p) (wkA s))
def rsA(R:RH)(sh:Bool)(q:AQ)(s:ES)(m:Msg)(fr:Bool):Option (AV × Heap):=bif !decide (s.p.reset<m.num)then rsK sh q s else bif fr then rsE R sh q s m else rsB R sh q s m
def aq1(m:Msg):AQ:=⟨fun k=>.sl 31 k 0 1 1,.arr true 31 [encAsk (m.src,m.num)]⟩
def qE(b:Bool)(k:Nat):AV:=bif b then .sl 31 k 0 0 0 else .nils
def bE(b:Bool):List BS:=bif b then [.arr true 31 []]else []
def hpN1(s:ES)(b:Bool)(m:Msg):Heap:=hpR s (encPlan s.p) (wkA s) (qE b 3) (.sl 31 (3+sft b) 0 1 1) (bE b++[.arr true 31 [ansC (m.src,m.num)]])
def rsN(s:ES)(b:Bool)(m:Msg):Option (AV × Heap):=some (.tup [],hpN1 s b m)
theorem rs_0(R:RH)(s:ES)(b:Bool)(m:Msg):callH (envK2 (kn52 R)) 20 F_coord_desk_reset (A1 m) (hpR s (encPlan s.p) (wkA s) (qE b 3) .nils (bE b)) =
 bif decide (s.p.phase=1)then bif !decide (s.p.reset<m.num)then bif !s.p.fresh then rsN s b m else rsA R b (aq1 m) s m true else rsA R b (aq1 m) s m true
 else bif !decide (s.p.reset<m.num)then rsN s b m else rsA R b (aq1 m) s m false:=by
 obtain⟨e,g,p,ns,nb,op,keep,fz,fe,he,l,c⟩:=s
 cases R with
 | kp s1=>
  obtain⟨e,g,p,ns,nb,op,keep,fz1,fe,he,l,c⟩:=s1
  cases b <;> cases fz <;> cases fz1 <;> kernel_rfl
 | en x=>cases b <;> cases fz <;> kernel_rfl
def hpQ2(s:ES):Heap:=hpR s (encPlan s.p) (wkA s) (.sl 31 3 0 s.l.length 0) .nils [blkA s.l]
def SRs(s:ES)(m:Msg)(w sm:Bool)(i:Int):St:={fr:=[(0,.ptr 0 0 0),(3,.ptr 4 0 0),(4,.ptr 1 0 0),(5,.bool w),(6,.bool sm),(29,.sl 31 3 0 s.l.length 0),(30,.int .i64 s.l.length),(31,.int .i64 i)],hp:=hpQ2 s++[.arr true 31 [encMsg (kM m 21)]]}
def LRs(R:RH)(N:Nat)(s:ES)(m:Msg)(j:Nat)(w sm:Bool)(i:Int):Option (AV × Heap):=LP (envK2 (kn52 R)) (N+9) 4 F_coord_desk_reset (hnK 4) 0 [] j (SRs s m w sm i)
theorem rs_in(R:RH)(N:Nat)(s:ES)(m:Msg):callH (envK2 (kn52 R)) (N+10) F_coord_desk_reset (A1 m) (hpQ2 s)=LRs R N s m (N+9) false false 0:=by
 obtain⟨e,g,p,ns,nb,op,keep,fz,fe,he,l,c⟩:=s
 cases fz <;> kernel_rfl
def aqN(l:List Ask)(m:Msg):AQ:=⟨fun k=>.sl 31 k 0 (l.length+1) 0,.seq true 31 (l.length+1) fun k=>bif k.blt l.length then encAsk (l.getD k (0,0))else bif k.blt (l.length+1)then [encAsk (m.src,m.num)].getD (k - l.length) []else encAsk (l.getD l.length (0,0))⟩
def aqL(l:List Ask):AQ:=⟨fun k=>.sl 31 k 0 l.length 0,blkA l⟩
def rsW(R:RH)(s:ES)(m:Msg)(sm fr:Bool):Option (AV × Heap):=bif !sm then room1 s.l.length 392 (rsA R true (aqN s.l m) s m fr)else rsA R false (aqL s.l) s m fr
def rsZ(R:RH)(s:ES)(m:Msg)(sm:Bool):Option (AV × Heap):=
 bif decide (s.p.phase=1)then bif !decide (s.p.reset<m.num)then rsW R s m sm true else rsW R s m sm true
 else bif !decide (s.p.reset<m.num)then rsW R s m sm false else rsW R s m sm false
theorem rs_st(R:RH)(N j:Nat)(s:ES)(m:Msg)(sm:Bool)(i:Int):LRs R N s m (j+1) true sm i =
 bif decide (i<(s.l.length:Int))then rg i s.l.length <| bif(0+i.toNat).blt s.l.length then
  bif sm then LRs R N s m j true true (IntKind.i64.wrap (i+1))else bif decide ((s.l.getD (0+i.toNat) (0,0)).1=m.src)then LRs R N s m j true (decide ((s.l.getD (0+i.toNat) (0,0)).2=m.num)) (IntKind.i64.wrap (i+1))else LRs R N s m j true false (IntKind.i64.wrap (i+1))
  else none
 else rsZ R s m sm:=by
 obtain⟨e,g,p,ns,nb,op,keep,fz,fe,he,l,c⟩:=s
 cases R with
 | kp s1=>
  obtain⟨e,g,p,ns,nb,op,keep,fz1,fe,he,l,c⟩:=s1
  cases fz <;> cases fz1 <;> kernel_rfl
 | en x=>cases fz <;> kernel_rfl
def rsZ0(R:RH)(s:ES)(m:Msg):Option (AV × Heap):=
 let an:Option (AV × Heap):=some (.tup [],hpR s (encPlan s.p) (wkA s) (.sl 31 3 0 s.l.length 0) (.sl 31 4 0 1 1) [blkA s.l,.arr true 31 [ansC (m.src,m.num)]])
 bif decide (s.p.phase=1)then bif !decide (s.p.reset<m.num)then bif !s.p.fresh then an else room1 s.l.length 392 (rsA R true (aqN s.l m) s m true)else room1 s.l.length 392 (rsA R true (aqN s.l m) s m true)
 else bif !decide (s.p.reset<m.num)then an else room1 s.l.length 392 (rsA R true (aqN s.l m) s m false)
theorem rs_st0(R:RH)(N j:Nat)(s:ES)(m:Msg)(i:Int):LRs R N s m (j+1) false false i =
 bif decide (i<(s.l.length:Int))then rg i s.l.length <| bif(0+i.toNat).blt s.l.length then
  bif decide ((s.l.getD (0+i.toNat) (0,0)).1=m.src)then LRs R N s m j true (decide ((s.l.getD (0+i.toNat) (0,0)).2=m.num)) (IntKind.i64.wrap (i+1))else LRs R N s m j true false (IntKind.i64.wrap (i+1))
  else none
 else rsZ0 R s m:=by
 obtain⟨e,g,p,ns,nb,op,keep,fz,fe,he,l,c⟩:=s
 cases R with
 | kp s1=>
  obtain⟨e,g,p,ns,nb,op,keep,fz1,fe,he,l,c⟩:=s1
  cases fz <;> cases fz1 <;> kernel_rfl
 | en x=>cases fz <;> kernel_rfl
theorem emp_blk:callH (envC2 []) 20 F_twin_Msgs [.trl 31 []] []=some (.sl 31 0 0 0 0,[.arr true 31 []]):=by kernel_rfl
def kMsgX:Known:={f:=F_twin_Msgs,ans:=fun args hp=>match isEmpT (args.getD 0 .undef)with
 | true=>match args,hp with
  | [_],[]=>some {X:=Unit,g:=true,a:=(),r:=fun _=>(.sl 31 0 0 0 0,[.arr true 31 []])}
  | _,_=>none
 | false=>kMsgT.ans args hp}
theorem kMsgX_ok:kMsgX.Ok PG:=by
 intro args hp A e hg
 unfold kMsgX at e
 simp only[]at e
 cases hE:isEmpT (args.getD 0 .undef)with
 | true=>
  rw[hE]at e
  simp only[]at e
  split at e
  ·rename_i v
   cases e
   have:v=.trl 31 []:=isEmpT_eq hE
   subst this
   exact conC2H ank emp_blk
  ·cases e
 | false=>rw[hE]at e;exact kMsgT_ok args hp A e hg
inductive RsO where
 | st (sh:Bool) (R:RH)
 | an (s:ES) (b:Bool) (m:Msg)
def RsO.H:RsO->Heap
 | .st sh R=>R.H sh
 | .an s b m=>hpN1 s b m
def kMsgXO(l:List Msg):Known:={f:=F_twin_Msgs,ans:=fun args hp=>match isTn (args.getD 0 .undef)with
 | true=>(kOpC l).ans args hp
 | false=>kMsgX.ans args hp}
theorem kMsgXO_ok(l:List Msg):(kMsgXO l).Ok PG:=by
 intro args hp A e hg
 unfold kMsgXO at e
 simp only[]at e
 cases hE:isTn (args.getD 0 .undef)with
 | true=>rw[hE]at e;exact kOpC_ok l args hp A e hg
 | false=>rw[hE]at e;exact kMsgX_ok args hp A e hg
def kn53(O:RsO)(l:List Msg):List Known:=[kMsgXO l,kCloneAlive,kCloneMember,kCon F_coord_desk_reset (.tup []) O.H]
theorem kn53_ok(O:RsO)(l:List Msg):∀ k ∈ kn53 O l,k.Ok PG:=ak (kMsgXO_ok l) (ak kCloneAlive_ok (ak kCloneMember_ok (ak (kCon_ok _ _ _) ank)))
def md53(f:Nat):Option Nat:=bif Nat.beq f F_coord_desk_reset then some 5 else mdK f
def env53(l:List Known):Env:={envL [] md53 l with msk:=fun f=>bif Nat.beq f F_coord_Up then [2,4,5,6]else []}
theorem env53_ok{l:List Known}(h:∀ k ∈ l,k.Ok PG):EnvOk PG (env53 l):=⟨tt_ok rfl,orc_ok h⟩
theorem con53{l:List Known}(h:∀ k ∈ l,k.Ok PG){n f:Nat}{xs:List AV}{r:AV}(e:callT (env53 l) n f xs=some r):Contract PG f xs [] r []:=callT_ok (env53_ok h) (codeOf_ok rfl) mixed e
def gAkX{R:Type}(l:List Ask)(b:Bool)(K:AV->List BS->Option R):Option R:=match l with
 | []=>K (qE b 3) (bE b)
 | a::t=>gC dAk pAk eAk [encAsks (a::t)] fun y=>K (.sl 31 3 0 y.length 0) [blkA y]
def gBuX1{R:Type}(s:ES)(b:Bool)(K:Plan->List Alive->List Member->AV->AV->List BS->Option R):Option R:=
 gMs s.p.chain fun y0=>gMs s.p.valid fun y1=>gAls s.ns fun y2=>gMs s.keep fun y3=>gFzV s.fz fun F=>gOp s.op <| gAkX s.l b fun A B=>K {s.p with chain:=y0,valid:=y1} y2 y3 F A B
def eqH21(O:RsO)(s:ES)(b:Bool)(m:Msg):Prop:=callT (env53 (kn53 O s.op)) 20 F_coord_Handle [.agg (buV s b),.agg (encCf s.c),.agg (encMsg (kM m 21))] =
 gBuX1 s b fun p ns ke F A B=>gCon F_coord_desk_reset (A1 m) (hpB s p ns [.bool s.fe,encMembers ke,F,.bool s.he] A B) (.tup []) O.H (fin O.H)
theorem h21kn(sh:Bool)(s1:ES)(e g:Int)(p:Plan)(ns:List Alive)(nb:Bool)(op:List Msg)(keep:List Member)(fe he:Bool)(l:List Ask)(c:CConf)(b:Bool)(m:Msg):callT (env53 (kn53 (RsO.st sh (.kp s1)) op)) 20 F_coord_Handle [.agg (buV ⟨e,g,p,ns,nb,op,keep,.nil,fe,he,l,c⟩ b),.agg (encCf c),.agg (encMsg (kM m 21))] =
 gBuX1 ⟨e,g,p,ns,nb,op,keep,.nil,fe,he,l,c⟩ b fun p ns ke F A B=>gCon F_coord_desk_reset (A1 m) (hpB ⟨e,g,p,ns,nb,op,keep,.nil,fe,he,l,c⟩ p ns [.bool fe,encMembers ke,F,.bool he] A B) (.tup []) ((RsO.st sh (.kp s1))).H (fin ((RsO.st sh (.kp s1))).H):=by
 obtain⟨e1,g1,p1,ns1,nb1,op1,keep1,fz1,fe1,he1,l1,c1⟩:=s1
 cases sh <;> cases l <;> cases b <;> cases fz1 <;> kernel_rfl
theorem h21xn(sh:Bool)(y:WR)(e g:Int)(p:Plan)(ns:List Alive)(nb:Bool)(op:List Msg)(keep:List Member)(fe he:Bool)(l:List Ask)(c:CConf)(b:Bool)(m:Msg):callT (env53 (kn53 (RsO.st sh (.en y)) op)) 20 F_coord_Handle [.agg (buV ⟨e,g,p,ns,nb,op,keep,.nil,fe,he,l,c⟩ b),.agg (encCf c),.agg (encMsg (kM m 21))] =
 gBuX1 ⟨e,g,p,ns,nb,op,keep,.nil,fe,he,l,c⟩ b fun p ns ke F A B=>gCon F_coord_desk_reset (A1 m) (hpB ⟨e,g,p,ns,nb,op,keep,.nil,fe,he,l,c⟩ p ns [.bool fe,encMembers ke,F,.bool he] A B) (.tup []) ((RsO.st sh (.en y))).H (fin ((RsO.st sh (.en y))).H):=by
 cases sh <;> cases l <;> cases b <;> kernel_rfl
theorem h21an(s1:ES)(b1:Bool)(m1:Msg)(e g:Int)(p:Plan)(ns:List Alive)(nb:Bool)(op:List Msg)(keep:List Member)(fe he:Bool)(l:List Ask)(c:CConf)(b:Bool)(m:Msg):callT (env53 (kn53 (RsO.an s1 b1 m1) op)) 20 F_coord_Handle [.agg (buV ⟨e,g,p,ns,nb,op,keep,.nil,fe,he,l,c⟩ b),.agg (encCf c),.agg (encMsg (kM m 21))] =
 gBuX1 ⟨e,g,p,ns,nb,op,keep,.nil,fe,he,l,c⟩ b fun p ns ke F A B=>gCon F_coord_desk_reset (A1 m) (hpB ⟨e,g,p,ns,nb,op,keep,.nil,fe,he,l,c⟩ p ns [.bool fe,encMembers ke,F,.bool he] A B) (.tup []) ((RsO.an s1 b1 m1)).H (fin ((RsO.an s1 b1 m1)).H):=by
 obtain⟨e1,g1,p1,ns1,nb1,op1,keep1,fz1,fe1,he1,l1,c1⟩:=s1
 cases l <;> cases b <;> cases b1 <;> cases fz1 <;> kernel_rfl
theorem h21ke(sh:Bool)(s1:ES)(e g:Int)(p:Plan)(ns:List Alive)(nb:Bool)(op:List Msg)(keep:List Member)(fe he:Bool)(l:List Ask)(c:CConf)(f:Msg)(fs:List Msg)(b:Bool)(m:Msg):callT (env53 (kn53 (RsO.st sh (.kp s1)) op)) 20 F_coord_Handle [.agg (buV ⟨e,g,p,ns,nb,op,keep,.ne f fs,fe,he,l,c⟩ b),.agg (encCf c),.agg (encMsg (kM m 21))] =
 gBuX1 ⟨e,g,p,ns,nb,op,keep,.ne f fs,fe,he,l,c⟩ b fun p ns ke F A B=>gCon F_coord_desk_reset (A1 m) (hpB ⟨e,g,p,ns,nb,op,keep,.ne f fs,fe,he,l,c⟩ p ns [.bool fe,encMembers ke,F,.bool he] A B) (.tup []) ((RsO.st sh (.kp s1))).H (fin ((RsO.st sh (.kp s1))).H):=by
 obtain⟨e1,g1,p1,ns1,nb1,op1,keep1,fz1,fe1,he1,l1,c1⟩:=s1
 cases sh <;> cases l <;> cases b <;> cases fz1 <;> kernel_rfl
theorem h21xe(sh:Bool)(y:WR)(e g:Int)(p:Plan)(ns:List Alive)(nb:Bool)(op:List Msg)(keep:List Member)(fe he:Bool)(l:List Ask)(c:CConf)(f:Msg)(fs:List Msg)(b:Bool)(m:Msg):callT (env53 (kn53 (RsO.st sh (.en y)) op)) 20 F_coord_Handle [.agg (buV ⟨e,g,p,ns,nb,op,keep,.ne f fs,fe,he,l,c⟩ b),.agg (encCf c),.agg (encMsg (kM m 21))] =
 gBuX1 ⟨e,g,p,ns,nb,op,keep,.ne f fs,fe,he,l,c⟩ b fun p ns ke F A B=>gCon F_coord_desk_reset (A1 m) (hpB ⟨e,g,p,ns,nb,op,keep,.ne f fs,fe,he,l,c⟩ p ns [.bool fe,encMembers ke,F,.bool he] A B) (.tup []) ((RsO.st sh (.en y))).H (fin ((RsO.st sh (.en y))).H):=by
 cases sh <;> cases l <;> cases b <;> kernel_rfl
theorem h21ae(s1:ES)(b1:Bool)(m1:Msg)(e g:Int)(p:Plan)(ns:List Alive)(nb:Bool)(op:List Msg)(keep:List Member)(fe he:Bool)(l:List Ask)(c:CConf)(f:Msg)(fs:List Msg)(b:Bool)(m:Msg):callT (env53 (kn53 (RsO.an s1 b1 m1) op)) 20 F_coord_Handle [.agg (buV ⟨e,g,p,ns,nb,op,keep,.ne f fs,fe,he,l,c⟩ b),.agg (encCf c),.agg (encMsg (kM m 21))] =
 gBuX1 ⟨e,g,p,ns,nb,op,keep,.ne f fs,fe,he,l,c⟩ b fun p ns ke F A B=>gCon F_coord_desk_reset (A1 m) (hpB ⟨e,g,p,ns,nb,op,keep,.ne f fs,fe,he,l,c⟩ p ns [.bool fe,encMembers ke,F,.bool he] A B) (.tup []) ((RsO.an s1 b1 m1)).H (fin ((RsO.an s1 b1 m1)).H):=by
 obtain⟨e1,g1,p1,ns1,nb1,op1,keep1,fz1,fe1,he1,l1,c1⟩:=s1
 cases l <;> cases b <;> cases b1 <;> cases fz1 <;> kernel_rfl
theorem h21(O:RsO)(s:ES)(b:Bool)(m:Msg)(hf:s.fz ≠ .emp):eqH21 O s b m:=by
 obtain⟨e,g,p,ns,nb,op,keep,fz,fe,he,l,c⟩:=s
 cases fz with
 | emp=>exact absurd rfl hf
 | nil=>cases O with
  | st sh R=>cases R with
   | kp s1=>exact h21kn sh s1 e g p ns nb op keep fe he l c b m
   | en y=>exact h21xn sh y e g p ns nb op keep fe he l c b m
  | an s1 b1 m1=>exact h21an s1 b1 m1 e g p ns nb op keep fe he l c b m
 | ne f fs=>cases O with
  | st sh R=>cases R with
   | kp s1=>exact h21ke sh s1 e g p ns nb op keep fe he l c f fs b m
   | en y=>exact h21xe sh y e g p ns nb op keep fe he l c f fs b m
  | an s1 b1 m1=>exact h21ae s1 b1 m1 e g p ns nb op keep fe he l c f fs b m
def askOf(m:Msg):Ask:=(m.src,m.num)
def isAsk(m:Msg)(a:Ask):Bool:=decide (a.1=m.src)&&decide (a.2=m.num)
def afS(s:ES)(m:Msg):ES:=bif decide (s.p.phase=1)&&s.p.fresh then {s with p:=rsP1 s.p m}else beginS {s with p:=rsP1 s.p m} true
def askS(s:ES)(m:Msg):ES:=bif s.l.any (isAsk m)then s else {s with l:=s.l++[askOf m]}
def isNo(s:ES)(m:Msg):Bool:=!decide (s.p.reset<m.num)&&s.l.isEmpty && !(decide (s.p.phase=1)&&s.p.fresh)
def h21P(s:ES)(m:Msg):ES × List Msg:=
 bif isNo s m then(s,[wasMg (askOf m)])
 else bif decide (s.p.reset<m.num)then endQ (afS (askS s m) m)else(askS s m,[])
def RofE(s:ES):RH:=bif mayE s then .en (wrE s (endP s).1 (endP s).2)else .kp s
theorem SubB.trans{x y z:BS}(h:SubB x y)(h':SubB y z):SubB x z:=⟨h'.non.trans h.non,h'.lv.trans h.lv,h'.mt.trans h.mt,fun w I φ B o sz a=>h'.rb w I φ B o sz (h.rb w I φ B o sz a),fun a=>h'.ph (h.ph a)⟩
theorem SubH.trans{x y z:Heap}(h:SubH x y)(h':SubH y z):SubH x z:=⟨h.1.trans h'.1,fun b=>(h.2 b).trans (h'.2 b)⟩
theorem SubH.dd{sh:Bool}{x y:List BS}(h:SubH x y):SubH (dd sh x) (dd sh y):=by
 cases sh with
 | false=>exact h
 | true=>exact .cons (.refl _) h
def hpL(s:ES)(P W:List AV)(sh:Bool)(l:List Ask):Heap:=hpR s P W (.sl 31 (3+sft sh) 0 l.length 0) .nils (dd sh [blkA l])
def QOk(q:AQ)(l:List Ask):Prop:=∀ (sh:Bool) (s:ES) (P W:List AV),SubH (q.hp sh s P W) (hpL s P W sh l)
theorem hpR_sub{s:ES}{P W W':List AV}{A A' O:AV}{B B':List BS}(h1:SubF A A')(h2:SubFs W W')(h3:SubH B B'):SubH (hpR s P W A O B) (hpR s P W' A' O B'):=by
 refine .cons (.arr1 ?_) (.cons (.refl _) (.cons (.arr1 h2) h3))
 exact .cons (.refl _) (.cons (.refl _) (.cons (.refl _) (.cons (.refl _) (.cons (.refl _) (.cons (.refl _) (.cons h1 (.refl _)))))))
theorem aqL_ok(l:List Ask):QOk (aqL l) l:=fun sh s P W=>.refl _
theorem aq1_ok(m:Msg):QOk (aq1 m) [askOf m]:=fun sh s P W=>by
 refine hpR_sub .slack (.refl _) (.dd (.cons ?_ (.refl _)))
 exact .arr_seq rfl rfl
theorem aqN_B(l:List Ask)(m:Msg):(aqN l m).B=blkA (l++[askOf m]):=by
 have e:(fun k=>bif k.blt l.length then encAsk (l.getD k (0,0))else bif k.blt (l.length+1)then [encAsk (m.src,m.num)].getD (k - l.length) []else encAsk (l.getD l.length (0,0)))=fun k=>encAsk ((l++[askOf m]).getD k (0,0)):=by
  funext k
  by_cases h:k<l.length
  ·rw[blt_true h,cond_true]
   simp[List.getD,List.getElem?_append_left h]
  ·rw[blt_false' h,cond_false]
   by_cases h':k=l.length
   ·subst h'
    rw[blt_true (by omega),cond_true]
    simp[List.getD,askOf]
   ·rw[blt_false' (by omega),cond_false]
    have h2:(l++[askOf m]).length<=k:=by simp;omega
    simp only[List.getD,List.getElem?_eq_none h2,List.getElem?_eq_none (Nat.le_refl l.length)]
 unfold aqN blkA
 dsimp only
 rw[e,List.length_append]
 rfl
theorem aqN_ok(l:List Ask)(m:Msg):QOk (aqN l m) (l++[askOf m]):=fun sh s P W=>by
 have:(aqN l m).hp sh s P W=hpL s P W sh (l++[askOf m]):=by
  unfold AQ.hp hpL
  rw[aqN_B,List.length_append]
  rfl
 rw[this];exact .refl _
theorem end_CG{s:ES}(h:EOk s)(hn:s.nb=false)(hl:s.l ≠ []){H:Heap}(hs:SubH H (hpL s (encPlan s.p) (wkA s) false s.l)):CG F_coord_desk_end A0 H (.bool (RofE s).t) ((RofE s).H false):=by
 have e0:hpL s (encPlan s.p) (wkA s) false s.l=hpEE s false:=by
  obtain⟨e,g,p,ns,nb,op,keep,fz,fe,he,l,c⟩:=s
  cases hn
  cases l with
  | nil=>exact absurd rfl hl
  | cons a t=>rfl
 have:=end_con (s:=s) (b:=false) h
 unfold oEnd at this
 rw[<- e0]at this
 have er:(RofE s).t=mayE s:=by
  unfold RofE
  cases mayE s <;> rfl
 have eH:(bif mayE s then outE (wrE s (endP s).1 (endP s).2) false else hpL s (encPlan s.p) (wkA s) false s.l)=(RofE s).H false:=by
  unfold RofE
  cases mayE s with
  | false=>obtain⟨e,g,p,ns,nb,op,keep,fz,fe,he,l,c⟩:=s;cases hn;rfl
  | true=>
   obtain⟨e,g,p,ns,nb,op,keep,fz,fe,he,l,c⟩:=s
   cases hn
   cases l with
   | nil=>exact absurd rfl hl
   | cons a t=>rfl
 rw[er,<- eH]
 refine⟨Contract.inH this.1 (.refl _) hs,?_⟩
 rw[hs.1];exact this.2
theorem EOk.l'{s:ES}(h:EOk s){l:List Ask}(hl:l.length<=1000):EOk {s with l:=l}:=⟨h.ch,h.ns,h.keep,h.fz,h.ver,h.c1,h.c2,hl⟩
theorem EOk.rs{s:ES}(h:EOk s)(m:Msg):EOk {s with p:=rsP1 s.p m}:=⟨h.ch,h.ns,h.keep,h.fz,h.ver,h.c1,h.c2,h.l⟩
theorem EOk.begin{s:ES}(h:EOk s):EOk (beginS s true):=by
 unfold beginS
 cases decide (1099511627776<=s.p.epoch)with
 | true=>exact h
 | false=>exact⟨h.ch,h.ns,Nat.zero_le _,Nat.zero_le _,(fun f hf=>by cases hf),h.c1,h.c2,h.l⟩
theorem EOk.af{s:ES}(h:EOk s)(m:Msg):EOk (afS s m):=by
 unfold afS
 cases decide (s.p.phase=1)&&s.p.fresh with
 | true=>exact h.rs m
 | false=>exact(h.rs m).begin
theorem afS_kp(s:ES)(m:Msg):(afS s m).nb=s.nb/\(afS s m).op=s.op/\(afS s m).l=s.l:=by
 unfold afS beginS
 cases decide (s.p.phase=1)&&s.p.fresh with
 | true=>exact⟨rfl,rfl,rfl⟩
 | false=>
  rw[cond_false]
  dsimp only
  cases decide (1099511627776<=(rsP1 s.p m).epoch) <;> exact⟨rfl,rfl,rfl⟩
theorem rsA_ok{sh:Bool}{q:AQ}{s:ES}{m:Msg}{l:List Ask}(h:EOk s)(hn:s.nb=false)(hq:QOk q l)(hl:l ≠ [])(hl2:l.length<=1000) :
  ∃ H,rsA (RofE (afS {s with l:=l} m)) sh q s m (decide (s.p.phase=1))=some (.tup [],H)/\SubH H ((bif decide (s.p.reset<m.num)then RofE (afS {s with l:=l} m)else .kp {s with l:=l}).H sh):=by
 have h1:=h.l' hl2
 have h3:=h1.af m
 obtain⟨k1,k2,k3⟩:=afS_kp {s with l:=l} m
 have k1:(afS {s with l:=l} m).nb=false:=k1.trans hn
 have k3:(afS {s with l:=l} m).l=l:=k3
 unfold rsA
 cases decide (s.p.reset<m.num)with
 | false=>exact⟨_,rfl,hq sh s (encPlan s.p) (wkA s)⟩
 | true=>
  rw[Bool.not_true,cond_false,cond_true]
  have core:∀ (p:Plan) (W:List AV),SubH (q.hp false s (encPlan p) W) (hpL (afS {s with l:=l} m) (encPlan (afS {s with l:=l} m).p) (wkA (afS {s with l:=l} m)) false (afS {s with l:=l} m).l) ->
    ∃ H,rsT (RofE (afS {s with l:=l} m)) sh q s p W=some (.tup [],H)/\SubH H ((RofE (afS {s with l:=l} m)).H sh):=by
   intro p W hs
   have e:=end_CG h3 k1 (by rw[k3];exact hl) hs
   unfold rsT
   rw[gCon_eq e]
   exact⟨_,rfl,.refl _⟩
  have hS:∀ (p:Plan) (W:List AV) (s3:ES),s3.e=s.e->s3.g=s.g->s3.ns=s.ns->s3.c=s.c->s3.p=p->s3.l=l->s3.op=s.op->SubFs W (wkA s3)->SubH (q.hp false s (encPlan p) W) (hpL s3 (encPlan s3.p) (wkA s3) false s3.l):=by
   intro p W s3 a1 a2 a3 a4 a5 a6 a8 a7
   refine(hq false s (encPlan p) W).trans ?_
   unfold hpL hpR
   rw[a1,a2,a3,a4,a5,a6,a8]
   exact .cons (.refl _) (.cons (.refl _) (.cons (.arr1 a7) (.refl _)))
  have hB:(decide (s.p.phase=1)&&s.p.fresh)=false -> ∃ H,rsB (RofE (afS {s with l:=l} m)) sh q s m=some (.tup [],H)/\SubH H ((RofE (afS {s with l:=l} m)).H sh):=by
   intro hf
   have ea:afS {s with l:=l} m=beginS {s with l:=l,p:=rsP1 s.p m} true:=by
    unfold afS
    have:(decide (({s with l:=l}:ES).p.phase=1)&&({s with l:=l}:ES).p.fresh)=false:=hf
    rw[this];rfl
   unfold rsB
   cases hM:decide (1099511627776<=s.p.epoch)with
   | true=>
    have ea2:afS {s with l:=l} m={s with l:=l,p:=rsP1 s.p m}:=by
     rw[ea];unfold beginS
     have:decide (1099511627776<=({s with l:=l,p:=rsP1 s.p m}:ES).p.epoch)=true:=hM
     rw[this];rfl
    refine core _ _ (hS _ _ _ ?_ ?_ ?_ ?_ ?_ ?_ ?_ ?_) <;> rw[ea2]
    exact .refl _
   | false=>
    have ea2:afS {s with l:=l} m=wkS {s with l:=l,p:=rsP1 s.p m} (begP (rsP1 s.p m) true) []:=by
     rw[ea];unfold beginS
     have:decide (1099511627776<=({s with l:=l,p:=rsP1 s.p m}:ES).p.epoch)=false:=hM
     rw[this];rfl
    refine core _ _ (hS _ _ _ ?_ ?_ ?_ ?_ ?_ ?_ ?_ ?_) <;> rw[ea2]
    ·rfl
    ·rfl
    ·rfl
    ·rfl
    ·rfl
    ·rfl
    ·rfl
    ·exact wk0_subF _ _
  have hT:(decide (s.p.phase=1)&&s.p.fresh)=true -> ∃ H,rsT (RofE (afS {s with l:=l} m)) sh q s (rsP1 s.p m) (wkA s)=some (.tup [],H)/\SubH H ((RofE (afS {s with l:=l} m)).H sh):=by
   intro hf
   have ea2:afS {s with l:=l} m={s with l:=l,p:=rsP1 s.p m}:=by
    unfold afS
    have:(decide (({s with l:=l}:ES).p.phase=1)&&({s with l:=l}:ES).p.fresh)=true:=hf
    rw[this];rfl
   refine core _ _ (hS _ _ _ ?_ ?_ ?_ ?_ ?_ ?_ ?_ ?_) <;> rw[ea2]
   exact .refl _
  cases hp:decide (s.p.phase=1)with
  | false=>
   rw[hp]at hB
   exact hB rfl
  | true=>
   rw[hp]at hB hT
   rw[cond_true]
   unfold rsE
   cases hfr:s.p.fresh with
   | false=>rw[hfr]at hB;exact hB rfl
   | true=>rw[hfr]at hT;exact hT rfl
def shO(s:ES)(b:Bool)(m:Msg):Bool:=bif s.l.isEmpty then b else !s.l.any (isAsk m)
def h21O(s:ES)(b:Bool)(m:Msg):RsO:=bif isNo s m then .an s b m else .st (shO s b m) (bif decide (s.p.reset<m.num)then RofE (afS (askS s m) m)else .kp (askS s m))
theorem reset_0{s:ES}{b:Bool}{m:Msg}(h:EOk s)(hn:s.nb=false)(hl:s.l=[]):CG F_coord_desk_reset (A1 m) (hpR s (encPlan s.p) (wkA s) (qE b 3) .nils (bE b)) (.tup []) (h21O s b m).H:=by
 have ha:askS s m={s with l:=[askOf m]}:=by
  unfold askS;rw[hl];rfl
 obtain⟨H,r1,r2⟩:=rsA_ok (sh:=b) h hn (aq1_ok m) (List.cons_ne_nil _ _) (by simp)
 rw[<- ha]at r1 r2
 have e:=rs_0 (RofE (afS (askS s m) m)) s b m
 have hsh:shO s b m=b:=by unfold shO;rw[hl];rfl
 have k1:isNo s m=false->(h21O s b m).H=(bif decide (s.p.reset<m.num)then RofE (afS (askS s m) m)else .kp (askS s m)).H b:=by
  intro hi
  unfold h21O
  rw[hi,hsh];rfl
 have k2:isNo s m=true->(h21O s b m).H=hpN1 s b m:=by
  intro hi
  unfold h21O
  rw[hi];rfl
 have fin1:isNo s m=false->callH (envK2 (kn52 (RofE (afS (askS s m) m)))) 20 F_coord_desk_reset (A1 m) (hpR s (encPlan s.p) (wkA s) (qE b 3) .nils (bE b))=some (.tup [],H)->CG F_coord_desk_reset (A1 m) (hpR s (encPlan s.p) (wkA s) (qE b 3) .nils (bE b)) (.tup []) (h21O s b m).H:=by
  intro hi he
  have:=conK2H (kn52_ok _) he
  rw[k1 hi]
  exact⟨Contract.outH this.1 r2,by rw[<- r2.1];exact this.2⟩
 have fin2:isNo s m=true->callH (envK2 (kn52 (RofE (afS (askS s m) m)))) 20 F_coord_desk_reset (A1 m) (hpR s (encPlan s.p) (wkA s) (qE b 3) .nils (bE b))=rsN s b m->CG F_coord_desk_reset (A1 m) (hpR s (encPlan s.p) (wkA s) (qE b 3) .nils (bE b)) (.tup []) (h21O s b m).H:=by
  intro hi he
  have:=conK2H (kn52_ok _) he
  rw[k2 hi]
  exact this
 have hN:isNo s m=(!decide (s.p.reset<m.num) && !(decide (s.p.phase=1)&&s.p.fresh)):=by
  unfold isNo;rw[hl]
  cases decide (s.p.reset<m.num) <;> rfl
 cases hp:decide (s.p.phase=1)with
 | true=>
  rw[hp,cond_true]at e
  rw[hp]at r1
  cases hab:decide (s.p.reset<m.num)with
  | true=>
   rw[hab]at e
   exact fin1 (by rw[hN,hab];rfl) (e.trans r1)
  | false=>
   rw[hab]at e
   cases hfr:s.p.fresh with
   | false=>
    rw[hfr]at e
    exact fin2 (by rw[hN,hab,hp,hfr];rfl) e
   | true=>
    rw[hfr]at e
    exact fin1 (by rw[hN,hab,hp,hfr];rfl) (e.trans r1)
 | false=>
  rw[hp,cond_false]at e
  rw[hp]at r1
  cases hab:decide (s.p.reset<m.num)with
  | true=>
   rw[hab]at e
   exact fin1 (by rw[hN,hab];rfl) (e.trans r1)
  | false=>
   rw[hab]at e
   exact fin2 (by rw[hN,hab,hp];rfl) e
theorem rs_run(R:RH)(N:Nat)(s:ES)(m:Msg)(hl:s.l.length<=1000):∀ d i j (sm:Bool),i+d=s.l.length->d<j->LRs R N s m j true sm (i:Nat)=rsZ R s m (sm||(s.l.drop i).any (isAsk m)):=by
 intro d
 induction d with
 | zero=>
  intro i j sm hi hj
  obtain⟨j,rfl⟩:∃ k,j=k+1:=⟨j - 1,by omega⟩
  rw[rs_st,decide_eq_false (by omega),cond_false,List.drop_eq_nil_of_le (by omega),List.any_nil,Bool.or_false]
 | succ d ih=>
  intro i j sm hi hj
  obtain⟨j,rfl⟩:∃ k,j=k+1:=⟨j - 1,by omega⟩
  have hil:i<s.l.length:=by omega
  rw[rs_st,decide_eq_true (by omega),cond_true,rg_eq hil,Int.toNat_natCast,Nat.zero_add,blt_true hil,cond_true,wrapS (by omega),drop_cons (z:=(0,0)) hil,List.any_cons]
  have i1:=fun sm=>ih (i+1) j sm (by omega) (by omega)
  cases sm with
  | true=>rw[cond_true,i1,Bool.true_or,Bool.true_or]
  | false=>
   rw[cond_false,Bool.false_or]
   unfold isAsk at i1 ⊢
   cases decide ((s.l.getD i (0,0)).1=m.src)with
   | false=>rw[cond_false,i1,Bool.false_and]
   | true=>rw[cond_true,i1,Bool.true_and]
theorem rs_run0(R:RH)(N:Nat)(s:ES)(m:Msg)(hl:s.l.length<=1000)(hne:s.l ≠ [])(hN:s.l.length<=N):callH (envK2 (kn52 R)) (N+10) F_coord_desk_reset (A1 m) (hpQ2 s)=rsW R s m (s.l.any (isAsk m)) (decide (s.p.phase=1)):=by
 have hp:0<s.l.length:=List.length_pos_iff.2 hne
 have hz:∀ sm,rsZ R s m sm=rsW R s m sm (decide (s.p.phase=1)):=by
  intro sm
  unfold rsZ
  cases decide (s.p.phase=1) <;> cases decide (s.p.reset<m.num) <;> rfl
 have h0:s.l.any (isAsk m)=(isAsk m (s.l.getD 0 (0,0))||(s.l.drop 1).any (isAsk m)):=by
  have:=drop_cons (z:=(0,0)) hp
  rw[List.drop_zero]at this
  conv=>lhs;rw[this]
  rw[List.any_cons]
 have r:=fun sm=>rs_run R N s m hl (s.l.length - 1) 1 (N+8) sm (by omega) (by omega)
 have e1:IntKind.i64.wrap ((0:Int)+1)=((1:Nat):Int):=by decide
 rw[rs_in,rs_st0,decide_eq_true (by omega),cond_true]
 have e2:∀ K:Option (AV × Heap),rg (0:Int) s.l.length K=K:=fun K=>rg_eq (i:=0) hp
 rw[e2,show(0+(0:Int).toNat)=0 from rfl,blt_true hp,cond_true,e1,r,r,hz,hz,h0]
 unfold isAsk
 cases decide ((s.l.getD 0 (0,0)).1=m.src)with
 | false=>rw[cond_false,Bool.false_and]
 | true=>rw[cond_true,Bool.true_and]
theorem reset_n{s:ES}{b:Bool}{m:Msg}(h:EOk s)(hn:s.nb=false)(hl:s.l ≠ [])(hlt:s.l.length<1000):CG F_coord_desk_reset (A1 m) (hpQ2 s) (.tup []) (h21O s b m).H:=by
 have he:s.l.isEmpty=false:=by cases hx:s.l with
  | nil=>exact absurd hx hl
  | cons a t=>rfl
 have hi:isNo s m=false:=by unfold isNo;rw[he,Bool.and_false,Bool.false_and]
 have hO:(h21O s b m).H=(bif decide (s.p.reset<m.num)then RofE (afS (askS s m) m)else .kp (askS s m)).H (!s.l.any (isAsk m)):=by
  unfold h21O shO
  rw[hi,he];rfl
 have e:=rs_run0 (RofE (afS (askS s m) m)) 1000 s m (by omega) hl (by omega)
 rw[hO]
 unfold rsW at e
 cases hsm:s.l.any (isAsk m)with
 | true=>
  have ha:askS s m=s:=by unfold askS;rw[hsm];rfl
  obtain⟨H,r1,r2⟩:=rsA_ok (sh:=false) (m:=m) h hn (aqL_ok s.l) hl (by omega)
  have es:({s with l:=s.l}:ES)=s:=rfl
  rw[hsm,ha]at e
  have:=conK2H (kn52_ok _) (e.trans r1)
  rw[ha]
  exact⟨Contract.outH this.1 r2,by rw[show(!true)=false from rfl,<- r2.1];exact this.2⟩
 | false=>
  have ha:askS s m={s with l:=s.l++[askOf m]}:=by unfold askS;rw[hsm];rfl
  obtain⟨H,r1,r2⟩:=rsA_ok (sh:=true) (m:=m) h hn (aqN_ok s.l m) (by simp) (by rw[List.length_append];simp;omega)
  rw[hsm,ha,Bool.not_false,cond_true,room1_eq (by omega) (by omega)]at e
  have:=conK2H (kn52_ok _) (e.trans r1)
  rw[ha]
  exact⟨Contract.outH this.1 r2,by rw[show(!false)=true from rfl,<- r2.1];exact this.2⟩
theorem fin_kpE(s:ES)(sh:Bool):fin ((RH.kp s).H sh)=bif gU0 s.l.length&&true&&true then some (.tup [.agg [.int .i64 s.e,.int .i64 s.g,.trl 8 [encPlan s.p],encAlives s.ns,.trl 4 [wkA s],opV s.op,encAsks s.l],.nils])else none:=by
 obtain⟨e,g,p,ns,nb,op,keep,fz,fe,he,l,c⟩:=s
 cases sh <;> cases fz <;> rfl
theorem fin_kp(s:ES)(sh:Bool):∃ v,fin ((RH.kp s).H sh)=some v/\SubV v (ansB (s,[])):=by
 have e:=fin_kpE s sh
 rw[gU0_eq]at e
 exact⟨_,e,.tup (.cons (.refl _) (.cons nilsL .nil))⟩
theorem fin_enE(y:WR)(sh:Bool):fin ((RH.en y).H sh)=bif true&&(gUL (y.l.length+1)&&true)then some (.tup [.agg [.int .i64 y.e,.int .i64 y.g,.trl 8 [encPlan y.p],encAlives y.ns,.trl 4 [wk0],opV y.op,.tr 31 0 fun i=>bif(i+0).blt (0+y.l.length)then zMsgC else encAsk (y.l.getD (i+0) (0,0))],.tr 31 (y.l.length+1) fun i=>canF idC [] (actC y.p::y.l.map ansC) (i+0)])else none:=by
 obtain⟨e,g,p,ns,nb,op,l,c⟩:=y
 cases sh <;> rfl
theorem fin_en(s:ES)(g:Int)(p:Plan)(sh:Bool):∃ v,fin ((RH.en (wrE s g p)).H sh)=some v/\SubV v (ansB ({s with g:=g,p:=p,fe:=false,keep:=[],fz:=.nil,he:=false,l:=[]},outMs p s.l)):=by
 have e:=fin_enE (wrE s g p) sh
 rw[gUL_eq]at e
 have hw:SubV (.trl 4 [wk0]) (.trl 4 [wkA {s with g:=g,p:=p,fe:=false,keep:=[],fz:=.nil,he:=false,l:=[]}]):=one_trl (wk0_sub _ rfl rfl rfl rfl)
 refine⟨_,e,.tup (.cons (.agg (.cons (.refl _) (.cons (.refl _) (.cons (.refl _) (.cons (.refl _) (.cons hw (.cons (.refl _) (.cons ?_ .nil)))))))) (.cons (outs_sub p s.l) .nil))⟩
 exact SubV.trs fun i hi=>absurd hi (Nat.not_lt_zero i)
theorem fin_an{s:ES}{b:Bool}{m:Msg}(hl:s.l=[]):∃ v,fin (hpN1 s b m)=some v/\SubV v (ansB (s,[wasMg (askOf m)])):=by
 refine⟨.tup [.agg [.int .i64 s.e,.int .i64 s.g,.trl 8 [encPlan s.p],encAlives s.ns,.trl 4 [wkA s],opV s.op,aqV b],.trl 31 [ansC (askOf m)]],?_,?_⟩
 ·obtain⟨e,g,p,ns,nb,op,keep,fz,fe,he,l,c⟩:=s
  cases b <;> cases fz <;> rfl
 ·have hq:SubV (aqV b) (encAsks s.l):=by rw[hl];exact aqV_ask b
  refine .tup (.cons (.agg (.cons (.refl _) (.cons (.refl _) (.cons (.refl _) (.cons (.refl _) (.cons (.refl _) (.cons (.refl _) (.cons hq .nil)))))))) (.cons ?_ .nil))
  exact SubV.trans (one_trl (was_sub _)) (SubV.trl_encL (e:=encMsg) (z:=default) [wasMg (askOf m)])
theorem fin_O21{s:ES}{b:Bool}{m:Msg}:∃ v,fin (h21O s b m).H=some v/\SubV v (ansB (h21P s m)):=by
 unfold h21O h21P
 cases hi:isNo s m with
 | true=>
  have hl:s.l=[]:=by
   unfold isNo at hi
   rw[Bool.and_eq_true,Bool.and_eq_true]at hi
   exact List.isEmpty_iff.1 hi.1.2
  exact fin_an hl
 | false=>
  rw[cond_false,cond_false]
  cases decide (s.p.reset<m.num)with
  | false=>exact fin_kp _ _
  | true=>
   rw[cond_true,cond_true]
   unfold RofE endQ
   cases mayE (afS (askS s m) m)with
   | false=>exact fin_kp _ _
   | true=>exact fin_en _ _ _ _
theorem gBuX1_eq{R:Type}{s:ES}{b:Bool}{K:Plan->List Alive->List Member->AV->AV->List BS->Option R}(h:HOk s):gBuX1 s b K=match s.l with
  | []=>K s.p s.ns s.keep (fzV s.fz) (qE b 3) (bE b)
  | _::_=>K s.p s.ns s.keep (fzV s.fz) (.sl 31 3 0 s.l.length 0) [blkA s.l]:=by
 have h1:=h.eok.ch
 have h2:=h.val
 have h3:=h.eok.ns
 have h4:=h.eok.keep
 unfold gBuX1
 rw[gMs_eq _ (by unfold shortL LB;omega),gMs_eq _ (by unfold shortL LB;omega),gAls_eq h3,gMs_eq _ (by unfold shortL LB;omega),gFzV_eq h.eok.fz h.cp,gOp_eq h.op]
 unfold gAkX
 cases hx:s.l with
 | nil=>rfl
 | cons a t=>
  have hl:=h.eok.l
  rw[hx]at hl
  have hp:pAk (a::t):=⟨Nat.le_trans hl (by omega),List.cons_ne_nil _ _⟩
  exact qAk (k:=fun y=>K s.p s.ns s.keep (fzV s.fz) (.sl 31 3 0 y.length 0) [blkA y]) hp
theorem h21_con{s:ES}{m:Msg}(h:HOk s)(hf:s.fz ≠ .emp)(hl:s.l.length<1000):Contract PG F_coord_Handle [.agg (buT s),.agg (encCf s.c),.agg (encMsg (kM m 21))] [] (ansB (h21P s m)) []:=con_bu fun b=>by
 have e:=h21 (h21O s b m) s b m hf
 unfold eqH21 at e
 obtain⟨v,f1,f2⟩:=fin_O21 (s:=s) (b:=b) (m:=m)
 rw[gBuX1_eq h]at e
 cases hx:s.l with
 | nil=>
  have c:=reset_0 (b:=b) (m:=m) h.eok h.nb hx
  rw[hx]at e
  have e:callT (env53 (kn53 (h21O s b m) s.op)) 20 F_coord_Handle [.agg (buV s b),.agg (encCf s.c),.agg (encMsg (kM m 21))]=gCon F_coord_desk_reset (A1 m) (hpR s (encPlan s.p) (wkA s) (qE b 3) .nils (bE b)) (.tup []) (h21O s b m).H (fin (h21O s b m).H):=e
  rw[gCon_eq c,f1]at e
  exact(con53 (kn53_ok _ _) e).res f2
 | cons a t=>
  have hne:s.l ≠ []:=by rw[hx];exact List.cons_ne_nil _ _
  have c:=reset_n (b:=b) (m:=m) h.eok h.nb hne hl
  have e:callT (env53 (kn53 (h21O s b m) s.op)) 20 F_coord_Handle [.agg (buV s b),.agg (encCf s.c),.agg (encMsg (kM m 21))]=gCon F_coord_desk_reset (A1 m) (hpQ2 s) (.tup []) (h21O s b m).H (fin (h21O s b m).H):=by
   rw[e]
   have:∀ (A B:Option AV),(match s.l with | []=>A | _::_=>B)=B:=by rw[hx];exact fun A B=>rfl
   exact this _ _
  rw[gCon_eq c,f1]at e
  exact(con53 (kn53_ok _ _) e).res f2
def kMsgOC(r:AV)(H:Heap):Known:={f:=F_twin_Msgs,ans:=fun args hp=>match isTn (args.getD 0 .undef)with
 | true=>(kCon F_twin_Msgs r H).ans args hp
 | false=>kMsgX.ans args hp}
theorem kMsgOC_ok(r:AV)(H:Heap):(kMsgOC r H).Ok PG:=by
 intro args hp A e hg
 unfold kMsgOC at e
 simp only[]at e
 cases hE:isTn (args.getD 0 .undef)with
 | true=>rw[hE]at e;exact kCon_ok _ _ _ args hp A e hg
 | false=>rw[hE]at e;exact kMsgX_ok args hp A e hg
def knO1(r:AV)(H:Heap):List Known:=[kMsgOC r H,kCloneAlive,kCloneMember]
theorem knO1_ok(r:AV)(H:Heap):∀ k ∈ knO1 r H,k.Ok PG:=ak (kMsgOC_ok r H) (ak kCloneAlive_ok (ak kCloneMember_ok ank))
def buO(s:ES)(O:AV)(b:Bool):List AV:=[.int .i64 s.e,.int .i64 s.g,.trl 8 [encPlan s.p],encAlives s.ns,.trl 4 [wkA s],O,akAV s.l b]
def opMg(k f t g s n:Int):Msg:={msgZ with kind:=k,src:=f,dst:=t,gen:=g,sess:=s,num:=n}
def opC(k f t g s n:Int):List AV:=[.int .i64 k,.int .i64 f,.int .i64 t,.int .i64 0,.int .i64 0,.int .i64 0,.int .i64 0,.int .i64 g,.int .i64 s,.int .i64 n,.int .i64 0,.int .i64 0,.bool false,.bool false,.str [],.str [],.cplx .f64 0 0,.cplx .f64 0 0,.int .i64 0,.str [],.str [],.str [],.bool false,.nils,.nils,.nils,.cplx .f64 0 0,.cplx .f64 0 0,.int .i64 0,.nils,.nils]
theorem op_sub(k f t g s n:Int):SubC (opC k f t g s n) (encMsg (opMg k f t g s n)):=subC_all (by repeat' (first | exact trivial | exact nilsL | exact SubV.refl _ | refine⟨?_,?_⟩))
def up1(s:ES):Int:=IntKind.i64.wrap (s.e+1)
def givM(s:ES)(m:Msg):Msg:=opMg 0 m.src 0 s.g (up1 s) m.num
def repM(m:Msg)(g n:Int):Msg:=opMg 2 1 m.src g n m.num
def givR(s:ES)(m:Msg)(rest:List Msg):ES × List Msg:=bif decide (s.e<s.c.sess)then({s with e:=up1 s,op:=rest++[givM s m]},[repM m s.g (up1 s)])else(s,[repM m s.g 0])
def opR(s:ES)(m:Msg):List Msg->List Msg->ES × List Msg
 | pre,[]=>givR s m pre
 | pre,a::r=>bif decide (a.src=m.src)then bif decide (a.num=m.num)then(s,[repM m a.gen a.sess])else givR s m (pre++r)else opR s m (pre++[a]) r
def h1P(s:ES)(m:Msg):ES × List Msg:=opR s m [] s.op
def LfT:Type:=Int->AV->List AV->Option AV
def givL(L:LfT)(s:ES)(m:Msg)(rest:List Msg)(cur:AV):Option AV:=bif decide (s.e<s.c.sess)then L (up1 s) (.trl 31 (rest.map encMsg++[opC 0 m.src 0 s.g (up1 s) m.num])) (opC 2 1 m.src s.g (up1 s) m.num)else L s.e cur (opC 2 1 m.src s.g 0 m.num)
def opL(L:LfT)(s:ES)(m:Msg)(cur:AV):List Msg->List Msg->Option AV
 | pre,[]=>givL L s m pre cur
 | pre,a::r=>bif decide (a.src=m.src)then bif decide (a.num=m.num)then L s.e cur (opC 2 1 m.src a.gen a.sess m.num)else givL L s m (pre++r) cur else opL L s m cur (pre++[a]) r
def gAkO(l:List Ask)(b:Bool)(K:AV->(Option AV->Option AV)->Option AV):Option AV:=match l with
 | []=>K (aqV b) id
 | a::t=>gC dAk pAk eAk [encAsks (a::t)] fun y=>K (encAsks y) fun r=>bif gU0 y.length&&true&&true then r else none
inductive OpF where
 | nil | emp | ne (l:List Msg)
def OpF.av:OpF->AV
 | .nil=>.nils
 | .emp=>.trl 31 []
 | .ne l=>opV l
def OpF.cur:OpF->AV
 | .nil=>.nils
 | .emp=>.trl 31 []
 | .ne l=>.trl 31 (l.map encMsg)
def OpF.l:OpF->List Msg
 | .ne l=>l
 | _=>[]
def OpF.r:OpF->AV
 | .ne l=>.sl 31 0 0 l.length l.length
 | _=>.nils
def OpF.H:OpF->Heap
 | .ne l=>[.arr true 31 (l.map encMsg)]
 | _=>[]
def OpF.g(o:OpF)(K:Option AV):Option AV:=match o with
 | .ne l=>gCon F_twin_Msgs [opV l] [] o.r o.H K
 | _=>K
def eqH1(o:OpF)(s:ES)(b:Bool)(m:Msg):Prop:=callT (envK2 (knO1 o.r o.H)) 40 F_coord_Handle [.agg (buO s o.av b),.agg (encCf s.c),.agg (encMsg (kM m 1))] =
 gMs s.p.chain fun y0=>gMs s.p.valid fun y1=>gAls s.ns fun y2=>gMs s.keep fun y3=>gFzV s.fz fun F=>o.g <| gAkO s.l b fun A G=>
  opL (fun e' O' r=>G (some (.tup [.agg [.int .i64 e',.int .i64 s.g,.trl 8 [encPlan {s.p with chain:=y0,valid:=y1}],encAlives y2,.trl 4 [[.bool s.fe,encMembers y3,F,.bool s.he]],O',A],.trl 31 [r]]))) s m o.cur [] o.l
theorem h1_0(s:ES)(b:Bool)(m:Msg)(hf:s.fz ≠ .emp):eqH1 .nil s b m/\eqH1 .emp s b m:=by
 obtain⟨e,g,p,ns,nb,op,keep,fz,fe,he,l,c⟩:=s
 cases fz with
 | emp=>exact absurd rfl hf
 | nil=>cases l <;> cases b <;> exact⟨(by unfold eqH1;kernel_rfl),(by unfold eqH1;kernel_rfl)⟩
 | ne f fs=>cases l <;> cases b <;> exact⟨(by unfold eqH1;kernel_rfl),(by unfold eqH1;kernel_rfl)⟩
theorem h1_1(s:ES)(b:Bool)(m a:Msg)(hf:s.fz ≠ .emp):eqH1 (.ne [a]) s b m:=by
 obtain⟨e,g,p,ns,nb,op,keep,fz,fe,he,l,c⟩:=s
 cases fz with
 | emp=>exact absurd rfl hf
 | nil=>cases l <;> cases b <;> (unfold eqH1;kernel_rfl)
 | ne f fs=>cases l <;> cases b <;> (unfold eqH1;kernel_rfl)
theorem h1_2(s:ES)(b:Bool)(m a1 a2:Msg)(hf:s.fz ≠ .emp):eqH1 (.ne [a1,a2]) s b m:=by
 obtain⟨e,g,p,ns,nb,op,keep,fz,fe,he,l,c⟩:=s
 cases fz with
 | emp=>exact absurd rfl hf
 | nil=>cases l <;> cases b <;> (unfold eqH1;kernel_rfl)
 | ne f fs=>cases l <;> cases b <;> (unfold eqH1;kernel_rfl)
theorem h1_3(s:ES)(b:Bool)(m a1 a2 a3:Msg)(hf:s.fz ≠ .emp):eqH1 (.ne [a1,a2,a3]) s b m:=by
 obtain⟨e,g,p,ns,nb,op,keep,fz,fe,he,l,c⟩:=s
 cases fz with
 | emp=>exact absurd rfl hf
 | nil=>cases l <;> cases b <;> (unfold eqH1;kernel_rfl)
 | ne f fs=>cases l <;> cases b <;> (unfold eqH1;kernel_rfl)
theorem SubB.seq_arr{m:Bool}{sz n:Nat}{f:Nat->List AV}{es:List (List AV)}(hn:es.length=n)(h0:0<n)(h:∀ (i:Nat) cs,es[i]? = some cs->cs=f i):SubB (.seq m sz n f) (.arr m sz es):=by
 refine⟨⟨(fun e=>by cases e),(fun e=>by cases e)⟩,rfl,rfl,fun w I φ B o s ⟨h0,h1,h2,h3⟩=>⟨h0,h1,fun i cs e=>?_,fun i cs k c e e'=>?_⟩,fun x=>?_⟩
 ·have hi:i<n:=by rw[<- hn];exact(List.getElem?_eq_some_iff.1 e).1
  rw[h i cs e];exact h2 i hi
 ·have hi:i<n:=by rw[<- hn];exact(List.getElem?_eq_some_iff.1 e).1
  rw[h i cs e]at e'
  obtain⟨u,a1,a2,a3⟩:=h3 i k c hi e'
  exact⟨u,a1,a2,a3.mono (fun B hB=>⟨hB,rfl⟩) (fun B=>Nat.le_refl _) (fun b v hv=>by cases hv)⟩
 ·have:n=0:=x
  omega
theorem opA_con(l:List Msg)(h:pOp l)(hl:l ≠ []):CG F_twin_Msgs [opV l] [] (OpF.ne l).r (OpF.ne l).H:=by
 have hn:0<l.length:=List.length_pos_iff.2 hl
 refine⟨Contract.outH (Contract.resF (opB_con l h) (SubF.unsn hn)) (.cons (.seq_arr (by simp) hn fun i cs e=>?_) (.refl _)),Nat.zero_le _⟩
 rw[List.getElem?_map]at e
 unfold sO List.getD
 cases hx:l[i]? with
 | none=>rw[hx]at e;cases e
 | some a=>rw[hx]at e;cases e;rfl
theorem OrV.tn0{sz:Nat}{f:Nat->List AV}:OrV (.tn sz 0 f) .nils (.trl sz []):=fun w I u h=>OrV.nil w I u (tn_tr w I u h)
theorem opV_of{es:List (List AV)}{l:List Msg}(hl:es.length=l.length)(h:∀ i,i<l.length->SubC (es.getD i []) (encMsg (l.getD i default))):SubV (.trl 31 es) (opV l):=by
 have:=SubV.tr (sz:=31) (es:=es) (f:=fun i=>encMsg (l.getD i default)) (fun i hi=>h i (by omega))
 rw[hl]at this
 exact this.trans tr_tn
theorem opV_map(l:List Msg):SubV (.trl 31 (l.map encMsg)) (opV l):=opV_of (by simp) fun i hi=>by
 simp[List.getD,hi];exact .refl _
theorem opV_nils:SubV .nils (opV []):=SubV.trans SubV.nils tr_tn
def lfO(s:ES)(A:AV):LfT:=fun e' O' r=>some (.tup [.agg [.int .i64 e',.int .i64 s.g,.trl 8 [encPlan s.p],encAlives s.ns,.trl 4 [wkA s],O',A],.trl 31 [r]])
theorem givL_ok{s:ES}{m:Msg}{A cur:AV}{rest:List Msg}(hc:SubV cur (opV s.op))(ha:SubV A (encAsks s.l)):∃ v,givL (lfO s A) s m rest cur=some v/\SubV v (ansB (givR s m rest)):=by
 have hr:∀ g n,SubV (.trl 31 [opC 2 1 m.src g n m.num]) (encMsgs [repM m g n]):=fun g n=>SubV.trans (one_trl (op_sub _ _ _ _ _ _)) (SubV.trl_encL (e:=encMsg) (z:=default) [repM m g n])
 unfold givL givR
 cases decide (s.e<s.c.sess)with
 | false=>exact⟨_,rfl,.tup (.cons (.agg (.cons (.refl _) (.cons (.refl _) (.cons (.refl _) (.cons (.refl _) (.cons (.refl _) (.cons hc (.cons ha .nil)))))))) (.cons (hr _ _) .nil))⟩
 | true=>
  refine⟨_,rfl,.tup (.cons (.agg (.cons (.refl _) (.cons (.refl _) (.cons (.refl _) (.cons (.refl _) (.cons (.refl _) (.cons ?_ (.cons ha .nil)))))))) (.cons (hr _ _) .nil))⟩
  refine opV_of (l:=rest++[givM s m]) (by simp) fun i hi=>?_
  rw[List.length_append,List.length_singleton]at hi
  show SubC _ (encMsg ((rest++[givM s m]).getD i default))
  by_cases h:i<rest.length
  ·simp only[List.getD,List.getElem?_append_left h,List.getElem?_append_left (show i<(rest.map encMsg).length by simpa using h),List.getElem?_map,List.getElem?_eq_getElem h]
   exact .refl _
  ·have:i=rest.length:=by omega
   subst this
   simp[List.getD]
   exact op_sub _ _ _ _ _ _
theorem opL_ok{s:ES}{m:Msg}{A cur:AV}(hc:SubV cur (opV s.op))(ha:SubV A (encAsks s.l)):∀ rest pre,∃ v,opL (lfO s A) s m cur pre rest=some v/\SubV v (ansB (opR s m pre rest)):=by
 have hr:∀ g n,SubV (.trl 31 [opC 2 1 m.src g n m.num]) (encMsgs [repM m g n]):=fun g n=>SubV.trans (one_trl (op_sub _ _ _ _ _ _)) (SubV.trl_encL (e:=encMsg) (z:=default) [repM m g n])
 intro rest
 induction rest with
 | nil=>intro pre;exact givL_ok hc ha
 | cons a r ih=>
  intro pre
  unfold opL opR
  cases decide (a.src=m.src)with
  | false=>exact ih _
  | true=>
   rw[cond_true,cond_true]
   cases decide (a.num=m.num)with
   | false=>exact givL_ok hc ha
   | true=>exact⟨_,rfl,.tup (.cons (.agg (.cons (.refl _) (.cons (.refl _) (.cons (.refl _) (.cons (.refl _) (.cons (.refl _) (.cons hc (.cons ha .nil)))))))) (.cons (hr _ _) .nil))⟩
def akE(l:List Ask)(b:Bool):AV:=match l with
 | []=>aqV b
 | _::_=>encAsks l
theorem akE_sub(l:List Ask)(b:Bool):SubV (akE l b) (encAsks l):=by
 cases l with
 | nil=>exact aqV_ask b
 | cons a t=>exact .refl _
theorem gAkO_eq{l:List Ask}{b:Bool}{K:AV->(Option AV->Option AV)->Option AV}(h:l.length<=1000):gAkO l b K=K (akE l b) id:=by
 cases l with
 | nil=>rfl
 | cons a t=>
  have hp:pAk (a::t):=⟨Nat.le_trans h (by omega),List.cons_ne_nil _ _⟩
  refine(qAk (k:=fun y=>K (encAsks y) fun r=>bif gU0 y.length&&true&&true then r else none) hp).trans ?_
  rw[gU0_eq]
  rfl
theorem h1_at{s:ES}{m:Msg}{o:OpF}(h:HOk s)(b:Bool)(ho:o.l=s.op)(hc:SubV o.cur (opV s.op))(hg:∀ K,o.g K=K)(e:eqH1 o s b m):Contract PG F_coord_Handle [.agg (buO s o.av b),.agg (encCf s.c),.agg (encMsg (kM m 1))] [] (ansB (h1P s m)) []:=by
 have h1:=h.eok.ch
 have h2:=h.val
 have h3:=h.eok.ns
 have h4:=h.eok.keep
 unfold eqH1 at e
 rw[gMs_eq _ (by unfold shortL LB;omega),gMs_eq _ (by unfold shortL LB;omega),gAls_eq h3,gMs_eq _ (by unfold shortL LB;omega),gFzV_eq h.eok.fz h.cp,hg,ho]at e
 rw[gAkO_eq h.eok.l]at e
 obtain⟨v,f1,f2⟩:=opL_ok (s:=s) (m:=m) (A:=akE s.l b) (cur:=o.cur) hc (akE_sub _ _) s.op []
 exact(conK2 (knO1_ok _ _) (e.trans f1)).res f2
theorem h1_b{s:ES}{m:Msg}(h:HOk s)(hf:s.fz ≠ .emp)(h3:s.op.length<=3)(b:Bool):Contract PG F_coord_Handle [.agg (buV s b),.agg (encCf s.c),.agg (encMsg (kM m 1))] [] (ansB (h1P s m)) []:=by
 have hne:∀ l,s.op=l->l ≠ [] -> ∀ K,(OpF.ne l).g K=K:=fun l hl h0 K=>gCon_eq (opA_con l (by rw[<- hl];exact h.op) h0)
 have key:∀ l,s.op=l->l ≠ []->eqH1 (.ne l) s b m->Contract PG F_coord_Handle [.agg (buV s b),.agg (encCf s.c),.agg (encMsg (kM m 1))] [] (ansB (h1P s m)) []:=fun l hl h0 e=>by
  have:=h1_at h b (o:=.ne l) hl.symm (by rw[hl];exact opV_map l) (hne l hl h0) e
  have hb:buO s (OpF.ne l).av b=buV s b:=by unfold buO buV;rw[hl];rfl
  rw[hb]at this
  exact this
 match hx:s.op with
 | []=>
  have e:=h1_0 s b m hf
  have c1:=h1_at h b (o:=.nil) hx.symm (by rw[hx];exact opV_nils) (fun _=>rfl) e.1
  have c2:=h1_at h b (o:=.emp) hx.symm (by rw[hx];exact opV_map []) (fun _=>rfl) e.2
  refine Contract.split ?_ c1 c2
  unfold buV buO
  rw[hx]
  exact OrC.of [] [.agg (encCf s.c),.agg (encMsg (kM m 1))] (.agg (OrC.of [.int .i64 s.e,.int .i64 s.g,.trl 8 [encPlan s.p],encAlives s.ns,.trl 4 [wkA s]] [akAV s.l b] OrV.tn0))
 | [a1]=>exact key _ hx (List.cons_ne_nil _ _) (h1_1 s b m a1 hf)
 | [a1,a2]=>exact key _ hx (List.cons_ne_nil _ _) (h1_2 s b m a1 a2 hf)
 | [a1,a2,a3]=>exact key _ hx (List.cons_ne_nil _ _) (h1_3 s b m a1 a2 a3 hf)
 | _::_::_::_::_=>rw[hx]at h3;simp at h3
theorem h1_con{s:ES}{m:Msg}(h:HOk s)(hf:s.fz ≠ .emp)(h3:s.op.length<=3):Contract PG F_coord_Handle [.agg (buT s),.agg (encCf s.c),.agg (encMsg (kM m 1))] [] (ansB (h1P s m)) []:=con_bu fun b=>h1_b h hf h3 b
end Go.Co
end
noncomputable section
open Go Go.AM Go.Md Go.Wk
namespace Go.Kp
set_option maxRecDepth 100000
set_option maxHeartbeats 400000
def hstep(x:Int)(c:UInt8):Int:=IntKind.u64.wrap (IntKind.u64.wrap ((BitVec.ofInt 64 x ^^^ BitVec.ofInt 64 (IntKind.u64.wrap (c.toNat:Int))).toNat:Int)*1099511628211)
def hsumF(s:List UInt8):Nat->Nat->Int->Int
 | 0,_,x=>x
 | d+1,i,x=>hsumF s d (i+1) (hstep x (s.getD i 0))
def hsumI(s:List UInt8):Int:=hsumF s s.length 0 14695981039346656037
def SHs(s:List UInt8)(x i:Int):St:={fr:=[(0,.str s),(3,.int .u64 x),(4,.int .i64 i)],hp:=[]}
theorem hs_in(N:Nat)(s:List UInt8):callT env0 (N+1) F_hash_Sum [.str s]=LP env0 N 0 F_hash_Sum snK 0 [] N (SHs s 14695981039346656037 0):=by kernel_rfl
theorem hs_st(N j:Nat)(s:List UInt8)(x i:Int):LP env0 N 0 F_hash_Sum snK 0 [] (j+1) (SHs s x i) =
 bif decide (i<(s.length:Int))then bif decide (0<=i)&&decide (i<(s.length:Int))then LP env0 N 0 F_hash_Sum snK 0 [] j (SHs s (hstep x (s.getD i.toNat 0)) (IntKind.i64.wrap (i+1)))else none else some (.int .u64 x):=by kernel_rfl
theorem hs_con(s:List UInt8)(h:s.length<=100000):Contract PG F_hash_Sum [.str s] [] (.int .u64 (hsumI s)) []:=by
 obtain⟨N,hN⟩:∃ N,N=200000:=⟨_,rfl⟩
 have run:∀ d i j x,i+d=s.length->d<j->LP env0 N 0 F_hash_Sum snK 0 [] j (SHs s x (i:Nat))=some (.int .u64 (hsumF s d i x)):=by
  intro d
  induction d with
  | zero=>
   intro i j x hi hj
   obtain⟨j,rfl⟩:∃ k,j=k+1:=⟨j - 1,by omega⟩
   rw[hs_st,decide_eq_false (by omega),cond_false];rfl
  | succ d ih=>
   intro i j x hi hj
   obtain⟨j,rfl⟩:∃ k,j=k+1:=⟨j - 1,by omega⟩
   have e:=ih (i+1) j (hstep x (s.getD i 0)) (by omega) (by omega)
   rw[hs_st,decide_eq_true (by omega:(i:Int)<(s.length:Int)),decide_eq_true (by omega:(0:Int)<=(i:Int)),Bool.true_and,cond_true,cond_true,Int.toNat_natCast,wrapS (by omega)]
   exact e
 exact con0 ((hs_in N s).trans (run s.length 0 N _ (by omega) (by omega)))
def dStr(a:List AV):List UInt8:=match a.getD 0 .undef with
 | .str s=>s
 | _=>[]
def pStr(s:List UInt8):Prop:=s.length<=100000
def eStr(s:List UInt8):List AV:=[.str s]
def kSum:Known:=.spec F_hash_Sum dStr pStr eStr (fun s=>.int .u64 (hsumI s))
theorem kSum_ok:kSum.Ok PG:=Known.spec_ok hs_con
def rm{R:Type}(n:Nat)(k:Option R):Option R:=bif(n*1).ble 140737488355328&&n.ble 140737488355328 then k else none
def rme{R:Type}(n:Nat)(k:Option R):Option R:=bif n.beq 0||n.ble n then k else none
theorem rm_eq{R:Type}{n:Nat}{k:Option R}(h:n<=100000000):rm n k=k:=by
 unfold rm
 rw[Nat.mul_one,ble_true (by omega)];rfl
theorem rme_eq{R:Type}{n:Nat}{k:Option R}:rme n k=k:=by unfold rme;rw[Go.Wk.or_self];rfl
def apB(n:Nat)(f:Nat->List AV)(c:Int):Nat->List AV:=fun i=>bif i.blt n then f i else bif i.blt (n+1)then [[AV.int .u8 (IntKind.u8.wrap c)]].getD (i - n) []else f n
def apS(n:Nat)(f:Nat->List AV)(D:List UInt8):Nat->List AV:=fun i=>bif i.blt n then f i else bif i.blt (n+D.length)then [AV.int .u8 ((D.getD (i - n) 0).toNat:Int)]else f n
def h4(l:List UInt8):Nat->List AV:=fun i=>[AV.int .u8 ((l.getD i 0).toNat:Int)]
def lowG{R:Type}(K:Nat->(Nat->List AV)->Option R):Nat->Nat->(Nat->List AV)->Int->Option R
 | 0,n,f,_=>K n f
 | k+1,n,f,x=>rme n <| rm (n+1) <| lowG K k (n+1) (apB n f x) (x.fdiv 256)
def four(n:Nat):List UInt8:=[UInt8.ofNat (IntKind.u8.wrap (IntKind.u64.wrap (n:Int))).toNat,UInt8.ofNat (IntKind.u8.wrap ((IntKind.u64.wrap (n:Int)).fdiv 256)).toNat,UInt8.ofNat (IntKind.u8.wrap (((IntKind.u64.wrap (n:Int)).fdiv 256).fdiv 256)).toNat,UInt8.ofNat (IntKind.u8.wrap ((((IntKind.u64.wrap (n:Int)).fdiv 256).fdiv 256).fdiv 256)).toNat]
def txD(n:Nat)(s:List UInt8):List UInt8:=List.take ((four n++s).length - 4) (List.drop 4 (four n++s))
def eFr:Env:=envM (fun _=>none) (orcOf [kSum])
def fpG{R:Type}(a:List Int)(pre:Option R->Option R)(K:List UInt8->Int->Option R):Option R:=
 onK (bytesOfL ((List.range a.length).map fun i=>encB (a.getD i 0))) fun s=>bif(4+s.length).ble 4611686018427387904 then bif decide ((4:Int)<=((four a.length++s).length:Int))then
  pre <| gC dStr pStr eStr [.str (four a.length++s)] fun y=>K s (hsumI y)else none else none
def fpE(L:Nat)(s:List UInt8)(b:Nat)(H:List BS)(n:Nat)(f:Nat->List AV):Option (AV × Heap):=bif decide ((4:Int)<=((four L++s).length:Int))then rme n <| rm (n+(txD L s).length) <|
 bif(txD L s).length.beq 0 then some (.sl 1 b 0 n 0,H++[.seq true 1 n f])else some (.sl 1 b 0 (n+(txD L s).length) 0,H++[.seq true 1 (n+(txD L s).length) (apS n f (txD L s))])else none
theorem fp0(a:List Int):callC 0 eFr 20 F_frame_Put [.nils,encBy a] []=fpG a id fun s x=>lowG (fpE a.length s 0 []) 8 4 (h4 (four a.length)) x:=by kernel_rfl
theorem fp1(a:List Int)(n:Nat)(f:Nat->List AV):callC 1 eFr 20 F_frame_Put [.sl 1 0 0 n 0,encBy a] [.seq true 1 n f] =
 fpG a (fun k=>rme n <| rm (n+4) k) fun s x=>lowG (fpE a.length s 1 [.dead]) 8 (n+4) (apS n f (four a.length)) x:=by kernel_rfl
end Go.Kp
end
noncomputable section
open Go Go.AM Go.Md Go.Wk Go.Co
namespace Go.Kp
set_option maxRecDepth 100000
set_option maxHeartbeats 400000
def uF:Nat->List AV:=fun _=>[.undef]
def blkU(n:Nat):BS:=.seq true 1 n uF
def L1(n:Nat)(f:Nat->List AV):Prop:=∀ i,i<n->(f i).length=1
theorem L1.u(n:Nat):L1 n uF:=fun _ _=>rfl
theorem L1.h4(n:Nat)(l:List UInt8):L1 n (h4 l):=fun _ _=>rfl
theorem L1.apB{n:Nat}{f:Nat->List AV}(h:L1 n f)(c:Int):L1 (n+1) (apB n f c):=fun i hi=>by
 unfold Kp.apB
 by_cases h1:i<n
 ·rw[blt_true h1,cond_true];exact h i h1
 ·have:i=n:=by omega
  subst this
  rw[blt_false (Nat.le_refl _),cond_false,blt_true (by omega),cond_true,Nat.sub_self];rfl
theorem L1.apS{n:Nat}{f:Nat->List AV}(h:L1 n f)(D:List UInt8):L1 (n+D.length) (apS n f D):=fun i hi=>by
 unfold Kp.apS
 by_cases h1:i<n
 ·rw[blt_true h1,cond_true];exact h i h1
 ·rw[blt_false (Nat.le_of_not_lt h1),cond_false,blt_true hi];rfl
theorem L1.sub{n:Nat}{f:Nat->List AV}(h:L1 n f):SubB (.seq true 1 n f) (blkU n):=by
 refine⟨⟨(fun e=>by cases e),(fun e=>by cases e)⟩,rfl,rfl,fun w I φ B o s ⟨h0,h1,h2,h3⟩=>⟨h0,h1,fun i hi=>h0,fun i k c hi e=>?_⟩,fun x=>x⟩
 have hl:=h i hi
 cases k with
 | succ k=>cases e
 | zero=>
  obtain⟨u,a1,a2,_⟩:=h3 i 0 ((f i)[0]'(by omega)) hi (List.getElem?_eq_getElem _)
  cases e
  exact⟨u,a1,a2,.undef _⟩
theorem lowG_eq{R:Type}{K:Nat->(Nat->List AV)->Option R}{P:Option R->Prop}:∀ (k n:Nat) (f:Nat->List AV) (x:Int),n+k<=100000000->L1 n f->(∀ f',L1 (n+k) f'->P (K (n+k) f'))->P (lowG K k n f x)
 | 0,n,f,x,_,h,hk=>hk f h
 | k+1,n,f,x,hn,h,hk=>by
  unfold lowG
  rw[rme_eq,rm_eq (by omega)]
  have e:n+1+k=n+(k+1):=by omega
  refine lowG_eq (P:=P) k (n+1) _ _ (by omega) (h.apB x) ?_
  rw[e]
  exact hk
theorem txD_eq(n:Nat)(s:List UInt8):txD n s=s:=by
 show List.take (s.length+4 - 4) s=s
 rw[Nat.add_sub_cancel,List.take_length]
theorem fpG_eq{R:Type}{a:List Int}{pre:Option R->Option R}{K:List UInt8->Int->Option R}(h:a.length<=50000)(hp:∀ k,pre k=k):fpG a pre K=K (strP a) (hsumI (four a.length++strP a)):=by
 have hl:(strP a).length=a.length:=by unfold strP;simp
 unfold fpG
 rw[bytes_all]
 show(bif(4+(strP a).length).ble 4611686018427387904 then bif decide ((4:Int)<=((four a.length++strP a).length:Int))then _ else none else none)=_
 have e:(four a.length++strP a).length=4+a.length:=by rw[List.length_append,hl];rfl
 rw[ble_true (by omega),cond_true,e,decide_eq_true (by omega),cond_true,hp]
 exact gC_eq _ rfl (by unfold pStr;omega) (.refl _)
theorem fpE_ok{L:Nat}{s:List UInt8}{b:Nat}{H:List BS}{n:Nat}{f:Nat->List AV}(hn:n+s.length<=100000000)(h:L1 n f):∃ f',fpE L s b H n f=some (.sl 1 b 0 (n+s.length) 0,H++[.seq true 1 (n+s.length) f'])/\L1 (n+s.length) f':=by
 unfold fpE
 rw[txD_eq,rme_eq,rm_eq hn]
 have e:(four L++s).length=4+s.length:=by rw[List.length_append];rfl
 rw[e,decide_eq_true (by omega),cond_true]
 cases hs:s with
 | nil=>exact⟨f,rfl,h⟩
 | cons x t=>exact⟨_,rfl,h.apS _⟩
theorem conFr{c n f:Nat}{args:List AV}{hp:Heap}{r:AV}{h':Heap}(hc:c<=hp.length)(e:callC c eFr n f args hp=some (r,h')):Contract PG f args hp r h'/\hp.length<=h'.length:=
 callC_ok ⟨tt_ok rfl,orc_ok (ak kSum_ok ank)⟩ (codeOf_ok rfl) mixed hc e
theorem fp0_con(a:List Int)(h:a.length<=50000):Contract PG F_frame_Put [.nils,encBy a] [] (.sl 1 0 0 (12+a.length) 0) [blkU (12+a.length)]:=by
 have hl:(strP a).length=a.length:=by unfold strP;simp
 have e:=fp0 a
 rw[fpG_eq (pre:=id) h (fun _=>rfl)]at e
 have:=lowG_eq (K:=fpE a.length (strP a) 0 []) (P:=fun z=>∃ f',z=some (.sl 1 0 0 (12+a.length) 0,[.seq true 1 (12+a.length) f'])/\L1 (12+a.length) f') 8 4 (h4 (four a.length)) (hsumI (four a.length++strP a)) (by omega) (.h4 _ _) (fun f' hf=>by
  have:=fpE_ok (L:=a.length) (s:=strP a) (b:=0) (H:=[]) (by rw[hl];omega) hf
  rw[hl]at this
  exact this)
 obtain⟨f',e1,h1⟩:=this
 exact Contract.outH (conFr (Nat.le_refl 0) (e.trans e1)).1 (.cons h1.sub (.refl _))
theorem fp1_con(a:List Int)(n:Nat)(h:a.length<=50000)(hn:n<=1000000):CG F_frame_Put [.sl 1 0 0 n 0,encBy a] [blkU n] (.sl 1 1 0 (n+12+a.length) 0) [.dead,blkU (n+12+a.length)]:=by
 have hl:(strP a).length=a.length:=by unfold strP;simp
 have e:=fp1 a n uF
 rw[fpG_eq h (fun k=>by rw[rme_eq,rm_eq (by omega)])]at e
 have h0:=(L1.u n).apS (four a.length)
 have:=lowG_eq (K:=fpE a.length (strP a) 1 [.dead]) (P:=fun z=>∃ f',z=some (.sl 1 1 0 (n+12+a.length) 0,[.dead,.seq true 1 (n+12+a.length) f'])/\L1 (n+12+a.length) f') 8 (n+4) _ (hsumI (four a.length++strP a)) (by omega) h0 (fun f' hf=>by
  have:=fpE_ok (L:=a.length) (s:=strP a) (b:=1) (H:=[.dead]) (by rw[hl];omega) hf
  rw[hl]at this
  exact this)
 obtain⟨f',e1,h1⟩:=this
 have c:=conFr (Nat.le_refl 1) (e.trans e1)
 exact⟨Contract.outH c.1 (.cons (.refl _) (.cons h1.sub (.refl _))),by simp⟩
theorem hget2(x y:BS)(b:Nat):hget [x,y] b=if b=0 then x else if b=1 then y else .none:=by
 match b with
 | 0=>rfl
 | 1=>rfl
 | b+2=>simp[hget]
theorem uF_undef{i k:Nat}{c:AV}(e:(uF i)[k]? = some c):c=.undef:=by
 cases k with
 | zero=>cases e;rfl
 | succ k=>cases e
theorem lend{f n:Nat}(h:Contract PG f [.tr 1 n uF] [] (.sn 1 0 n) [blkU n]):Contract PG f [.sn 1 0 n] [blkU n] (.sn 1 1 n) [blkU n,blkU n]:=by
 intro w I φ ra hh hx
 have real:∀ {w:World} {I:Nat->Prop} {φ:Phi},RH w I φ (hget [blkU n])->(∀ B o s,φ 0=some (B,o,s)->RB w I φ B o s (blkU n) /\ ¬ I B/\B<w.heap.size)/\(φ 0=none->n=0):=fun {w I φ} hh=>by
  refine⟨fun B o s e=>?_,fun e=>?_⟩
  ·rcases hh.blk 0 rfl with ⟨B',o',s',e',r⟩ | ⟨e',_⟩
   ·rw[e]at e';cases e'
    exact⟨r,hh.disj 0 B o s rfl e,r.lt rfl⟩
   ·rw[e]at e';cases e'
  ·rcases hh.blk 0 rfl with ⟨B',o',s',e',r⟩ | ⟨_,hp⟩
   ·rw[e]at e';cases e'
   ·exact hp
 obtain⟨ra1,ra2⟩:=real hh
 obtain⟨P0,hP0⟩:∃ P0:Nat->Prop,P0=fun X=>∃ o s,φ 0=some (X,o,s):=⟨_,rfl⟩
 have hP:∀ X,P0 X ↔ ∃ o s,φ 0=some (X,o,s):=fun X=>by rw[hP0]
 obtain⟨u0,hu0⟩:∃ u0,ra[0]? = some u0:=⟨_,Array.getElem?_eq_getElem (by rw[<- hx.1];exact Nat.zero_lt_one)⟩
 have hv0:=hx.2 0 _ u0 rfl hu0
 have hv1:RV w (fun X=>I X\/P0 X) Phi.no (.tr 1 n uF) u0:=by
  cases hv0 with
  | sn0=>exact .trn _ _ _
  | sn _ _ _ B o cap h' hl hz=>
   obtain⟨⟨_,_,_,r3⟩,_,_⟩:=ra1 B o 1 h'
   have key:∀ i k c,i<n->(uF i)[k]? = some c -> ∃ u,w.cell? ⟨B,o+i*1+k,none⟩=some u/\u.oneCell'=true:=fun i k c hi e=>by
    obtain⟨u,g1,g2,_⟩:=r3 i k c hi e;exact⟨u,g1,g2⟩
   refine .tr 1 n uF B o cap (fun i k=>(w.cell? ⟨B,o+i*1+k,none⟩).getD Go.undef) (fun _=>.inr ((hP B).2 ⟨o,1,h'⟩)) hl (fun _=>hz) (fun _ _=>rfl) (fun i k c hi e=>?_) (fun i k c hi e=>?_) (fun i k c hi e=>by rw[uF_undef e];exact .undef _)
   ·obtain⟨u,g1,g2⟩:=key i k c hi e;rw[g1];rfl
   ·obtain⟨u,g1,g2⟩:=key i k c hi e;rw[g1];exact g2
 refine(h w (fun X=>I X\/P0 X) Phi.no ra (RH.empty w _ fun X hX=>hX.elim (hh.lt X) (fun e=>let ⟨o,s,g⟩:=(hP X).1 e;(ra1 X o s g).2.2)) ⟨hx.1,fun k x u e1 e2=>?_⟩).mono fun u w' ⟨φ1,J1,a1,a2,a3⟩=>?_
 ·cases k with
  | zero=>cases e1;rw[hu0]at e2;cases e2;exact hv1
  | succ k=>cases e1
 obtain⟨rb1,rb2⟩:=real a2
 have hnew:∀ B o s,φ1 0=some (B,o,s)->w.heap.size<=B:=fun B o s e=>(a3.mt B ⟨0,o,s,rfl,e⟩).resolve_left not_mut_nil
 have hkeep:∀ X,X<w.heap.size->w'.heap[X]? = w.heap[X]? := fun X hX=>a3.ext.keep X hX not_mut_nil
 have hg:=hget2 (blkU n) (blkU n)
 obtain⟨φ2,hφ⟩:∃ φ2:Phi,φ2=fun b=>if b=0 then φ 0 else if b=1 then φ1 0 else none:=⟨_,rfl⟩
 have hφ0:φ2 0=φ 0:=by rw[hφ];rfl
 have hφ1:φ2 1=φ1 0:=by rw[hφ];rfl
 have two:∀ b,live (hget [blkU n,blkU n] b)=true->b=0\/b=1:=fun b hb=>by
  match b with
  | 0=>exact .inl rfl
  | 1=>exact .inr rfl
  | b+2=>rw[hg,if_neg (by omega),if_neg (by omega)]at hb;cases hb
 have rc0:∀ B o s,φ 0=some (B,o,s)->RB w' (fun X=>J1 X /\ ¬ P0 X) φ2 B o s (blkU n):=fun B o s e=>by
  obtain⟨⟨q0,q1,q2,q3⟩,_,hlt⟩:=ra1 B o s e
  refine⟨q0,?_,q2,fun i k c hi e=>?_⟩
  ·obtain⟨c,e,fz,x1,x2⟩:=q1;exact⟨c,e,fz,(hkeep B hlt).trans x1,x2⟩
  ·obtain⟨u,g1,g2,_⟩:=q3 i k c hi e
   have hcell:∀ p,w'.cell? ⟨B,p,none⟩=w.cell? ⟨B,p,none⟩:=fun p=>by simp[World.cell?,hkeep B hlt]
   exact⟨u,(hcell _).trans g1,g2,by rw[uF_undef e];exact .undef _⟩
 have rc1:∀ B o s,φ1 0=some (B,o,s)->RB w' (fun X=>J1 X /\ ¬ P0 X) φ2 B o s (blkU n):=fun B o s e=>by
  obtain⟨⟨q0,q1,q2,q3⟩,_,hlt⟩:=rb1 B o s e
  refine⟨q0,q1,q2,fun i k c hi e=>?_⟩
  obtain⟨u,g1,g2,_⟩:=q3 i k c hi e
  exact⟨u,g1,g2,by rw[uF_undef e];exact .undef _⟩
 have hP1:∀ B o s,φ1 0=some (B,o,s) -> ¬ P0 B:=fun B o s e hB=>by
  obtain⟨o',s',e'⟩:=(hP B).1 hB
  have h1:=hnew B o s e
  have h2:=(ra1 B o' s' e').2.2
  omega
 refine⟨φ2,fun X=>J1 X /\ ¬ P0 X,?_,⟨fun b e=>?_,fun b hb=>?_,fun b b' X o s o' s' hm hm' g g'=>?_,fun b X o s hm g hX=>?_,fun b X o s hl hm g=>?_,fun X hX=>a2.lt X hX.1⟩,⟨fun b p hb g=>?_,fun X hX=>⟨a3.Ile X (.inl hX),fun e=>?_⟩,fun X hX=>?_,fun X hX=>?_,a3.ext.weaken fun X hX=>(not_mut_nil hX).elim⟩⟩
 ·cases a1 with
  | sn0=>exact .sn0 _ _ _
  | sn _ _ _ B' o' cap h' hl hz=>exact .sn 1 1 n B' o' cap (hφ1.trans h') hl hz
 ·match b with
  | 0=>rw[hg,if_pos rfl]at e;cases e
  | 1=>rw[hg,if_neg (by omega),if_pos rfl]at e;cases e
  | b+2=>rw[hφ];simp only[if_neg (by omega:¬ b+2=0),if_neg (by omega:¬ b+2=1)]
 ·rcases two b hb with rfl | rfl
  ·rw[hφ0]
   cases e:φ 0 with
   | none=>exact .inr ⟨rfl,ra2 e⟩
   | some p=>obtain⟨B,o,s⟩:=p;exact .inl ⟨B,o,s,rfl,rc0 B o s e⟩
  ·rw[hφ1]
   cases e:φ1 0 with
   | none=>exact .inr ⟨rfl,rb2 e⟩
   | some p=>obtain⟨B,o,s⟩:=p;exact .inl ⟨B,o,s,rfl,rc1 B o s e⟩
 ·rcases two b (live_of_mutable hm)with rfl | rfl <;> rcases two b' (live_of_mutable hm')with rfl | rfl
  ·rfl
  ·rw[hφ0]at g;rw[hφ1]at g';exact absurd ((hP X).2 ⟨o,s,g⟩) (hP1 X o' s' g')
  ·rw[hφ1]at g;rw[hφ0]at g';exact absurd ((hP X).2 ⟨o',s',g'⟩) (hP1 X o s g)
  ·rfl
 ·rcases two b (live_of_mutable hm)with rfl | rfl
  ·rw[hφ0]at g;exact hX.2 ((hP X).2 ⟨o,s,g⟩)
  ·rw[hφ1]at g;exact(rb1 X o s g).2.1 hX.1
 ·rcases two b hl with rfl | rfl
  ·cases hm
  ·cases hm
 ·have:b=0:=by have:b<1:=hb;omega
  subst this;exact hφ0.trans g
 ·obtain⟨o,s,g⟩:=(hP X).1 e
  exact(ra1 X o s g).2.1 hX
 ·rcases a3.Inew X hX.1 with (x | x) | x | x
  ·exact .inl x
  ·exact absurd x hX.2
  ·exact(not_mut_nil x).elim
  ·exact .inr (.inr x)
 ·obtain⟨b,o',s',hm,g⟩:=hX
  rcases two b (live_of_mutable hm)with rfl | rfl
  ·rw[hφ0]at g;exact .inl ⟨0,o',s',rfl,g⟩
  ·rw[hφ1]at g;exact .inr (hnew X o' s' g)
theorem cloN_byte{n:Nat}(f:Nat->List AV)(h:n<=100000):Contract PG F_slices_Clone_byte [.tr 1 n f] [] (.sn 1 0 n) [.seq true 1 n f]:=clone_sn (b:=1) (by omega) (by kernel_rfl) (by kernel_rfl) (fun n f=>by kernel_rfl) f h
theorem clo_con(n:Nat)(h:n<=100000):CG F_slices_Clone_byte [.sn 1 0 n] [blkU n] (.sn 1 1 n) [blkU n,blkU n]:=⟨lend (cloN_byte uF h),by simp⟩
def dCl(a:List AV)(_:Heap):Nat:=match a.getD 0 .undef with
 | .sn _ _ n=>n
 | .sl _ _ _ n _=>n
 | _=>0
def pCl(n:Nat):Prop:=n<=100000
def eCl(n:Nat):List AV × Heap:=([.sn 1 0 n],[blkU n])
def kClo:Known:=.specG F_slices_Clone_byte dCl pCl eCl fun n=>(.sn 1 1 n,[blkU n,blkU n])
def dFA(a:List AV):List Int:=decL decB (a.getD 1 .nils)
abbrev NA:=Nat × List Int
def dFH(a:List AV)(H:Heap):NA:=(dCl a H,dFA a)
def pFA(a:List Int):Prop:=a.length<=50000
def pFH(x:NA):Prop:=x.2.length<=50000/\x.1<=1000000
def eFA(a:List Int):List AV:=[.nils,encBy a]
def eFH(x:NA):List AV × Heap:=([.sl 1 0 0 x.1 0,encBy x.2],[blkU x.1])
def kFP:Known:=Known.two (.specB F_frame_Put dFA pFA eFA fun a=>(.sl 1 0 0 (12+a.length) 0,[blkU (12+a.length)])) (.specG F_frame_Put dFH pFH eFH fun x=>(.sl 1 1 0 (x.1+12+x.2.length) 0,[.dead,blkU (x.1+12+x.2.length)]))
theorem kClo_ok:kClo.Ok PG:=Known.specG_ok fun n h=>clo_con n h
theorem kFP_ok:kFP.Ok PG:=Known.two_ok (Known.specB_ok fun a h=>fp0_con a h) (Known.specG_ok fun x h=>fp1_con x.2 x.1 h.1 h.2) rfl
def knD:List Known:=[kClo,kFP]
theorem knD_ok:∀ k ∈ knD,k.Ok PG:=ak kClo_ok (ak kFP_ok ank)
def mdD:List (Nat × Nat):=[(F_wal_inFront,2),(F_disk_Disk_First,2),(F_disk_Disk_Read,2),(F_slices_Clone_byte,5),(F_frame_Put,5),(F_disk_Disk_Append,2),(F_disk_Disk_change,2),(F_disk_state_do,2),(F_disk_Disk_count,2),(F_disk_Disk_Sync,2)]
def eD:Env:=envN [] mdD [] knD
def lg(b:Nat)(sz:Int):BS:=.arr true 2 [[.ptr b 0 0,.int .i64 sz]]
def dk(l n:Nat)(k k':Nat)(O:AV):BS:=.arr true 10 [[.sn 1 l k,.nils,.int .i64 0,.sn 1 n k',.nils,.int .i64 0,O,.bool false,.int .i64 0,.bool false]]
def gCl{R:Type}(n:Nat)(k:Nat->Option R):Option R:=gCG dCl pCl eCl [.sn 1 0 n] [blkU n] k
def gCs{R:Type}(n:Nat)(k:Nat->Option R):Option R:=gCG dCl pCl eCl [.sl 1 0 0 n 0] [blkU n] k
def gap{R:Type}(n m:Nat)(K:Option R):Option R:=bif n.ble n then bif m.ble m then bif((n+m)*1).ble 140737488355328&&(n+m).ble 140737488355328 then K else none else none else none
def apU(n m:Nat):BS:=.seq true 1 (n+m) (appN n uF (.fn m uF))
def gF0{R:Type}(A:AV)(k:List Int->Option R):Option R:=gC dFA pFA eFA [.nils,A] k
def gF1{R:Type}(n:Nat)(a:List Int)(k:NA->Option R):Option R:=gCG dFH pFH eFH [.sl 1 0 0 n 0,encBy a] [blkU n] k
def addF(n:Nat)(sz:Int)(N:Nat):Option (AV × Heap):=gCs N fun m=>gap n m (some (.int .i64 0,[lg 4 (IntKind.i64.wrap (sz+(N:Int))),.dead,.dead,.dead,dk 5 6 n (n+m) (.sl 3 7 0 1 1),blkU n,apU n m,.arr true 3 [[.int .i64 0,.int .i64 0,.sn 1 8 m]],blkU m]))
theorem add(n:Nat)(sz:Int)(a:List Int):callC 1 eD 20 F_wal_Log_Add [.ptr 0 0 0,encBy a] [lg 1 sz,dk 2 3 n n .nils,blkU n,blkU n] =
 gCl n fun m=>bif decide ((m:Int)=0)then gF0 .nils fun y=>gF1 (12+y.length) a fun z=>addF n sz (z.1+12+z.2.length)else gF0 (encBy a) fun y=>addF n sz (12+y.length):=by kernel_rfl
theorem flush(n N k:Nat)(sz:Int):callC 1 eD 20 F_wal_Log_Flush [.ptr 0 0 0] [lg 1 sz,dk 2 3 n k (.sl 3 4 0 1 1),blkU n,blkU k,.arr true 3 [[.int .i64 0,.int .i64 0,.sn 1 5 N]],blkU N]=gap n N (
 some (.int .i64 0,[lg 6 sz,.dead,.dead,.dead,.dead,.dead,dk 7 8 (n+N) k .nils,apU n N,blkU k])):=by kernel_rfl
theorem gCl_eq{R:Type}{n:Nat}{k:Nat->Option R}(h:n<=100000):gCl n k=k n:=gCG_eq n rfl h (.refl _) (.refl _)
theorem gCs_eq{R:Type}{n:Nat}{k:Nat->Option R}(h:n<=100000):gCs n k=k n:=gCG_eq n rfl h (.cons .sn .nil) (.refl _)
theorem gF0_eq{R:Type}{a:List Int}{k:List Int->Option R}(h:a.length<=50000):gF0 (encBy a) k=k a:=gC_eq a (decBy a) h (.refl _)
theorem gF0_nil{R:Type}{k:List Int->Option R}:gF0 .nils k=k []:=gC_eq [] rfl (Nat.zero_le _) (.cons (.refl _) (.cons nilsL .nil))
theorem gF1_eq{R:Type}{n:Nat}{a:List Int}{k:NA->Option R}(h:a.length<=50000)(hn:n<=1000000):gF1 n a k=k (n,a):=gCG_eq (n,a) (by show(n,decL decB (encBy a))=(n,a);rw[decBy]) ⟨h,hn⟩ (.refl _) (.refl _)
theorem gap_eq{R:Type}{n m:Nat}{K:Option R}(h:n+m<=100000000):gap n m K=K:=by
 unfold gap
 rw[ble_true (Nat.le_refl n),ble_true (Nat.le_refl m),Nat.mul_one,ble_true (by omega)];rfl
theorem apU_sub(n m:Nat):SubB (apU n m) (blkU (n+m)):=L1.sub (f:=appN n uF (.fn m uF)) fun i hi=>by
 show(bif _ then _ else bif _ then _ else _:List AV).length=1
 cases i.blt n with
 | true=>rfl
 | false=>
  rw[cond_false]
  cases i.blt (n+(View.fn m uF).len) <;> rfl
def addN(n l:Nat):Nat:=if n=0 then 12+0+12+l else 12+l
def lsB(r N:Nat):BS:=.arr true 3 [[.int .i64 0,.int .i64 0,.sn 1 r N]]
def hAdd(n N:Nat):Heap:=[lg 4 ((n+N:Nat):Int),.dead,.dead,.dead,dk 5 6 n (n+N) (.sl 3 7 0 1 1),blkU n,blkU (n+N),lsB 8 N,blkU N]
theorem addF_ok{n N:Nat}(h:N<=100000)(hn:n<=1000000):∃ H,addF n n N=some (.int .i64 0,H)/\SubH H (hAdd n N):=by
 unfold addF
 rw[gCs_eq h,gap_eq (by omega),show((n:Nat):Int)+(N:Int)=((n+N:Nat):Int) by omega,wrap64 (by omega)]
 exact⟨_,rfl,.cons (.refl _) (.cons (.refl _) (.cons (.refl _) (.cons (.refl _) (.cons (.refl _) (.cons (.refl _) (.cons (apU_sub _ _) (.refl _)))))))⟩
theorem conD{c n f:Nat}{args:List AV}{hp:Heap}{r:AV}{h':Heap}(hc:c<=hp.length)(e:callC c eD n f args hp=some (r,h')):CG f args hp r h':=conC knD_ok hc e
theorem add_con(n:Nat)(a:List Int)(h:a.length<=10000)(hn:n<=90000):CG F_wal_Log_Add [.ptr 0 0 0,encBy a] [lg 1 n,dk 2 3 n n .nils,blkU n,blkU n] (.int .i64 0) (hAdd n (addN n a.length)):=by
 have e:=add n n a
 rw[gCl_eq (by omega)]at e
 unfold addN
 by_cases h0:n=0
 ·rw[decide_eq_true (by omega),cond_true,gF0_nil,gF1_eq (by omega) (by show 12+0<=_;omega)]at e
  obtain⟨H,e1,e2⟩:=addF_ok (n:=n) (N:=12+0+12+a.length) (by omega) (by omega)
  have c:=conD (by show 1<=4;omega) (e.trans e1)
  rw[if_pos h0]
  exact⟨Contract.outH c.1 e2,by show 4<=9;omega⟩
 ·rw[decide_eq_false (by omega),cond_false,gF0_eq (by omega)]at e
  obtain⟨H,e1,e2⟩:=addF_ok (n:=n) (N:=12+a.length) (by omega) (by omega)
  have c:=conD (by show 1<=4;omega) (e.trans e1)
  rw[if_neg h0]
  exact⟨Contract.outH c.1 e2,by show 4<=9;omega⟩
def hFlu(sz:Int)(k:Nat):Heap:=[lg 6 sz,.dead,.dead,.dead,.dead,.dead,dk 7 8 k k .nils,blkU k,blkU k]
theorem flush_con(n N:Nat)(sz:Int)(h:n+N<=1000000):CG F_wal_Log_Flush [.ptr 0 0 0] [lg 1 sz,dk 2 3 n (n+N) (.sl 3 4 0 1 1),blkU n,blkU (n+N),lsB 5 N,blkU N] (.int .i64 0) (hFlu sz (n+N)):=by
 have e:=flush n N (n+N) sz
 rw[gap_eq (by omega)]at e
 have c:=conD (by show 1<=6;omega) e
 refine⟨Contract.outH c.1 ?_,by show 6<=9;omega⟩
 exact .cons (.refl _) (.cons (.refl _) (.cons (.refl _) (.cons (.refl _) (.cons (.refl _) (.cons (.refl _) (.cons (.refl _) (.cons (apU_sub _ _) (.refl _))))))))
def kRow(c:CConf)(s:ES)(b:Nat):List AV:=encCf c ++ .ptr b 0 0::buT s
def hK(c:CConf)(s:ES)(n:Nat):Heap:=[.arr true 23 [kRow c s 1],lg 2 n,dk 3 4 n n .nils,blkU n,blkU n]
def hO(c:CConf)(s:ES)(n:Nat):Heap:=[.arr true 23 [kRow c s 5],.dead,.dead,.dead,.dead,lg 6 n,dk 7 8 n n .nils,blkU n,blkU n]
structure MD where
 k:Int
 f:Int
 d:Int
 so:Int
 e:Int
 n:Int
 a:Int
 h:Bool
 vn:Nat
 ve:Int
 vp:Int
def vwM(m:MD):Md.View:=⟨0,m.ve,0,m.vp,[]⟩
def vwC(m:MD):AV:=.tr 5 m.vn fun _=>encView (vwM m)
def msC(m:MD):List AV:=[.int .i64 m.k,.int .i64 m.f,.int .i64 m.d,.int .i64 0,.int .i64 m.so,.int .i64 0,.int .i64 m.e,.int .i64 0,.int .i64 0,.int .i64 m.n,.int .i64 m.a,.int .i64 0,.bool m.h,.bool false,.str [],.str [],.cplx .f64 0 0,.cplx .f64 0 0,.int .i64 0,.str [],.str [],.str [],.bool false,.nils,.nils,vwC m,.cplx .f64 0 0,.cplx .f64 0 0,.int .i64 0,.nils,.nils]
def mdK:List (Nat × Nat):=[(F_keeper_Keeper_do,2),(F_keeper_Keeper_Handle_c1,2),(F_keeper_Keeper_Tick_c1,2),(F_wal_Log_Add,5),(F_wal_Log_Flush,5),(F_wal_Log_Size,2),(F_wal_Log_Save,5)]
def rK(t:ES):AV:=.tup [.agg (buT t),.undef]
def kKP(P:Md.Book->List Int):Known:=.spec F_keeper_Put dBk BookOk eBk (fun b=>encBy (P b))
def knK(P:Md.Book->List Int)(t:ES)(n N:Nat):List Known:=[kKP P,kBEq,kCon F_coord_Handle (rK t) [],kCon F_coord_Tick (rK t) [],kCon F_wal_Log_Add (.int .i64 0) (hAdd n N),kCon F_wal_Log_Flush (.int .i64 0) (hFlu ((n+N:Nat):Int) (n+N)),.never F_wal_Log_Save]
def eK(P:Md.Book->List Int)(t:ES)(n N:Nat):Env:=envN [] mdK [] (knK P t n N)
def gBk{R:Type}(s:ES)(K:Md.Book->Option R):Option R:=gC dBk BookOk eBk [.agg [.int .i64 s.e,.int .i64 s.g,.trl 8 [encPlan s.p]]] K
def gBE{R:Type}(a b:List Int)(K:List Int × List Int->Option R):Option R:=gC d2B p2B e2B [encBy a,encBy b] K
def tK:AV:=.tup [.undef,.int .i64 0]
def doK(P:Md.Book->List Int)(c:CConf)(s t:ES)(n N:Nat)(F:Option (AV × Heap)->Option (AV × Heap)):Option (AV × Heap):=
 gBk s fun y=>F <| gBk t fun z=>gBE (P z) (P y) fun w=>bif decide (w.1=w.2)then some (tK,hO c t n)else
  gCon F_wal_Log_Add [.ptr 0 0 0,encBy (P z)] [lg 1 n,dk 2 3 n n .nils,blkU n,blkU n] (.int .i64 0) (hAdd n N) <|
  gCon F_wal_Log_Flush [.ptr 0 0 0] [lg 1 ((n+N:Nat):Int),dk 2 3 n (n+N) (.sl 3 4 0 1 1),blkU n,blkU (n+N),lsB 5 N,blkU N] (.int .i64 0) (hFlu ((n+N:Nat):Int) (n+N)) <|
  bif decide ((16384:Int)<((n+N:Nat):Int))then gX False () (fun _=>none)else some (tK,hO c t (n+N))
theorem kh_eq(P:Md.Book->List Int)(c:CConf)(s t:ES)(n N:Nat)(m:MD):callC 1 (eK P t n N) 40 F_keeper_Keeper_Handle [.ptr 0 0 0,.agg (msC m)] (hK c s n) =
 doK P c s t n N (gCon F_coord_Handle [.agg (buT s),.agg (encCf c),.agg (msC m)] [] (rK t) []):=by kernel_rfl
theorem kt_eq(P:Md.Book->List Int)(c:CConf)(s t:ES)(n N:Nat):callC 1 (eK P t n N) 40 F_keeper_Keeper_Tick [.ptr 0 0 0] (hK c s n) =
 doK P c s t n N (gCon F_coord_Tick [.agg (buT s),.agg (encCf c)] [] (rK t) []):=by kernel_rfl
def SmM(m:Member):Prop:=0<=m.node/\m.node<=10/\0<=m.boot/\m.boot<=10
def ML(l:List Member):Prop:=l.length<=3 /\ ∀ m ∈ l,SmM m
theorem ML.nil:ML []:=⟨Nat.zero_le _,fun m hm=>by cases hm⟩
theorem dropM_sub(m:Member):∀ l,(dropM m l).Sublist l
 | []=>.slnil
 | x::r=>by
  unfold dropM
  cases isM m x with
  | true=>exact List.sublist_cons_self x r
  | false=>exact(dropM_sub m r).cons_cons x
theorem dropM_lenA{m:Member}:∀ {l:List Member},l.any (isM m)=true->(dropM m l).length+1=l.length
 | [],h=>by simp at h
 | x::r,h=>by
  unfold dropM
  cases hx:isM m x with
  | true=>simp
  | false=>
   rw[List.any_cons,hx,Bool.false_or]at h
   have:=dropM_lenA h
   simp only[cond_false,List.length_cons];omega
theorem isM_eq{m x:Member}(h:isM m x=true):x=m:=by
 obtain⟨a,b⟩:=m
 obtain⟨c,d⟩:=x
 unfold isM at h
 simpa using h
theorem ML.lead{l:List Member}{m:Member}(h:ML l):ML (leadP l m):=by
 unfold leadP
 cases ha:l.any (isM m)with
 | false=>exact h
 | true=>
  obtain⟨x,hx,hm⟩:=List.any_eq_true.1 ha
  have:=isM_eq hm
  subst this
  have hd:=dropM_lenA ha
  exact⟨by have:=h.1;simp only[cond_true,List.length_cons];omega,fun y hy=>by
   rcases List.mem_cons.1 hy with e | e
   ·subst e;exact h.2 _ hx
   ·exact h.2 _ ((dropM_sub _ _).subset e)⟩
theorem chainL_mem(keep:List Member)(c:Int):∀ (up out:List Member),(∀ m ∈ up,SmM m)->(∀ m ∈ out,SmM m) -> ∀ m ∈ chainL keep c up out,SmM m
 | [],out,_,h=>h
 | m::r,out,h1,h2=>by
  unfold chainL
  cases decide (c<=(out.length:Int))with
  | true=>exact h2
  | false=>
   rw[cond_false]
   cases hasNode keep m.node with
   | true=>exact chainL_mem keep c r out (fun x hx=>h1 x (List.mem_cons_of_mem _ hx)) h2
   | false=>
    refine chainL_mem keep c r (out++[m]) (fun x hx=>h1 x (List.mem_cons_of_mem _ hx)) fun x hx=>?_
    rcases List.mem_append.1 hx with e | e
    ·exact h2 x e
    ·have:x=m:=by simpa using e
     subst this;exact h1 _ (List.mem_cons_self ..)
theorem ML.chain{keep up:List Member}{c:Int}(hk:ML keep)(hu:∀ m ∈ up,SmM m)(hc:c<=3):ML (chainP keep up c):=
 ⟨chainL_len keep c up keep 3 hk.1 (by omega),chainL_mem keep c up keep hu hk.2⟩
theorem ML.take{l:List Member}(h:ML l)(n:Nat):ML (l.take n):=⟨by have:=h.1;simp;omega,fun m hm=>h.2 m (List.mem_of_mem_take hm)⟩
theorem ML.both{l up:List Member}(h:ML l):ML (bothP l up):=by
 have hsub:(bothP l up).Sublist l:=by
  unfold bothP
  rw[show(fun m=>bif inUp up m then some m else none)=Option.guard (fun m=>inUp up m) from by
   funext m
   unfold Option.guard
   dsimp only
   by_cases hb:inUp up m=true <;> simp[hb]]
  rw[List.filterMap_eq_filter]
  exact List.filter_sublist
 exact⟨Nat.le_trans hsub.length_le h.1,fun m hm=>h.2 m (hsub.subset hm)⟩
structure SJ(N:Nat)(s:ES):Prop where
 c:s.c=⟨2,2,4⟩
 nb:s.nb=false
 e0:0<=s.e
 e1:s.e<=N
 g0:0<=s.g
 g1:s.g<=N
 ep0:0<=s.p.epoch
 ep1:s.p.epoch<=N
 pg0:0<=s.p.gen
 pg1:s.p.gen<=N
 ph0:0<=s.p.phase
 ph1:s.p.phase<=10
 ba0:0<=s.p.base
 ba1:s.p.base<=N
 re0:0<=s.p.reset
 re1:s.p.reset<=10
 ch:ML s.p.chain
 va:ML s.p.valid
 ke:ML s.keep
 nl:s.ns.length<=N
 nm:∀ a ∈ s.ns,SmM a.member/\0<=a.missed/\a.missed<=N
 fl:s.fz.l.length<=N
 fz:∀ f ∈ s.fz.l,VNum f.ver/\CpOk f
 ne:s.fz ≠ .emp
 ll:s.l.length<=N
 kn:s.ns=[]->s.keep=[]
 ol:s.op.length<=3
 om:∀ m ∈ s.op,CpOk m/\100<=m.src/\m.src<=102
 on:(s.op.map (·.src)).Nodup
theorem SJ.mono{N M:Nat}{s:ES}(h:SJ N s)(hm:N<=M):SJ M s:=
 {h with e1:=by have:=h.e1;omega,g1:=by have:=h.g1;omega,ep1:=by have:=h.ep1;omega,pg1:=by have:=h.pg1;omega,ba1:=by have:=h.ba1;omega,nl:=by have:=h.nl;omega,nm:=fun a ha=>by have:=h.nm a ha;exact⟨this.1,this.2.1,by have:=this.2.2;omega⟩,fl:=by have:=h.fl;omega,ll:=by have:=h.ll;omega}
theorem SJ.up{N:Nat}{s:ES}(h:SJ N s):∀ m ∈ upP s.ns s.c.susp,SmM m:=fun m hm=>by
 obtain⟨a,ha,he⟩:=List.mem_filterMap.1 hm
 cases hb:decide (a.missed<=s.c.susp)with
 | false=>rw[hb]at he;simp at he
 | true=>
  rw[hb]at he
  have:a.member=m:=by simpa using he
  subst this;exact(h.nm a ha).1
theorem SJ.eok{N:Nat}{s:ES}(h:SJ N s)(hN:N<=900):EOk s where
 ch:=by have:=h.ch.1;omega
 ns:=by have:=h.nl;omega
 keep:=h.ke.1
 fz:=by have:=h.fl;omega
 ver:=fun f hf=>(h.fz f hf).1
 c1:=by rw[h.c];decide
 c2:=by rw[h.c];decide
 l:=by have:=h.ll;omega
theorem SJ.pop{N:Nat}{s:ES}(h:SJ N s):pOp s.op:=⟨by have:=h.ol;omega,fun m hm=>(h.om m hm).1⟩
theorem SJ.hok{N:Nat}{s:ES}(h:SJ N s)(hN:N<=900):HOk s:=⟨h.eok hN,h.nb,h.pop,by have:=h.va.1;omega,fun f hf=>(h.fz f hf).2⟩
theorem SJ.kok{N:Nat}{s:ES}(h:SJ N s)(hN:N<=900):KOk s:=⟨h.eok hN,h.nb,h.pop,h.va.1,fun f hf=>(h.fz f hf).2,h.kn⟩
theorem wrapJ{n:Int}{N:Nat}(h0:0<=n)(h:n<=N)(hN:N<=1000):IntKind.i64.wrap (n+1)=n+1:=wrap64 (by omega)
theorem SJ.freshP{N:Nat}{s:ES}(h:SJ N s){g gen:Int}(a1:0<=g)(a2:g<=N)(a3:0<=gen)(a4:gen<=N):SJ N {s with g:=(Co.freshP s g gen).1,p:=(Co.freshP s g gen).2,fe:=false,keep:=[],fz:=.nil,he:=false,l:=[]}:=
 have hc:ML (chainP [] (upP s.ns s.c.susp) s.c.chain):=ML.chain .nil h.up (by rw[h.c];decide)
 {h with
  g0:=a1,g1:=a2,pg0:=a3,pg1:=a4,ph0:=by show(0:Int)<=3;decide,ph1:=by show(3:Int)<=10;decide,ba0:=h.ep0,ba1:=h.ep1
  ch:=hc,va:=hc.take 1,ke:=.nil
  fl:=Nat.zero_le _,fz:=fun f hf=>by cases hf
  ne:=fun e=>by cases e
  ll:=Nat.zero_le _,kn:=fun _=>rfl}
theorem SJ.endS{N:Nat}{s:ES}(h:SJ N s)(hN:N<=900):SJ (N+1) (endS s):=by
 have h1:=h.mono (show N<=N+1 by omega)
 have hg:=h.g1;have hg0:=h.g0;have hp:=h.pg1;have hp0:=h.pg0
 unfold Co.endS endP
 cases (bestP (wkE s) s.p.base).isSome && !s.p.fresh with
 | true=>
  rw[cond_true]
  exact {h1 with
   ph0:=by show(0:Int)<=3;decide
   ph1:=by show(3:Int)<=10;decide
   ch:=ML.chain h.ke.lead h.up (by rw[h.c];decide)
   va:=h.ke
   ke:=.nil
   fl:=Nat.zero_le _
   fz:=fun f hf=>by cases hf
   ne:=fun e=>by cases e
   ll:=Nat.zero_le _
   kn:=fun _=>rfl}
 | false=>
  rw[cond_false]
  cases s.p.fresh&&decide (0<s.p.chain.length)with
  | true=>
   rw[cond_true,wrapJ hg0 hg (by omega)]
   exact h1.freshP (by omega) (by omega) (by omega) (by omega)
  | false=>exact h1.freshP hg0 (by omega) hp0 (by omega)
theorem SJ.endQ{N:Nat}{s:ES}(h:SJ N s)(hN:N<=900):SJ (N+1) (endQ s).1:=by
 unfold Co.endQ
 cases mayE s with
 | false=>exact h.mono (by omega)
 | true=>exact h.endS hN
theorem SJ.h20{N:Nat}{s:ES}{m:Msg}(h:SJ N s)(hN:N<=900):SJ (N+1) (h20P s m).1:=by
 unfold h20P
 cases decide (s.p.phase=1)&&decide (s.p.epoch=m.epoch)with
 | false=>exact h.mono (by omega)
 | true=>
  have h':SJ N {s with fe:=true}:={h with}
  exact h'.endQ hN
theorem SJ.h9{N:Nat}{s:ES}{m:Msg}(h:SJ N s)(hm:VNum m.ver/\CpOk (kM m 9))(hN:N<=890):SJ (N+2) (h9P s m).1:=by
 unfold h9P
 cases decide (s.p.phase=1)&&decide (s.p.epoch=m.epoch)with
 | false=>exact h.mono (by omega)
 | true=>
  have h':SJ (N+1) (frzS s m):=by
   unfold frzS
   cases (frozenP (wkE s) ⟨m.src,m.sboot⟩).2 with
   | true=>exact h.mono (by omega)
   | false=>
    rw[cond_false]
    have h1:=h.mono (show N<=N+1 by omega)
    have hl:(lnApp s.fz (kM m 9)).l=s.fz.l++[kM m 9]:=by
     cases s.fz <;> rfl
    have hf:=h.fl
    exact {h1 with
     fl:=by show(lnApp s.fz _).l.length<=_;rw[hl,List.length_append];simp;omega
     fz:=fun f hf=>by
      have hf:f ∈ (lnApp s.fz (kM m 9)).l:=hf
      rw[hl]at hf
      rcases List.mem_append.1 hf with e | e
      ·exact h1.fz f e
      ·have:f=kM m 9:=by simpa using e
       subst this;exact hm
     ne:=by show lnApp s.fz _ ≠ .emp;cases s.fz <;> (intro e;cases e)}
  exact h'.endQ (by omega)
theorem SJ.begin{N:Nat}{s:ES}{fr:Bool}(h:SJ N s)(hN:N<=900):SJ (N+1) (beginS s fr):=by
 have h1:=h.mono (show N<=N+1 by omega)
 have he:=h.ep1;have he0:=h.ep0
 unfold beginS
 cases decide (1099511627776<=s.p.epoch)with
 | true=>exact h1
 | false=>
  rw[cond_false]
  have hke:ML (bif fr then []else bothP s.p.valid (upP s.ns s.c.susp)):=by
   cases fr with
   | true=>exact .nil
   | false=>exact h.va.both
  have hkn:s.ns=[]->(bif fr then []else bothP s.p.valid (upP s.ns s.c.susp))=[]:=by
   intro e
   cases fr with
   | true=>rfl
   | false=>
    rw[e]
    show List.filterMap _ _=[]
    rw[List.filterMap_eq_nil_iff]
    intro a _
    rfl
  exact {h1 with
   ep0:=by show 0<=IntKind.i64.wrap (s.p.epoch+1);rw[wrapJ he0 he (by omega)];omega
   ep1:=by show IntKind.i64.wrap (s.p.epoch+1)<=_;rw[wrapJ he0 he (by omega)];omega
   ph0:=by show(0:Int)<=1;decide
   ph1:=by show(1:Int)<=10;decide
   ke:=hke
   fl:=Nat.zero_le _
   fz:=fun f hf=>by cases hf
   ne:=fun e=>by cases e
   kn:=hkn}
theorem SJ.h21{N:Nat}{s:ES}{m:Msg}(h:SJ N s)(hm:0<=m.num/\m.num<=10)(hN:N<=890):SJ (N+3) (h21P s m).1:=by
 have ha:SJ (N+1) (askS s m):=by
  have h1:=h.mono (show N<=N+1 by omega)
  have hl:=h.ll
  unfold askS
  cases s.l.any (isAsk m)with
  | true=>exact h1
  | false=>exact {h1 with ll:=by show(s.l++[askOf m]).length<=_;rw[List.length_append];simp;omega}
 unfold h21P
 cases isNo s m with
 | true=>exact h.mono (by omega)
 | false=>
  rw[cond_false]
  cases decide (s.p.reset<m.num)with
  | false=>exact ha.mono (by omega)
  | true=>
   rw[cond_true]
   have hb:SJ (N+1) {askS s m with p:=rsP1 (askS s m).p m}:={ha with re0:=hm.1,re1:=hm.2}
   have h3:SJ (N+2) (afS (askS s m) m):=by
    unfold afS
    cases decide ((askS s m).p.phase=1)&&(askS s m).p.fresh with
    | true=>exact hb.mono (by omega)
    | false=>exact hb.begin (by omega)
   exact h3.endQ (by omega)
theorem insL_mem{l:List Alive}{i:Nat}{a x:Alive}(h:x ∈ Wk.insL l i a):x ∈ l\/x=a:=by
 unfold Wk.insL at h
 rcases List.mem_append.1 h with x | x
 ·exact .inl (List.mem_of_mem_take x)
 ·rcases List.mem_cons.1 x with x | x
  ·exact .inr x
  ·exact .inl (List.mem_of_mem_drop x)
theorem SJ.h7{N:Nat}{s:ES}{m:Msg}{x:VF}(h:SJ N s)(hm:SmM ⟨m.src,m.sboot⟩):SJ (N+1) (h7P s m x):=by
 have h1:=h.mono (show N<=N+1 by omega)
 unfold h7P
 cases stale s.ns m with
 | true=>exact h1
 | false=>
  rw[cond_false]
  have hp:(vwP x s m).1=s.p\/(vwP x s m).1={s.p with valid:=s.p.chain}:=by
   cases x with
   | nil=>exact .inl rfl
   | emp=>exact .inl rfl
   | one v=>
    have e:vwP (.one v) s m=bif serves s m v then(bif decide (v.phase=3)then {s.p with valid:=s.p.chain}else s.p,true)else(s.p,s.he):=rfl
    rw[e]
    cases serves s m v with
    | false=>exact .inl rfl
    | true=>
     cases decide (v.phase=3)with
     | false=>exact .inl rfl
     | true=>exact .inr rfl
  have hle:=bsP_le s.ns m.src
  have hmem:∀ a ∈ putNs s.ns m,a ∈ s.ns\/a=alM m:=fun a ha=>by
   unfold putNs at ha
   cases hi:isAt s.ns m.src (bsP s.ns m.src)with
   | true=>rw[hi]at ha;exact List.mem_or_eq_of_mem_set ha
   | false=>rw[hi]at ha;exact insL_mem ha
  have hlen:(putNs s.ns m).length<=N+1:=by
   have:=h.nl
   unfold putNs
   cases isAt s.ns m.src (bsP s.ns m.src)with
   | true=>rw[cond_true,List.length_set];omega
   | false=>rw[cond_false,insL_len hle];omega
  have hnm:∀ a ∈ putNs s.ns m,SmM a.member/\0<=a.missed/\a.missed<=((N+1:Nat):Int):=fun a ha=>by
   rcases hmem a ha with e | e
   ·have:=h.nm a e;exact⟨this.1,this.2.1,by have:=this.2.2;omega⟩
   ·subst e;exact⟨hm,by show(0:Int)<=0;omega,by show(0:Int)<=_;omega⟩
  have hne:putNs s.ns m=[]->s.ns=[]:=fun e=>by
   unfold putNs at e
   cases hi:isAt s.ns m.src (bsP s.ns m.src)with
   | true=>rw[hi]at e;simpa using e
   | false=>rw[hi]at e;unfold Wk.insL at e;simp at e
  have key:∀ p:Plan,p=s.p\/p={s.p with valid:=s.p.chain}->SJ (N+1) {s with p:=p,he:=(vwP x s m).2,ns:=putNs s.ns m}:=fun p hp=>by
   rcases hp with e | e
   ·subst e
    exact {h1 with nl:=hlen,nm:=hnm,kn:=fun hx=>h.kn (hne hx)}
   ·subst e
    exact {h1 with va:=h.ch,nl:=hlen,nm:=hnm,kn:=fun hx=>h.kn (hne hx)}
  exact key _ hp
theorem SJ.tick{N:Nat}{s:ES}(h:SJ N s)(hN:N<=890):SJ (N+3) {(tickQ s).1 with nb:=false}:=by
 have h0:SJ (N+1) (incS s):=by
  have h1:=h.mono (show N<=N+1 by omega)
  exact {h1 with
   nl:=by show(s.ns.map incA).length<=_;rw[List.length_map];exact h1.nl
   nm:=fun a ha=>by
    obtain⟨x,hx,e⟩:=List.mem_map.1 ha
    subst e
    have:=h.nm x hx
    refine⟨this.1,?_⟩
    show 0<=IntKind.i64.wrap (x.missed+1)/\IntKind.i64.wrap (x.missed+1)<=_
    rw[wrap64 (by omega)]
    omega
   kn:=fun e=>h.kn (by
    have e:s.ns.map incA=[]:=e
    simpa using e)}
 have hnb:∀ {M:Nat} {t:ES},SJ M {t with nb:=false}->SJ M {t with nb:=false}:=id
 have h2:SJ (N+2) {lookP (blkS s)with nb:=false}:=by
  have h0':∀ fr,SJ (N+2) {beginS (blkS s) fr with nb:=false}:=fun fr=>by
   have:=h0.begin (fr:=fr) (by omega)
   have e:({beginS (blkS s) fr with nb:=false}:ES)=beginS (incS s) fr:=by
    have hn:(incS s).nb=false:=h.nb
    unfold beginS
    show({(bif decide (1099511627776<=s.p.epoch)then blkS s else wkS (blkS s) (begP s.p fr) (bif fr then []else bothP s.p.valid (upP (s.ns.map incA) s.c.susp)))with nb:=false}:ES)=bif decide (1099511627776<=s.p.epoch)then incS s else wkS (incS s) (begP s.p fr) (bif fr then []else bothP s.p.valid (upP (s.ns.map incA) s.c.susp))
    obtain⟨e,g,p,ns,nb,op,keep,fz,fe,he,l,c⟩:=s
    have hn:nb=false:=hn
    subst hn
    cases decide (1099511627776<=p.epoch) <;> rfl
   rw[e];exact this
  rcases look_begin (blkS s)with e | ⟨fr,e⟩
  ·rw[e]
   have e2:({blkS s with nb:=false}:ES)=incS s:=by
    obtain⟨e,g,p,ns,nb,op,keep,fz,fe,he,l,c⟩:=s
    have hn:nb=false:=h.nb
    subst hn
    rfl
   rw[e2];exact h0.mono (by omega)
  ·rw[e];exact h0' fr
 unfold tickQ againQ
 cases hm:mayE (lookP (blkS s))with
 | true=>exact h2.endS (by omega)
 | false=>exact h2.mono (by omega)
theorem cp_opMg(k f t g s n:Int):CpOk (opMg k f t g s n):=⟨Nat.zero_le _,Nat.zero_le _,rfl,Nat.zero_le _,Nat.zero_le _⟩
theorem nodup_len:∀ (l L:List Int),l.Nodup->(∀ x ∈ l,x ∈ L)->l.length<=L.length
 | [],_,_,_=>Nat.zero_le _
 | x::r,L,h,hm=>by
  obtain⟨h1,h2⟩:=List.nodup_cons.1 h
  have hx:=hm x (List.mem_cons_self ..)
  have ih:=nodup_len r (L.erase x) h2 fun y hy=>(List.mem_erase_of_ne (a:=y) (b:=x) fun e=>h1 (by rw[<- e];exact hy)).2 (hm y (List.mem_cons_of_mem _ hy))
  rw[List.length_erase_of_mem hx]at ih
  have:=List.length_pos_of_mem hx
  rw[List.length_cons];omega
theorem nodup3{l:List Int}(h:l.Nodup)(hm:∀ x ∈ l,100<=x/\x<=102):l.length<=3:=
 nodup_len l [100,101,102] h fun x hx=>by
  have:=hm x hx
  simp only[List.mem_cons,List.not_mem_nil,or_false]
  omega
theorem SJ.giv{N:Nat}{s:ES}{m:Msg}{rest:List Msg}(h:SJ N s)(hm:100<=m.src/\m.src<=102)(hN:N<=900)(h1:∀ x ∈ rest,CpOk x/\100<=x.src/\x.src<=102)(h2:(rest.map (·.src)).Nodup)(h3:∀ x ∈ rest,x.src ≠ m.src):SJ (N+1) (givR s m rest).1:=by
 have hs:=h.mono (show N<=N+1 by omega)
 have he:=h.e1;have he0:=h.e0
 unfold givR
 cases decide (s.e<s.c.sess)with
 | false=>exact hs
 | true=>
  have hu:up1 s=s.e+1:=wrapJ he0 he (by omega)
  have hmem:∀ x ∈ rest++[givM s m],CpOk x/\100<=x.src/\x.src<=102:=fun x hx=>by
   rcases List.mem_append.1 hx with e | e
   ·exact h1 x e
   ·have:x=givM s m:=by simpa using e
    subst this
    exact⟨cp_opMg ..,hm⟩
  have hnd:((rest++[givM s m]).map (·.src)).Nodup:=by
   rw[List.map_append]
   refine List.nodup_append.2 ⟨h2,by simp,fun a ha b hb=>?_⟩
   obtain⟨x,hx,e⟩:=List.mem_map.1 ha
   have:b=(givM s m).src:=by simpa using hb
   have:b=m.src:=this
   subst this;subst e
   exact h3 x hx
  exact {hs with
   e0:=by show 0<=up1 s;omega
   e1:=by show up1 s<=_;omega
   ol:=by
    have:=nodup3 hnd fun x hx=>by
     obtain⟨y,hy,e⟩:=List.mem_map.1 hx
     subst e;exact(hmem y hy).2
    simpa using this
   om:=hmem
   on:=hnd}
theorem SJ.opR{N:Nat}{s:ES}{m:Msg}(h:SJ N s)(hm:100<=m.src/\m.src<=102)(hN:N<=900):∀ (l pre:List Msg),(∀ x ∈ pre++l,CpOk x/\100<=x.src/\x.src<=102)->((pre++l).map (·.src)).Nodup->(∀ x ∈ pre,x.src ≠ m.src)->SJ (N+1) (opR s m pre l).1
 | [],pre,h1,h2,h3=>by
  rw[List.append_nil]at h1 h2
  exact h.giv hm hN h1 h2 h3
 | a::r,pre,h1,h2,h3=>by
  unfold Co.opR
  by_cases ha:a.src=m.src
  ·rw[decide_eq_true ha,cond_true]
   cases decide (a.num=m.num)with
   | true=>exact h.mono (by omega)
   | false=>
    have hsub:(pre++r).Sublist (pre++a::r):=List.Sublist.append (List.Sublist.refl _) (List.sublist_cons_self a r)
    refine h.giv hm hN (fun x hx=>h1 x (hsub.subset hx)) (h2.sublist (hsub.map _)) fun x hx=>?_
    rcases List.mem_append.1 hx with e | e
    ·exact h3 x e
    ·rw[List.map_append,List.map_cons]at h2
     have:=(List.nodup_cons.1 (List.nodup_append.1 h2).2.1).1
     intro hx
     exact this (List.mem_map.2 ⟨x,e,hx.trans ha.symm⟩)
  ·rw[decide_eq_false ha,cond_false]
   have e:(pre++[a])++r=pre++a::r:=by simp
   refine SJ.opR h hm hN r (pre++[a]) (by rw[e];exact h1) (by rw[e];exact h2) fun x hx=>?_
   rcases List.mem_append.1 hx with e | e
   ·exact h3 x e
   ·have:x=a:=by simpa using e
    subst this;exact ha
theorem SJ.h1{N:Nat}{s:ES}{m:Msg}(h:SJ N s)(hm:100<=m.src/\m.src<=102)(hN:N<=900):SJ (N+1) (h1P s m).1:=
 h.opR hm hN s.op [] h.om h.on fun x hx=>by cases hx
def bkOf(s:ES):Md.Book:=⟨s.e,s.g,[s.p]⟩
theorem gBk_eq{R:Type}{s:ES}{K:Md.Book->Option R}(h:BookOk (bkOf s)):gBk s K=K (bkOf s):=by
 refine gC_eq (bkOf s) ?_ h (.cons (.agg (.cons (.refl _) (.cons (.refl _) (.cons (SubV.trl_encL (e:=encPlan) (z:=default) [s.p]) .nil)))) .nil)
 show(⟨s.e,s.g,[decPlan (encPlan s.p)]⟩:Md.Book)=_
 rw[dec_encPlan];rfl
theorem gBE_eq{R:Type}{a b:List Int}{K:List Int × List Int->Option R}(ha:ByL a)(hb:ByL b):gBE a b K=K (a,b):=q2B ha hb
def nxN(s t:ES)(n:Nat):Nat:=if putB (bkOf t)=putB (bkOf s)then n else n+addN n (putB (bkOf t)).length
theorem kKP_ok:(kKP putB).Ok PG:=Known.spec_ok kput_con
theorem knK_ok(t:ES)(n N:Nat):∀ k ∈ knK putB t n N,k.Ok PG:=ak kKP_ok (ak kBEq_ok (ak (kCon_ok _ _ _) (ak (kCon_ok _ _ _) (ak (kCon_ok _ _ _) (ak (kCon_ok _ _ _) (ak (Known.never_ok _) ank))))))
theorem do_con{f g:Nat}{args ga:List AV}{c:CConf}{s t:ES}{n:Nat}(e:∀ N,callC 1 (eK putB t n N) 40 f args (hK c s n)=doK putB c s t n N (gCon g ga [] (rK t) []))(hg:Contract PG g ga [] (rK t) [])
  (hs:BookOk (bkOf s)) (ht:BookOk (bkOf t)) (hl:(putB (bkOf t)).length<=200) (hn:n<=16000):CG f args (hK c s n) tK (hO c t (nxN s t n)):=by
 have e:=e (addN n (putB (bkOf t)).length)
 have hN:addN n (putB (bkOf t)).length<=236:=by unfold addN;split <;> omega
 unfold doK at e
 rw[gBk_eq hs,gCon_eq ⟨hg,Nat.le_refl 0⟩,gBk_eq ht,gBE_eq (putB_by _) (putB_by _)]at e
 have fin:∀ {k:Nat},callC 1 (eK putB t n (addN n (putB (bkOf t)).length)) 40 f args (hK c s n)=some (tK,hO c t k)->CG f args (hK c s n) tK (hO c t k):=fun e=>conC (knK_ok _ _ _) (by show 1<=5;omega) e
 unfold nxN
 by_cases h:putB (bkOf t)=putB (bkOf s)
 ·rw[decide_eq_true h,cond_true]at e
  rw[if_pos h]
  exact fin e
 ·rw[decide_eq_false h,cond_false,gCon_eq (add_con n _ (by omega) (by omega)),gCon_eq (flush_con n _ _ (by omega)),decide_eq_false (by omega),cond_false]at e
  rw[if_neg h]
  exact fin e
theorem natB_2{x:Int}(h0:0<=x)(h:x<=16000):(natB 11 x).length<=2:=by
 show(if 127<x then(128+x % 128)::(if 127<x / 128 then(128+x / 128 % 128)::natB 9 (x / 128 / 128)else [x / 128])else [x]).length<=2
 split
 ·rw[if_neg (by omega)];simp
 ·simp
theorem intB_2{n:Int}(h0:0<=n)(h:n<=2000):(intB n).length<=2:=by
 unfold intB zig
 rw[if_neg (by omega)]
 exact natB_2 (by omega) (by omega)
def Sm2(n:Int):Prop:=0<=n/\n<=2000
theorem numsB_2:∀ {l:List Int},(∀ n ∈ l,Sm2 n)->(numsB l).length<=2*l.length
 | [],_=>Nat.le_refl _
 | x::r,h=>by
  have h1:=h x (List.mem_cons_self ..)
  have h2:=intB_2 h1.1 h1.2
  have ih:=numsB_2 (l:=r) fun n hn=>h n (List.mem_cons_of_mem _ hn)
  rw[nums_cons,List.length_append,List.length_cons];omega
theorem memsB_2{l:List Member}(h:ML l):(memsB l).length<=14:=by
 have key:∀ l:List Member,(∀ m ∈ l,SmM m)->(l.flatMap memB).length<=4*l.length:=fun l=>by
  induction l with
  | nil=>intro _;exact Nat.le_refl _
  | cons m r ih=>
   intro h
   have hm:=h m (List.mem_cons_self ..)
   unfold SmM at hm
   have h2:(memB m).length<=4:=numsB_2 (l:=[m.node,m.boot]) fun n hn=>by
    simp only[List.mem_cons,List.not_mem_nil,or_false]at hn
    unfold Sm2
    rcases hn with e | e <;> subst e <;> omega
   have ih:=ih fun m hm=>h m (List.mem_cons_of_mem _ hm)
   rw[List.flatMap_cons,List.length_append,List.length_cons];omega
 have h1:=key l h.2
 have hl:=h.1
 have h2:=intB_2 (n:=(l.length:Int)) (by omega) (by omega)
 unfold memsB
 rw[List.length_append];omega
theorem viewB_2{v:Md.View}(h:Sm2 v.shard/\Sm2 v.epoch/\Sm2 v.gen/\Sm2 v.phase)(hc:ML v.chain):(viewB v).length<=22:=by
 have h1:(numsB [v.shard,v.epoch,v.gen,v.phase]).length<=8:=numsB_2 fun n hn=>by
  simp only[List.mem_cons,List.not_mem_nil,or_false]at hn
  obtain⟨a,b,c,d⟩:=h
  rcases hn with e | e | e | e <;> subst e <;> assumption
 have h2:=memsB_2 hc
 unfold viewB
 rw[List.length_append];omega
theorem sm0:Sm2 0:=by unfold Sm2;omega
theorem putB_2{N:Nat}{s:ES}(h:SJ N s)(hN:N<=1000):(putB (bkOf s)).length<=200:=by
 obtain⟨_,_,e0,e1,g0,g1,ep0,ep1,pg0,pg1,ph0,ph1,ba0,ba1,re0,re1,ch,va,_⟩:=h
 have v1:(viewB ⟨((0:Nat):Int),s.p.epoch,s.p.gen,s.p.phase,s.p.chain⟩).length<=22:=viewB_2 ⟨sm0,⟨ep0,by show s.p.epoch<=2000;omega⟩,⟨pg0,by show s.p.gen<=2000;omega⟩,⟨ph0,by show s.p.phase<=2000;omega⟩⟩ ch
 have v2:(viewB ⟨((0:Nat):Int),s.p.base,s.p.reset,bif s.p.fresh then 1 else 0,s.p.valid⟩).length<=22:=viewB_2 ⟨sm0,⟨ba0,by show s.p.base<=2000;omega⟩,⟨re0,by show s.p.reset<=2000;omega⟩,by show Sm2 (bif s.p.fresh then 1 else 0);cases s.p.fresh <;> (simp only[cond_true,cond_false];unfold Sm2;omega)⟩ va
 have n1:(numsB [4,0,0,0,0,0,0,s.g,s.e,0,0,0]).length<=24:=numsB_2 fun n hn=>by
  simp only[List.mem_cons,List.not_mem_nil,or_false]at hn
  unfold Sm2
  omega
 have vs:(viewsB (vOf [s.p] 0)).length<=46:=by
  have h2:=intB_2 (n:=((vOf [s.p] 0).length:Int)) (by omega) (by show(2:Int)<=2000;omega)
  unfold viewsB
  rw[List.length_append]
  have:((vOf [s.p] 0).flatMap viewB).length<=44:=by
   show(viewB ⟨((0:Nat):Int),s.p.epoch,s.p.gen,s.p.phase,s.p.chain⟩++(viewB ⟨((0:Nat):Int),s.p.base,s.p.reset,bif s.p.fresh then 1 else 0,s.p.valid⟩++[])).length<=44
   rw[List.append_nil,List.length_append];omega
  omega
 have c1:(textB []).length=1:=by decide +kernel
 have c2:(verB ⟨0,0⟩).length=2:=by decide +kernel
 have c3:(opB ⟨0,[],[],[],false⟩).length<=10:=by decide +kernel
 have c4:(entsB []).length=1:=by decide +kernel
 have c5:(memsB []).length=1:=by decide +kernel
 have c6:(imgB ⟨⟨0,0⟩,⟨0,0⟩,0,[],[]⟩).length<=20:=by decide +kernel
 show(numsB [4,0,0,0,0,0,0,s.g,s.e,0,0,0]++[bitI false,bitI false]++textB []++textB []++verB ⟨0,0⟩++verB ⟨0,0⟩++opB ⟨0,[],[],[],false⟩++entsB []++memsB []++viewsB (vOf [s.p] 0)++imgB ⟨⟨0,0⟩,⟨0,0⟩,0,[],[]⟩).length<=200
 simp only[List.length_append,List.length_cons,List.length_nil]
 omega
theorem i64_of{n:Int}(h0:0<=n)(h:n<=100000):I64 n:=by unfold I64;omega
theorem ML.k{l:List Member}(h:ML l):MemsK l:=⟨by have:=h.1;omega,fun m hm=>by
 have:=h.2 m hm
 unfold SmM at this
 exact⟨i64_of this.1 (by omega),i64_of this.2.2.1 (by omega)⟩⟩
theorem SJ.bok{N:Nat}{s:ES}(h:SJ N s)(hN:N<=1000):BookOk (bkOf s):=by
 obtain⟨_,_,e0,e1,g0,g1,ep0,ep1,pg0,pg1,ph0,ph1,ba0,ba1,re0,re1,ch,va,_⟩:=h
 refine⟨i64_of e0 (by show s.e<=100000;omega),i64_of g0 (by show s.g<=100000;omega),by show 1<=400;omega,fun p hp=>?_⟩
 have:p=s.p:=by simpa [bkOf] using hp
 subst this
 exact⟨i64_of ep0 (by omega),i64_of pg0 (by omega),i64_of ph0 (by omega),i64_of ba0 (by omega),i64_of re0 (by omega),ch.k,va.k⟩
def mdM(m:MD):Msg:={msgZ with kind:=m.k,src:=m.f,dst:=m.d,sboot:=m.so,epoch:=m.e,num:=m.n,a:=m.a,has:=m.h}
structure MOk(m:MD):Prop where
 k:(m.k=7/\m.vn=1/\SmM ⟨m.f,m.so⟩)\/m.vn=0/\(m.k=1/\(100<=m.f/\m.f<=102)\/m.k=20\/m.k=9\/m.k=21/\0<=m.n/\m.n<=10)
def hP(s:ES)(m:MD):ES:=bif decide (m.k=7)then h7P s (mdM m) (.one (vwM m))else bif decide (m.k=1)then(h1P s (mdM m)).1 else bif decide (m.k=20)then(h20P s (mdM m)).1 else bif decide (m.k=9)then(h9P s (mdM m)).1 else(h21P s (mdM m)).1
def tP(s:ES):ES:={(tickQ s).1 with nb:=false}
theorem msC_sub{m:MD}{k:Int}(h:m.vn=0)(hk:m.k=k):SubC (msC m) (encMsg (kM (mdM m) k)):=by
 subst hk
 have h5:SubV (vwC m) (encViews []):=by
  unfold vwC
  rw[h]
  exact SubV.trs (g:=fun i=>encView (([]:List Md.View).getD i default)) fun i hi=>absurd hi (Nat.not_lt_zero i)
 exact subC_all (by repeat' (first | exact trivial | exact h5 | exact nilsL | exact SubV.refl _ | refine⟨?_,?_⟩))
theorem msB_sub{m:MD}(h:m.vn=1)(hk:m.k=7):SubC (msC m) (beM (mdM m) (.one (vwM m))):=by
 have h5:SubV (vwC m) (.trl 5 [encView (vwM m)]):=by
  unfold vwC
  rw[h]
  exact SubV.toTrl (es:=[encView (vwM m)]) (Nat.zero_lt_one) fun i hi=>by
   have:i=0:=by have:i<1:=hi;omega
   subst this;exact .refl _
 have h6:SubV (.int .i64 m.k) (.int .i64 7):=by rw[hk];exact .refl _
 exact subC_all (by repeat' (first | exact trivial | exact h5 | exact h6 | exact nilsL | exact SubV.refl _ | refine⟨?_,?_⟩))
theorem cp_md(m:MD)(k:Int):CpOk (kM (mdM m) k):=⟨Nat.zero_le _,Nat.zero_le _,rfl,Nat.zero_le _,Nat.zero_le _⟩
theorem rK_of{s:ES}{ga:List AV}{x:ES × List Msg}{g:Nat}(h:Contract PG g ga [] (ansB x) [])(e:buT x.1=buT s):Contract PG g ga [] (rK s) []:=by
 refine h.res (.tup (.cons ?_ (.cons (fun w I u _=>.undef u) .nil)))
 rw[e];exact .refl _
theorem hP_ok{N:Nat}{s:ES}{m:MD}(h:SJ N s)(hm:MOk m)(hN:N<=880):Contract PG F_coord_Handle [.agg (buT s),.agg (encCf s.c),.agg (msC m)] [] (rK (hP s m)) []/\SJ (N+3) (hP s m):=by
 have hk:=h.hok (by omega)
 rcases hm.k with ⟨hm,hv,hf⟩ | ⟨hv,⟨hm,hf⟩ | hm | hm | ⟨hm,hn⟩⟩ <;> unfold hP <;> rw[hm]
 ·exact⟨rK_of ((h7_all (m:=mdM m) (x:=.one (vwM m)) hk).args (.cons (.refl _) (.cons (.refl _) (.cons (.agg (msB_sub hv hm)) .nil)))) rfl,(h.h7 (m:=mdM m) (x:=.one (vwM m)) hf).mono (by omega)⟩
 ·exact⟨rK_of ((h1_con (m:=mdM m) hk h.ne h.ol).args (.cons (.refl _) (.cons (.refl _) (.cons (.agg (msC_sub hv hm)) .nil)))) rfl,(h.h1 (m:=mdM m) hf (by omega)).mono (by omega)⟩
 ·exact⟨rK_of ((h20_con (m:=mdM m) hk).args (.cons (.refl _) (.cons (.refl _) (.cons (.agg (msC_sub hv hm)) .nil)))) rfl,(h.h20 (m:=mdM m) (by omega)).mono (by omega)⟩
 ·have hv2:VNum (mdM m).ver:=⟨0,0,by decide,by decide,(by decide +kernel:(⟨0,0⟩:Ver)=vr 0 0)⟩
  have hl:=h.fl
  exact⟨rK_of ((h9_con (m:=mdM m) ⟨hk,h.ne,by omega,cp_md _ _,hv2⟩).args (.cons (.refl _) (.cons (.refl _) (.cons (.agg (msC_sub hv hm)) .nil)))) rfl,(h.h9 (m:=mdM m) ⟨hv2,cp_md _ _⟩ (by omega)).mono (by omega)⟩
 ·have hl:=h.ll
  exact⟨rK_of ((h21_con (m:=mdM m) hk h.ne (by omega)).args (.cons (.refl _) (.cons (.refl _) (.cons (.agg (msC_sub hv hm)) .nil)))) rfl,h.h21 (m:=mdM m) hn (by omega)⟩
theorem tP_ok{N:Nat}{s:ES}(h:SJ N s)(hN:N<=880):Contract PG F_coord_Tick [.agg (buT s),.agg (encCf s.c)] [] (rK (tP s)) []/\SJ (N+3) (tP s):=
 ⟨rK_of (tick_con (h.kok (by omega))) rfl,h.tick (by omega)⟩
theorem kh_con{N n:Nat}{s:ES}{m:MD}(h:SJ N s)(hm:MOk m)(hN:N<=880)(hn:n<=16000):CG F_keeper_Keeper_Handle [.ptr 0 0 0,.agg (msC m)] (hK s.c s n) tK (hO s.c (hP s m) (nxN s (hP s m) n)):=by
 obtain⟨h1,h2⟩:=hP_ok h hm hN
 exact do_con (fun k=>kh_eq putB s.c s (hP s m) n k m) h1 (h.bok (by omega)) (h2.bok (by omega)) (putB_2 h2 (by omega)) hn
theorem kt_con{N n:Nat}{s:ES}(h:SJ N s)(hN:N<=880)(hn:n<=16000):CG F_keeper_Keeper_Tick [.ptr 0 0 0] (hK s.c s n) tK (hO s.c (tP s) (nxN s (tP s) n)):=by
 obtain⟨h1,h2⟩:=tP_ok h hN
 exact do_con (fun k=>kt_eq putB s.c s (tP s) n k) h1 (h.bok (by omega)) (h2.bok (by omega)) (putB_2 h2 (by omega)) hn
theorem nx_le{N n:Nat}{s t:ES}(h:SJ N t)(hN:N<=1000)(k:Nat)(hn:n<=236*k):nxN s t n<=236*(k+1):=by
 have:=putB_2 h hN
 unfold nxN addN
 split
 ·omega
 ·split <;> omega
theorem cloS_Mem(l:List Member)(h:l.length<=1000):Contract PG F_slices_Clone_api_Member [encMembers l] [] (.sn 2 0 l.length) [.seq true 2 l.length fun i=>encMember (l.getD i default)]:=clone_sn (b:=16) (by omega) (by kernel_rfl) (by kernel_rfl) (fun n f=>by kernel_rfl) _ (by omega)
theorem cloS_Al(l:List Alive)(h:l.length<=1000):Contract PG F_slices_Clone_api_Alive [encAlives l] [] (.sn 3 0 l.length) [.seq true 3 l.length fun i=>encAlive (l.getD i default)]:=clone_sn (b:=24) (by omega) (by kernel_rfl) (by kernel_rfl) (fun n f=>by kernel_rfl) _ (by omega)
def bM(l:List Member):BS:=.seq true 2 l.length fun i=>encMember (l.getD i default)
def bA(l:List Alive):BS:=.seq true 3 l.length fun i=>encAlive (l.getD i default)
def bG(l:List Msg):BS:=.seq true 31 l.length fun i=>encMsg (l.getD i default)
def kSM:Known:=.specB F_slices_Clone_api_Member (dL decMember) (fun l=>l.length<=1000) eMems fun l=>(.sn 2 0 l.length,[bM l])
def kSA:Known:=.specB F_slices_Clone_api_Alive (dL decAlive) (fun l=>l.length<=1000) eAls fun l=>(.sn 3 0 l.length,[bA l])
def kSG:Known:=.specB F_twin_Msgs (dL decMsg) pOp eOpL fun l=>(.sn 31 0 l.length,[bG l])
def knU:List Known:=[kSM,kSA,kSG]
theorem knU_ok:∀ k ∈ knU,k.Ok PG:=ak (Known.specB_ok cloS_Mem) (ak (Known.specB_ok cloS_Al) (ak (Known.specB_ok opB_con) ank))
def eU:Env:=envN [] [(F_slices_Clone_api_Member,1),(F_slices_Clone_api_Alive,1),(F_twin_Msgs,1)] [] knU
def gSM{R:Type}(l:List Member)(k:List Member->Option R):Option R:=gC (dL decMember) (fun l=>l.length<=1000) eMems [encMembers l] k
def gSA{R:Type}(l:List Alive)(k:List Alive->Option R):Option R:=gC (dL decAlive) (fun l=>l.length<=1000) eAls [encAlives l] k
def gSG{R:Type}(v:AV)(k:List Msg->Option R):Option R:=gC (dL decMsg) pOp eOpL [v] k
def plU(p:Plan)(C V:AV):List AV:=[.int .i64 p.epoch,.int .i64 p.gen,.int .i64 p.phase,.bool p.fresh,.int .i64 p.base,.int .i64 p.reset,C,V]
def buU(s:ES)(F A:AV):List AV:=[.int .i64 s.e,.int .i64 s.g,.trl 8 [encPlan s.p],encAlives s.ns,.trl 4 [[.bool s.fe,encMembers s.keep,F,.bool s.he]],opV s.op,A]
theorem bu_eq(s:ES)(f a:List Msg):callC 0 eU 20 F_twin_Bureau [.agg (buU s (encMsgs f) (encMsgs a))] [] =
 gSM s.p.chain fun y0=>gSM s.p.valid fun y1=>gSA s.ns fun y2=>gSM s.keep fun y3=>gSG (encMsgs f) fun y4=>gSG (opV s.op) fun y5=>gSG (encMsgs a) fun y6=>
  some (.agg [.int .i64 s.e,.int .i64 s.g,.sl 8 0 0 1 1,.sn 3 3 y2.length,.sl 4 4 0 1 1,.sn 31 7 y5.length,.sn 31 8 y6.length],
   [.arr true 8 [plU s.p (.sn 2 1 y0.length) (.sn 2 2 y1.length)],bM y0,bM y1,bA y2,.arr true 4 [[.bool s.fe,.sn 2 5 y3.length,.sn 31 6 y4.length,.bool s.he]],bM y3,bG y4,bG y5,bG y6]):=by kernel_rfl
end Go.Kp
end
noncomputable section
open Go Go.AM Go.Md
namespace Go.Wk
set_option maxRecDepth 100000
set_option maxHeartbeats 0
theorem awakeK_eq:callT env0 400 F_lockgatelaw22_awake []=some (.bool true):=by kernel_rfl
theorem awakeK_con:Contract PG F_lockgatelaw22_awake [] [] (.bool true) []:=con0 awakeK_eq
def kAwakeK:Known:=.spec (X:=Unit) F_lockgatelaw22_awake (fun _=>()) (fun _=>True) (fun _=>[]) (fun _=>.bool true)
theorem kAwakeK_ok:kAwakeK.Ok PG:=Known.spec_ok fun _ _=>awakeK_con
end Go.Wk
end
