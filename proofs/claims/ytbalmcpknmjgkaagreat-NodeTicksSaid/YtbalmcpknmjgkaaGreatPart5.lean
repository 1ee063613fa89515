/- Part 5 of the texts that the proof needs: the abstract machine, plain laws, contracts of the program's functions. No statement is claimed here. -/
import Derived.Test.YtbalmcpknmjgkaaGreatPart4
set_option linter.unusedVariables false
set_option linter.unusedSimpArgs false
noncomputable section
open Go Go.AM Go.Md
namespace Go.Hd
open Go.Wk
set_option maxRecDepth 100000
set_option maxHeartbeats 400000
def rowB(a:Md.Ask)(b n:Nat):List AV:=[.int .i64 a.num,.str a.key,.sn 31 b n]
def hpB(w:Wrk)(I:Nat)(a:Md.Ask)(cur:Bool):Heap:=[.arr true 44 [wrkC w (.sn 4 1 w.d.waits.length) (.sn 3 2 w.d.asks.length) (.sn 31 4 w.out.length)],.seq true 4 w.d.waits.length (fWt w.d.waits),.sqr true 3 w.d.asks.length (fAk w.d.asks) I (rowB a 3 a.calls.length) [3] cur,.seq true 31 a.calls.length (fMg a.calls),.seq true 31 w.out.length (fMg w.out)]
def bdA:Code:=bodyOf (eAs knAs) F_head_work_ask
def A0:Code:=sub bdA [.L]
def A1:Code:=sub bdA [.R,.L,.L]
def ALp:Code:=sub bdA [.R,.L,.R,.L,.L]
def A2:Code:=sub bdA [.R,.R]
theorem bdA_eq:bdA=.seq A0 (.seq (.seq A1 (.block 0 (.loop ALp))) A2):=by kernel_rfl
def SA0(w:Wrk)(I:Nat)(a:Md.Ask)(q:Msg):St:={fr:=(3,.ptr 5 0 0)::mkFrame 0 [.ptr 0 0 0,.agg (encMsg q)],hp:=hpB w I a false++[.arr true 31 [encMsg q]]}
def SA(w:Wrk)(I:Nat)(a:Md.Ask)(q:Msg)(i:Int)(cur:Bool):St:={fr:=[(0,.ptr 0 0 0),(3,.ptr 5 0 0),(12,.int .i64 w.d.asks.length),(13,.int .i64 i)],hp:=hpB w I a cur++[.arr true 31 [encMsg q]]}
def SAT(w:Wrk)(I:Nat)(a:Md.Ask)(q y:Msg):St:={fr:=[],hp:=[.arr true 44 [wrkC w (.sn 4 1 w.d.waits.length) (.sn 3 2 w.d.asks.length) (.sn 31 4 w.out.length)],.seq true 4 w.d.waits.length (fWt w.d.waits),.sqr true 3 w.d.asks.length (fAk w.d.asks) I (rowB a 7 (a.calls.length+1)) [3,7] true,.dead,.seq true 31 w.out.length (fMg w.out),.arr true 31 [encMsg q],.arr true 31 [encMsg y],.seq true 31 (a.calls.length+1) (appN a.calls.length (fMg a.calls) (.list [encMsg y]))]}
def evA(x:Code)(K:AX->St->Option St)(s:St):Option St:=evC (eAs knAs) (evFn (eAs knAs) 0) F_head_work_ask 103 0 5 0 x K s
theorem a_p0(w:Wrk)(I:Nat)(a:Md.Ask)(q:Msg):evA A0 (kAt .normal id) {fr:=mkFrame 0 [.ptr 0 0 0,.agg (encMsg q)],hp:=hpB w I a false}=some (SA0 w I a q):=by kernel_rfl
theorem a_p1(w:Wrk)(I:Nat)(a:Md.Ask)(q:Msg):evA A1 (kAt .normal (norm 5 [0,3,12,13])) (SA0 w I a q)=some (SA w I a q 0 false):=by kernel_rfl
theorem a_st(w:Wrk)(I:Nat)(a:Md.Ask)(q:Msg)(i:Int):evA ALp (kAt .normal (norm 5 [0,3,12,13])) (SA w I a q i false) =
 bif decide (i<(w.d.asks.length:Int))then rg i w.d.asks.length (bif i.toNat.blt w.d.asks.length && !i.toNat.beq I then bif strBeq (w.d.asks.getD i.toNat default).key q.op.key then
   bif i.toNat.blt w.d.asks.length && !i.toNat.beq I then bif decide (((w.d.asks.getD i.toNat default).calls.length:Int)<w.c.maxLog)then
    bif i.toNat.blt w.d.asks.length && !i.toNat.beq I then gC (fun a=>decMsg (argC a 0)) MsOk (fun m=>[.agg (encMsg m)]) [.agg (encMsg q)] fun _=>bif(((w.d.asks.getD i.toNat default).calls.length+1)*392).ble 140737488355328&&((w.d.asks.getD i.toNat default).calls.length+1).ble 140737488355328 then none else none else none
   else none else none
  else some (SA w I a q (IntKind.i64.wrap (i+1)) false)else none)
 else none:=by kernel_rfl
theorem a_hit(w:Wrk)(I:Nat)(a:Md.Ask)(q:Msg)(i:Int):evA ALp (kAt .ret (selS [])) (SA w I a q i true) =
 bif decide (i<(w.d.asks.length:Int))then rg i w.d.asks.length (bif i.toNat.blt w.d.asks.length&&i.toNat.beq I then bif strBeq a.key q.op.key then
   bif i.toNat.blt w.d.asks.length&&i.toNat.beq I then bif decide ((a.calls.length:Int)<w.c.maxLog)then
    bif i.toNat.blt w.d.asks.length&&i.toNat.beq I then gC (fun a=>decMsg (argC a 0)) MsOk (fun m=>[.agg (encMsg m)]) [.agg (encMsg q)] fun y=>bif a.calls.length.ble a.calls.length then bif((a.calls.length+1)*392).ble 140737488355328&&(a.calls.length+1).ble 140737488355328 then
     bif i.toNat.blt w.d.asks.length&&i.toNat.beq I then some (SAT w I a q y)else none else none else none else none
   else some {fr:=[],hp:=(SA w I a q i true).hp}else none
  else none else none)
 else none:=by kernel_rfl
def hpD5(w:Wrk):Heap:=[.arr true 44 [wrkC w (.sn 4 5 w.d.waits.length) (.sn 3 6 w.d.asks.length) (.sn 31 7 w.out.length)],.dead,.dead,.dead,.dead,.seq true 4 w.d.waits.length (fWt w.d.waits),.seq true 3 w.d.asks.length (fAk w.d.asks),.seq true 31 w.out.length (fMg w.out)]
def addA(l:List Md.Ask)(I:Nat)(q:Msg):List Md.Ask:=l.set I {l.getD I default with calls:=(l.getD I default).calls++[q]}
def askedW(w:Wrk)(I:Nat)(q:Msg):Wrk:={w with d:={w.d with asks:=addA w.d.asks I q}}
def Takes(w:Wrk)(I:Nat)(q:Msg):Prop:=I<w.d.asks.length/\(w.d.asks.getD I default).key=q.op.key/\(∀ j,j<I->(w.d.asks.getD j default).key ≠ q.op.key)/\(((w.d.asks.getD I default).calls.length:Int)<w.c.maxLog)/\(w.d.asks.getD I default).calls.length<=100000/\w.d.asks.length<=100000/\MsOk q
def hF1(w:Wrk)(I:Nat)(a:Md.Ask)(q:Msg):Heap:=[.arr true 44 [wrkC w (.sn 4 5 w.d.waits.length) (.sn 3 6 w.d.asks.length) (.sn 31 9 w.out.length)],.dead,.dead,.dead,.dead,.seq true 4 w.d.waits.length (fWt w.d.waits),.sqr true 3 w.d.asks.length (fAk w.d.asks) I (rowB a 8 (a.calls.length+1)) [7,8] true,.dead,.seq true 31 (a.calls.length+1) (appN a.calls.length (fMg a.calls) (.list [encMsg q])),.seq true 31 w.out.length (fMg w.out)]
theorem a_fin(w:Wrk)(I:Nat)(a:Md.Ask)(q y:Msg):cnK 1 5 (tupled []) (SAT w I a q y).hp=some (.tup [],hF1 w I a y):=by kernel_rfl
def hF2(w:Wrk)(I:Nat)(a:Md.Ask)(q:Msg):Heap:=[.arr true 44 [wrkC w (.sn 4 5 w.d.waits.length) (.sn 3 6 w.d.asks.length) (.sn 31 9 w.out.length)],.dead,.dead,.dead,.dead,.seq true 4 w.d.waits.length (fWt w.d.waits),.seq true 3 w.d.asks.length (fun j=>bif Nat.beq j I then [.int .i64 a.num,.str a.key]++[.tr 31 (a.calls.length+1) (appN a.calls.length (fMg a.calls) (.list [encMsg q]))]else fAk w.d.asks j),.dead,.dead,.seq true 31 w.out.length (fMg w.out)]
def hF3(w:Wrk)(I:Nat)(a:Md.Ask)(q:Msg):Heap:=[.arr true 44 [wrkC w (.sn 4 5 w.d.waits.length) (.sn 3 6 w.d.asks.length) (.sn 31 7 w.out.length)],.dead,.dead,.dead,.dead,.seq true 4 w.d.waits.length (fWt w.d.waits),.seq true 3 w.d.asks.length (fun j=>bif Nat.beq j I then [.int .i64 a.num,.str a.key]++[.tr 31 (a.calls.length+1) (appN a.calls.length (fMg a.calls) (.list [encMsg q]))]else fAk w.d.asks j),.seq true 31 w.out.length (fMg w.out)]
theorem a_fin2(w:Wrk)(I:Nat)(a:Md.Ask)(q:Msg):cnK 1 5 (.tup []) (hF2 w I a q)=some (.tup [],hF3 w I a q):=by kernel_rfl
theorem addA_row(l:List Md.Ask)(I:Nat)(q:Msg)(hI:I<l.length)(j:Nat)(hj:j<l.length) :
  (bif Nat.beq j I then [AV.int .i64 (l.getD I default).num,.str (l.getD I default).key]++[.tr 31 ((l.getD I default).calls.length+1) (appN (l.getD I default).calls.length (fMg (l.getD I default).calls) (.list [encMsg q]))]else fAk l j)=fAk (addA l I q) j:=by
 have e:appN (l.getD I default).calls.length (fMg (l.getD I default).calls) (.list [encMsg q])=fMg ((l.getD I default).calls++[q]):=appN_f _ _ _ _
 rw[e]
 by_cases h:j=I
 ·subst h
  rw[beq_true rfl,cond_true]
  unfold fAk addA
  have:(l.set j {l.getD j default with calls:=(l.getD j default).calls++[q]}).getD j default={l.getD j default with calls:=(l.getD j default).calls++[q]}:=by
   simp[List.getD,hj]
  rw[this]
  unfold encAsk encMsgs encL
  rw[List.length_append];rfl
 ·rw[beq_false h,cond_false]
  unfold fAk addA
  have:(l.set I {l.getD I default with calls:=(l.getD I default).calls++[q]}).getD j default=l.getD j default:=by
   simp only[List.getD]
   rw[List.getElem?_set_ne (fun e=>h e.symm)]
  rw[this]
theorem asked_con(w:Wrk)(I:Nat)(q:Msg)(h:Takes w I q):Contract PG F_head_work_ask [.ptr 0 0 0,.agg (encMsg q)] (hpB w I (w.d.asks.getD I default) false) (.tup []) (hpD5 (askedW w I q))/\(hpB w I (w.d.asks.getD I default) false).length<=(hpD5 (askedW w I q)).length:=by
 obtain⟨h1,h2,h3,h4,h5,h6,h7⟩:=h
 obtain⟨a,ha⟩:∃ a,w.d.asks.getD I default=a:=⟨_,rfl⟩
 rw[ha]at h2 h4 h5
 rw[ha]
 have henv:EnvOk PG (eAs knAs):=envN_ok knAs_ok
 have hcode:CodeOk PG (eAs knAs):=envN_code
 have hrun:RunOk PG (evFn (R:=St) (eAs knAs) 0):=ev_ok henv hcode mixed 0
 obtain⟨fn,hf,hb,hnt,hres⟩:∃ fn,(eAs knAs).code F_head_work_ask=some fn/\fn.body=some bdA/\fn.ntmps=103/\fn.results.toList=[]:=⟨_,rfl,by kernel_rfl,by kernel_rfl,by kernel_rfl⟩
 obtain⟨_,_,_,hok⟩:=hcode _ fn hf
 have hok:=hok _ hb
 rw[bdA_eq]at hok
 obtain⟨ok0,hok⟩:=and_true' (show(okCode A0&&okCode (.seq (.seq A1 (.block 0 (.loop ALp))) A2))=true from hok)
 obtain⟨hok,ok2⟩:=and_true' (show(okCode (.seq A1 (.block 0 (.loop ALp)))&&okCode A2)=true from hok)
 obtain⟨ok1,okx⟩:=and_true' (show(okCode A1&&okCode ALp)=true from hok)
 have L0:=leads_at henv hrun mixed ok0 (a_p0 w I a q)
 have L1:=leads_norm henv hrun mixed ok1 (a_p1 w I a q)
 have hstep:∀ j,j<I->Leads (fun Q=>ALp.wp PG Q) 103 5 (SA w I a q (j:Nat) false) .normal (SA w I a q ((j+1:Nat):Int) false):=by
  intro j hj
  refine leads_norm henv hrun mixed okx ((a_st w I a q (j:Nat)).trans ?_)
  have hne:strBeq (w.d.asks.getD j default).key q.op.key=false:=by
   rw[strBeq_eq]
   simpa using h3 j hj
  have hw:IntKind.i64.wrap ((j:Int)+1)=((j+1:Nat):Int):=wrapS (by omega)
  rw[decide_eq_true (show((j:Nat):Int)<(w.d.asks.length:Int) by omega),cond_true,rg_eq (by omega),Int.toNat_natCast,blt_true (by omega),beq_false (show j ≠ I by omega),Bool.not_false,Bool.and_true,cond_true,hne,cond_false,hw]
 have hsame:Same (SA w I a q (I:Nat) false) (SA w I a q (I:Nat) true):=by
  refine⟨rfl,fun w1 I1 φ a1 hs=>?_⟩
  have hB:∀ B o sz,RB w1 I1 φ B o sz (.sqr true 3 w.d.asks.length (fAk w.d.asks) I (rowB a 3 a.calls.length) [3] false)->RB w1 I1 φ B o sz (.sqr true 3 w.d.asks.length (fAk w.d.asks) I (rowB a 3 a.calls.length) [3] true):=fun B o sz h=>h
  have hget2:∀ b,(b ≠ 2->hget (SA w I a q (I:Nat) true).hp b=hget (SA w I a q (I:Nat) false).hp b):=by
   intro b hb2
   match b,hb2 with
   | 0,_=>rfl
   | 1,_=>rfl
   | 2,h=>exact absurd rfl h
   | b+3,_=>rfl
  have h2t:hget (SA w I a q (I:Nat) true).hp 2=.sqr true 3 w.d.asks.length (fAk w.d.asks) I (rowB a 3 a.calls.length) [3] true:=rfl
  have h2f:hget (SA w I a q (I:Nat) false).hp 2=.sqr true 3 w.d.asks.length (fAk w.d.asks) I (rowB a 3 a.calls.length) [3] false:=rfl
  have hmm:∀ b,mutable (hget (SA w I a q (I:Nat) true).hp b)=mutable (hget (SA w I a q (I:Nat) false).hp b):=by
   intro b
   by_cases hb2:b=2
   ·subst hb2;rw[h2t,h2f];rfl
   ·rw[hget2 b hb2]
  have hll:∀ b,live (hget (SA w I a q (I:Nat) true).hp b)=live (hget (SA w I a q (I:Nat) false).hp b):=by
   intro b
   by_cases hb2:b=2
   ·subst hb2;rw[h2t,h2f];rfl
   ·rw[hget2 b hb2]
  refine⟨⟨⟨fun b e=>hs.hh.none b ?_,fun b e=>?_,fun b b' B o sz o' sz' e e'=>hs.hh.inj b b' B o sz o' sz' (by rw[<- hmm];exact e) (by rw[<- hmm];exact e'),fun b B o sz e=>hs.hh.disj b B o sz (by rw[<- hmm];exact e),fun b B o sz e e2=>hs.hh.imm b B o sz (by rw[<- hll];exact e) (by rw[<- hmm];exact e2),hs.hh.lt⟩,hs.fr⟩,
   fun B=>⟨fun⟨b,o,sz,e,e'⟩=>⟨b,o,sz,by rw[<- hmm];exact e,e'⟩,fun⟨b,o,sz,e,e'⟩=>⟨b,o,sz,by rw[hmm];exact e,e'⟩⟩⟩
  ·by_cases hb2:b=2
   ·subst hb2;rw[h2t]at e;cases e
   ·rw[hget2 b hb2]at e;exact e
  ·by_cases hb2:b=2
   ·subst hb2
    rcases hs.hh.blk 2 (by rw[<- hll];exact e)with ⟨B,o,sz,e1,r⟩ | ⟨_,hp⟩
    ·rw[h2f]at r
     exact .inl ⟨B,o,sz,e1,by rw[h2t];exact hB B o sz r⟩
    ·rw[h2f]at hp;exact hp.elim
   ·rw[hget2 b hb2]at e ⊢
    exact hs.hh.blk b e
 have hend:Leads (fun Q=>ALp.wp PG Q) 103 5 (SA w I a q (I:Nat) false) .ret (SAT w I a q q):=by
  refine Leads.same hsame (leads_sl (l:=[]) henv hrun mixed okx ((a_hit w I a q (I:Nat)).trans ?_))
  have heq:strBeq a.key q.op.key=true:=by rw[strBeq_eq];simpa using h2
  have t:∀ {K:Msg->Option St},gC (fun a=>decMsg (argC a 0)) MsOk (fun m=>[.agg (encMsg m)]) [.agg (encMsg q)] K=K q:=fun {K}=>qTMsg h7
  rw[decide_eq_true (show((I:Nat):Int)<(w.d.asks.length:Int) by omega),cond_true,rg_eq h1,Int.toNat_natCast,blt_true h1,beq_true rfl,Bool.and_true,cond_true,heq,cond_true,decide_eq_true h4,cond_true,t,
   ble_le (Nat.le_refl _),ble_le (show(a.calls.length+1)*392<=140737488355328 by omega),ble_le (show a.calls.length+1<=140737488355328 by omega)]
  rfl
 have LL:=Leads.loop (by simp) (fun j=>SA w I a q ((j:Nat):Int) false) hstep hend
 have L:Leads (fun Q=>bdA.wp PG Q) fn.ntmps 5 {fr:=mkFrame 0 [.ptr 0 0 0,.agg (encMsg q)],hp:=hpB w I a false} .ret (SAT w I a q q):=by
  rw[bdA_eq,hnt]
  exact L0.seq (Leads.seq_ret (L1.seq (Leads.block_ret LL)))
 have c1:=contract_leads henv hcode hf hb (hp:=hpB w I a false) (.inr rfl) L (c0:=1) (by show 1<=5;omega) (r:=.tup []) (h:=hF1 w I a q) (by rw[hres];exact a_fin w I a q q)
 have c2:Contract PG F_head_work_ask [.ptr 0 0 0,.agg (encMsg q)] (hpB w I a false) (.tup []) (hF2 w I a q):=by
  refine c1.1.close (b:=6) (kk:=8) (pre:=[.int .i64 a.num,.str a.key]) rfl rfl (fun j _=>rfl) rfl (by omega) (by omega) rfl rfl fun c h6 h8=>?_
  match c,h6,h8 with
  | 0,_,_=>rfl
  | 1,_,_=>rfl
  | 2,_,_=>rfl
  | 3,_,_=>rfl
  | 4,_,_=>rfl
  | 5,_,_=>rfl
  | 6,h,_=>exact absurd rfl h
  | 7,_,_=>rfl
  | 8,_,h=>exact absurd rfl h
  | c+9,_,_=>rfl
 have c3:=contract_cn (c:=1) (hp:=hpB w I a false) (by show 1<=5;omega) (a_fin2 w I a q) (by show 5<=10;omega) c2
 refine⟨?_,by show 5<=8;omega⟩
 have hl:(addA w.d.asks I q).length=w.d.asks.length:=by simp[addA]
 have hd:hpD5 (askedW w I q)=[.arr true 44 [wrkC w (.sn 4 5 w.d.waits.length) (.sn 3 6 w.d.asks.length) (.sn 31 7 w.out.length)],.dead,.dead,.dead,.dead,.seq true 4 w.d.waits.length (fWt w.d.waits),.seq true 3 w.d.asks.length (fAk (addA w.d.asks I q)),.seq true 31 w.out.length (fMg w.out)]:=by
  rw[<- hl];rfl
 rw[hd]
 refine c3.1.resub (.refl _) (.cons (.refl _) (.cons (.refl _) (.cons (.refl _) (.cons (.refl _) (.cons (.refl _) (.cons (.refl _) (.cons (.seq true 3 _ _ _ _ (Nat.le_refl _) fun j hj=>?_) (.cons (.refl _) .nil))))))))
 rw[<- ha,addA_row w.d.asks I q h1 j hj]
 exact .refl _
def eDkB(l:List Known):Env:=envN [(F_twin_Desk,0,[1,2,34,35])] [(F_twin_Msgs,1)] [] l
theorem knDk_ok:∀ k ∈ knDk,k.Ok PG:=ak kTRep_ok (ak (kCloT_ok cloN_Entry) (ak (kCloT_ok cloN_Item) (ak (kCloB_ok cloN_Wait) (ak (kCloB_ok cloN_Ask) (ak kMsgs_ok ank)))))
def bdD:Code:=bodyOf (eDk knDk) F_twin_Desk
def dc(k:Nat):Code:=sub bdD (List.replicate k .R++[.L])
def D7:Code:=sub bdD [.R,.R,.R,.R,.R,.R,.R,.L,.L]
def DLp:Code:=sub bdD [.R,.R,.R,.R,.R,.R,.R,.L,.R,.L,.L]
def D8:Code:=sub bdD [.R,.R,.R,.R,.R,.R,.R,.R]
theorem bdD_eq:bdD=.seq (dc 0) (.seq (dc 1) (.seq (dc 2) (.seq (dc 3) (.seq (dc 4) (.seq (dc 5) (.seq (dc 6) (.seq (.seq D7 (.block 0 (.loop DLp))) D8))))))):=by kernel_rfl
def dskC(r:Rep)(pn:Int)(o dn cl:AV)(b:Bool)(x y:AV)(nx:Int):List AV:=[.int .i64 r.shard,.int .i64 r.self.node,.int .i64 r.self.boot,.int .i64 r.view.shard,.int .i64 r.view.epoch,.int .i64 r.view.gen,.int .i64 r.view.phase,encMembers r.view.chain,.int .i64 r.frozen,.cplx .f64 r.tail.floor.re r.tail.floor.im,.cplx .f64 r.tail.last.re r.tail.last.im,encEntrys r.tail.log,encSeens r.seen,.cplx .f64 r.got.re r.got.im,encBools r.synced,.int .i64 pn,o,dn,cl,.bool b,x,y,.int .i64 nx]
def fr12:Fr:=[(1,.ptr 0 0 0),(2,.ptr 1 0 0)]
def SD0(r:Rep)(pn:Int)(o dn cl:AV)(b:Bool)(x y:AV)(nx:Int)(l:Heap):St:={fr:=fr12,hp:=.arr true 23 [dskC r pn o dn cl b x y nx] :: .arr true 23 [zDk]::l}
def SDd(d:Md.Desk)(x y:AV)(l:Heap):St:=SD0 d.rep d.pump.num (encEntrys d.pump.out) (encItems d.pump.done) (encItems d.clean) d.busy x y d.next l
def evD(x:Code)(K:AX->St->Option St)(s:St):Option St:=evC (eDk knDk) (evFn (eDk knDk) 0) F_twin_Desk 52 0 0 0 x K s
def evDB(x:Code)(K:AX->St->Option St)(s:St):Option St:=evC (eDkB [kMsgsB]) (evFn (eDkB [kMsgsB]) 0) F_twin_Desk 52 0 0 0 x K s
def kS:AX->St->Option St:=kAt .normal (selS [1,2])
theorem d_0(d:Md.Desk):evD (dc 0) kS {fr:=mkFrame 0 [.agg (encDesk d)],hp:=[]}=some (SDd d (encWaits d.waits) (encAsks d.asks) []):=by kernel_rfl
theorem d_1(d:Md.Desk):evD (dc 1) kS (SDd d (encWaits d.waits) (encAsks d.asks) [])=gC (fun a=>decRep (argC a 0)) RpOk (fun r=>[.agg (encRep r)]) [.agg (encRep d.rep)] fun y=>
 some (SD0 y d.pump.num (encEntrys d.pump.out) (encItems d.pump.done) (encItems d.clean) d.busy (encWaits d.waits) (encAsks d.asks) d.next []):=by kernel_rfl
theorem d_2(d:Md.Desk):evD (dc 2) kS (SDd d (encWaits d.waits) (encAsks d.asks) [])=gC dTr pTr (eTr 11) [encEntrys d.pump.out] fun y=>some (SD0 d.rep d.pump.num (.tr 11 y.1 y.2) (encItems d.pump.done) (encItems d.clean) d.busy (encWaits d.waits) (encAsks d.asks) d.next []):=by kernel_rfl
theorem d_3(d:Md.Desk):evD (dc 3) kS (SDd d (encWaits d.waits) (encAsks d.asks) [])=gC dTr pTr (eTr 4) [encItems d.pump.done] fun y=>some (SD0 d.rep d.pump.num (encEntrys d.pump.out) (.tr 4 y.1 y.2) (encItems d.clean) d.busy (encWaits d.waits) (encAsks d.asks) d.next []):=by kernel_rfl
theorem d_4(d:Md.Desk):evD (dc 4) kS (SDd d (encWaits d.waits) (encAsks d.asks) [])=gC dTr pTr (eTr 4) [encItems d.clean] fun y=>some (SD0 d.rep d.pump.num (encEntrys d.pump.out) (encItems d.pump.done) (.tr 4 y.1 y.2) d.busy (encWaits d.waits) (encAsks d.asks) d.next []):=by kernel_rfl
theorem d_5(d:Md.Desk):evD (dc 5) kS (SDd d (encWaits d.waits) (encAsks d.asks) [])=gC dTr pTr (eTr 4) [encWaits d.waits] fun y=>some (SDd d (.sn 4 2 y.1) (encAsks d.asks) [.seq true 4 y.1 y.2]):=by kernel_rfl
theorem d_6(d:Md.Desk):evD (dc 6) kS (SDd d (.sn 4 2 d.waits.length) (encAsks d.asks) [.seq true 4 d.waits.length (fWt d.waits)])=gC dTr pTr (eTr 3) [encAsks d.asks] fun y=>
 some (SDd d (.sn 4 2 d.waits.length) (.sn 3 3 y.1) [.seq true 4 d.waits.length (fWt d.waits),.seq true 3 y.1 y.2]):=by kernel_rfl
def lvD:List Nat:=[1,2,34,35]
theorem d_7(d:Md.Desk):evD D7 (kAt .normal (norm 0 lvD)) (SDd d (.sn 4 2 d.waits.length) (.sn 3 3 d.asks.length) [.seq true 4 d.waits.length (fWt d.waits),.seq true 3 d.asks.length (fAk d.asks)])=some (SDk d 0):=by kernel_rfl
theorem d_a(d:Md.Desk)(i:Int):evD DLp (kAt .normal (norm 0 lvD)) (SDk d i)=bif decide (i<(d.asks.length:Int))then rg i d.asks.length (bif i.toNat.blt d.asks.length then gC (fun a=>decL decMsg (a.getD 0 .nils)) MgOk (fun l=>[encMsgs l]) [encMsgs (d.asks.getD i.toNat default).calls] fun y=>
  rg i d.asks.length (bif i.toNat.blt d.asks.length&&true then some {fr:=[(1,.ptr 0 0 0),(2,.ptr 3 0 0),(34,.int .i64 d.asks.length),(35,.int .i64 (IntKind.i64.wrap (i+1)))],hp:=[.arr true 23 [encDkB 1 d],sqL 4 encWait default d.waits,.seq true 3 d.asks.length (fun i'=>bif Nat.beq i' i.toNat then [.int .i64 (d.asks.getD i.toNat default).num,.str (d.asks.getD i.toNat default).key,encMsgs y]else encAsk (d.asks.getD i' default)),.arr true 23 [zDk]]}else none)else none)else none:=by kernel_rfl
def SDB(d:Md.Desk)(I:Nat)(a:Md.Ask)(F:Nat->List AV)(i:Int)(cur:Bool):St:={fr:=[(1,.ptr 0 0 0),(2,.ptr 4 0 0),(34,.int .i64 d.asks.length),(35,.int .i64 i)],hp:=[.arr true 23 [encDkB 1 d],sqL 4 encWait default d.waits,.sqr true 3 d.asks.length F I (rowB a 3 a.calls.length) [3] cur,.seq true 31 a.calls.length (fMg a.calls),.arr true 23 [zDk]]}
theorem d_b(d:Md.Desk)(i:Int):evDB DLp (kAt .normal (norm 0 lvD)) (SDk d i)=bif decide (i<(d.asks.length:Int))then rg i d.asks.length (bif i.toNat.blt d.asks.length then gC (fun a=>decL decMsg (a.getD 0 .nils)) MgOk (fun l=>[encMsgs l]) [encMsgs (d.asks.getD i.toNat default).calls] fun y=>
  rg i d.asks.length (bif i.toNat.blt d.asks.length&&true then some {fr:=[(1,.ptr 0 0 0),(2,.ptr 4 0 0),(34,.int .i64 d.asks.length),(35,.int .i64 (IntKind.i64.wrap (i+1)))],hp:=[.arr true 23 [encDkB 1 d],sqL 4 encWait default d.waits,.sqr true 3 d.asks.length (fAk d.asks) i.toNat [.int .i64 (d.asks.getD i.toNat default).num,.str (d.asks.getD i.toNat default).key,.sn 31 3 y.length] [3] true,.seq true 31 y.length (fMg y),.arr true 23 [zDk]]}else none)else none)else none:=by kernel_rfl
theorem d_c(d:Md.Desk)(I:Nat)(a:Md.Ask)(i:Int):evD DLp (kAt .normal (norm 0 lvD)) (SDB d I a (fAk d.asks) i false)=bif decide (i<(d.asks.length:Int))then rg i d.asks.length (bif i.toNat.blt d.asks.length && !i.toNat.beq I then gC (fun a=>decL decMsg (a.getD 0 .nils)) MgOk (fun l=>[encMsgs l]) [encMsgs (d.asks.getD i.toNat default).calls] fun y=>
  rg i d.asks.length (bif i.toNat.blt d.asks.length && !i.toNat.beq I then some (SDB d I a (fun i'=>renL (fun b=>indexOf b [0,1,2,3,4] 0) (bif Nat.beq i' i.toNat then [.int .i64 (d.asks.getD i.toNat default).num,.str (d.asks.getD i.toNat default).key,encMsgs y]else encAsk (d.asks.getD i' default))) (IntKind.i64.wrap (i+1)) false)else none)else none)else none:=by kernel_rfl
theorem d_x(d:Md.Desk)(I:Nat)(a:Md.Ask)(i:Int):evD DLp (kAt (.exit 0) (selS [1,2])) (SDB d I a (fAk d.asks) i false)=bif decide (i<(d.asks.length:Int))then rg i d.asks.length (bif i.toNat.blt d.asks.length && !i.toNat.beq I then gC (fun a=>decL decMsg (a.getD 0 .nils)) MgOk (fun l=>[encMsgs l]) [encMsgs (d.asks.getD i.toNat default).calls] fun _=>
  rg i d.asks.length (bif i.toNat.blt d.asks.length && !i.toNat.beq I then none else none)else none)else some {fr:=[(1,.ptr 0 0 0),(2,.ptr 4 0 0)],hp:=(SDB d I a (fAk d.asks) i false).hp}:=by kernel_rfl
def hpDx(d:Md.Desk)(I:Nat)(a:Md.Ask):Heap:=[sqL 4 encWait default d.waits,.sqr true 3 d.asks.length (fAk d.asks) I (rowB a 2 a.calls.length) [2] false,.seq true 31 a.calls.length (fMg a.calls)]
def SDE(d:Md.Desk)(I:Nat)(a:Md.Ask):St:={fr:=[(2,.ptr 4 0 0)],hp:=[.arr true 23 [encDkB 1 d],sqL 4 encWait default d.waits,.sqr true 3 d.asks.length (fAk d.asks) I (rowB a 3 a.calls.length) [3] false,.seq true 31 a.calls.length (fMg a.calls),.arr true 23 [encDkB 1 d]]}
theorem d_8(d:Md.Desk)(I:Nat)(a:Md.Ask)(i:Int):evD D8 (kAt .ret (selS [2])) {fr:=[(1,.ptr 0 0 0),(2,.ptr 4 0 0)],hp:=(SDB d I a (fAk d.asks) i false).hp}=some (SDE d I a):=by kernel_rfl
theorem d_fin(d:Md.Desk)(I:Nat)(a:Md.Ask):resultsK (tiOf PG) (SDE d I a) [.cell 2 44] (fun vs=>cnK 0 0 (tupled vs) (SDE d I a).hp)=some (.agg (encDkB 0 d),hpDx d I a):=by kernel_rfl
theorem same_cur{fr:Fr}{h1 h2:Heap}{b:Nat}{m:Bool}{sz n i0:Nat}{f:Nat->List AV}{c0:List AV}{ks:List Nat}{c1 c2:Bool}(hl:h1.length=h2.length)(e1:hget h1 b=.sqr m sz n f i0 c0 ks c1)(e2:hget h2 b=.sqr m sz n f i0 c0 ks c2)
  (ho:∀ c,c ≠ b->hget h2 c=hget h1 c):Same {fr:=fr,hp:=h1} {fr:=fr,hp:=h2}:=by
 refine⟨hl,fun w1 I1 φ a1 hs=>?_⟩
 have hmm:∀ c,mutable (hget h2 c)=mutable (hget h1 c):=by
  intro c
  by_cases h:c=b
  ·subst h;rw[e1,e2];rfl
  ·rw[ho c h]
 have hll:∀ c,live (hget h2 c)=live (hget h1 c):=by
  intro c
  by_cases h:c=b
  ·subst h;rw[e1,e2];rfl
  ·rw[ho c h]
 refine⟨⟨⟨fun c e=>hs.hh.none c ?_,fun c e=>?_,fun c b' B o sz o' sz' e e'=>hs.hh.inj c b' B o sz o' sz' (by rw[<- hmm];exact e) (by rw[<- hmm];exact e'),fun c B o sz e=>hs.hh.disj c B o sz (by rw[<- hmm];exact e),fun c B o sz e e2=>hs.hh.imm c B o sz (by rw[<- hll];exact e) (by rw[<- hmm];exact e2),hs.hh.lt⟩,hs.fr⟩,
  fun B=>⟨fun⟨c,o,sz,e,e'⟩=>⟨c,o,sz,by rw[<- hmm];exact e,e'⟩,fun⟨c,o,sz,e,e'⟩=>⟨c,o,sz,by rw[hmm];exact e,e'⟩⟩⟩
 ·by_cases h:c=b
  ·subst h
   have e:hget h2 c=BS.none:=e
   rw[e2]at e;cases e
  ·have e:hget h2 c=BS.none:=e
   rw[ho c h]at e;exact e
 ·by_cases h:c=b
  ·subst h
   rcases hs.hh.blk c (by rw[<- hll];exact e)with ⟨B,o,sz,e3,r⟩ | ⟨_,hp⟩
   ·have r:RB w1 I1 φ B o sz (hget h1 c):=r
    rw[e1]at r
    refine .inl ⟨B,o,sz,e3,?_⟩
    show RB w1 I1 φ B o sz (hget h2 c)
    rw[e2];exact r
   ·have hp:phantom (hget h1 c):=hp
    rw[e1]at hp;exact hp.elim
  ·have e:live (hget h2 c)=true:=e
   have k:=hs.hh.blk c (by rw[<- hll];exact e)
   show(∃ B o sz,φ c=some (B,o,sz)/\RB w1 I1 φ B o sz (hget h2 c))\/(φ c=none/\phantom (hget h2 c))
   rw[ho c h];exact k
theorem deskB_con(d:Md.Desk)(I:Nat)(h:DkOk d)(hI:I<d.asks.length):Contract PG F_twin_Desk [.agg (encDesk d)] [] (.agg (encDkB 0 d)) (hpDx d I (d.asks.getD I default)):=by
 obtain⟨h1,h2,h3,h4,h5,h6,h7⟩:=h
 obtain⟨a,ha⟩:∃ a,d.asks.getD I default=a:=⟨_,rfl⟩
 have hc:∀ j,j<d.asks.length->MgOk (d.asks.getD j default).calls:=fun j hj=>h7 _ (getD_mem (z:=(default:Md.Ask)) hj)
 rw[ha]
 have henv:EnvOk PG (eDk knDk):=envN_ok knDk_ok
 have hcode:CodeOk PG (eDk knDk):=envN_code
 have hrun:RunOk PG (evFn (R:=St) (eDk knDk) 0):=ev_ok henv hcode mixed 0
 have henvB:EnvOk PG (eDkB [kMsgsB]):=envN_ok (ak kMsgsB_ok ank)
 have hrunB:RunOk PG (evFn (R:=St) (eDkB [kMsgsB]) 0):=ev_ok henvB envN_code mixed 0
 obtain⟨fn,hf,hb,hnt,hres⟩:∃ fn,(eDk knDk).code F_twin_Desk=some fn/\fn.body=some bdD/\fn.ntmps=52/\fn.results.toList=[.cell 2 44]:=⟨_,rfl,by kernel_rfl,by kernel_rfl,by kernel_rfl⟩
 obtain⟨_,_,_,hok⟩:=hcode _ fn hf
 have hok:=hok _ hb
 rw[bdD_eq]at hok
 obtain⟨ok0,hok⟩:=and_true' (show(okCode (dc 0)&&okCode _)=true from hok)
 obtain⟨ok1,hok⟩:=and_true' (show(okCode (dc 1)&&okCode _)=true from hok)
 obtain⟨ok2,hok⟩:=and_true' (show(okCode (dc 2)&&okCode _)=true from hok)
 obtain⟨ok3,hok⟩:=and_true' (show(okCode (dc 3)&&okCode _)=true from hok)
 obtain⟨ok4,hok⟩:=and_true' (show(okCode (dc 4)&&okCode _)=true from hok)
 obtain⟨ok5,hok⟩:=and_true' (show(okCode (dc 5)&&okCode _)=true from hok)
 obtain⟨ok6,hok⟩:=and_true' (show(okCode (dc 6)&&okCode _)=true from hok)
 obtain⟨hok,ok8⟩:=and_true' (show(okCode (.seq D7 (.block 0 (.loop DLp)))&&okCode D8)=true from hok)
 obtain⟨ok7,okx⟩:=and_true' (show(okCode D7&&okCode DLp)=true from hok)
 have L0:=leads_sl (l:=[1,2]) henv hrun mixed ok0 (d_0 d)
 have q1:∀ {K:Rep->Option St},gC (fun a=>decRep (argC a 0)) RpOk (fun r=>[.agg (encRep r)]) [.agg (encRep d.rep)] K=K d.rep:=fun {K}=>qTRep h1
 have L1:=leads_sl (l:=[1,2]) henv hrun mixed ok1 ((d_1 d).trans q1)
 have L2:=leads_sl (l:=[1,2]) henv hrun mixed ok2 ((d_2 d).trans (qTrE h2))
 have L3:=leads_sl (l:=[1,2]) henv hrun mixed ok3 ((d_3 d).trans (qTrE h3))
 have L4:=leads_sl (l:=[1,2]) henv hrun mixed ok4 ((d_4 d).trans (qTrE h4))
 have L5:=leads_sl (l:=[1,2]) henv hrun mixed ok5 ((d_5 d).trans (qTrE h5))
 have L6:=leads_sl (l:=[1,2]) henv hrun mixed ok6 ((d_6 d).trans (qTrE h6))
 have L7:=leads_norm henv hrun mixed ok7 (d_7 d)
 have hwr:∀ j,j<d.asks.length->IntKind.i64.wrap ((j:Int)+1)=((j+1:Nat):Int):=fun j hj=>wrapS (by omega)
 have qm:∀ j,j<d.asks.length -> ∀ {K:List Msg->Option St},gC (fun a=>decL decMsg (a.getD 0 .nils)) MgOk (fun l=>[encMsgs l]) [encMsgs (d.asks.getD j default).calls] K=K (d.asks.getD j default).calls:=fun j hj {K}=>qMsgs (hc j hj)
 have sA:∀ j,j<I->Leads (fun Q=>DLp.wp PG Q) 52 0 (SDk d (j:Nat)) .normal (SDk d ((j+1:Nat):Int)):=by
  intro j hj
  refine leads_norm henv hrun mixed okx ((d_a d (j:Nat)).trans ?_)
  have hjl:j<d.asks.length:=by omega
  have hs:=set_same encAsk default d.asks j
  rw[decide_eq_true (show((j:Nat):Int)<(d.asks.length:Int) by omega),cond_true,rg_eq hjl,Int.toNat_natCast,blt_true hjl,cond_true,qm j hjl,rg_eq hjl,Bool.and_true,cond_true,hwr j hjl]
  show some ({fr:=[(1,.ptr 0 0 0),(2,.ptr 3 0 0),(34,.int .i64 d.asks.length),(35,.int .i64 ((j+1:Nat):Int))],hp:=[.arr true 23 [encDkB 1 d],sqL 4 encWait default d.waits,.seq true 3 d.asks.length (fun i'=>bif Nat.beq i' j then encAsk (d.asks.getD j default)else encAsk (d.asks.getD i' default)),.arr true 23 [zDk]]}:St)=_
  rw[hs];rfl
 have sB:Leads (fun Q=>DLp.wp PG Q) 52 0 (SDk d (I:Nat)) .normal (SDB d I a (fAk d.asks) ((I+1:Nat):Int) true):=by
  refine leads_norm henvB hrunB mixed okx ((d_b d (I:Nat)).trans ?_)
  rw[decide_eq_true (show((I:Nat):Int)<(d.asks.length:Int) by omega),cond_true,rg_eq hI,Int.toNat_natCast,blt_true hI,cond_true,qm I hI,rg_eq hI,Bool.and_true,cond_true,hwr I hI,ha]
  rfl
 have sF:Same (SDB d I a (fAk d.asks) ((I+1:Nat):Int) true) (SDB d I a (fAk d.asks) ((I+1:Nat):Int) false):=
  same_cur (b:=2) rfl rfl rfl fun c hc=>by
   match c,hc with
   | 0,_=>rfl
   | 1,_=>rfl
   | 2,h=>exact absurd rfl h
   | c+3,_=>rfl
 have sC:∀ j,I<j->j<d.asks.length->Leads (fun Q=>DLp.wp PG Q) 52 0 (SDB d I a (fAk d.asks) (j:Nat) false) .normal (SDB d I a (fAk d.asks) ((j+1:Nat):Int) false):=by
  intro j hj hjl
  refine leads_norm henv hrun mixed okx ((d_c d I a (j:Nat)).trans ?_)
  have hF:(fun i'=>renL (fun b=>indexOf b [0,1,2,3,4] 0) (bif Nat.beq i' j then [.int .i64 (d.asks.getD j default).num,.str (d.asks.getD j default).key,encMsgs (d.asks.getD j default).calls]else encAsk (d.asks.getD i' default)))=fAk d.asks:=by
   funext k
   by_cases hk:k=j
   ·subst hk;rw[beq_true rfl];rfl
   ·rw[beq_false hk];rfl
  rw[decide_eq_true (show((j:Nat):Int)<(d.asks.length:Int) by omega),cond_true,rg_eq hjl,Int.toNat_natCast,blt_true hjl,beq_false (show j ≠ I by omega),Bool.not_false,Bool.and_true,cond_true,qm j hjl,rg_eq hjl,hwr j hjl,cond_true,hF]
 have sX:Leads (fun Q=>DLp.wp PG Q) 52 0 (SDB d I a (fAk d.asks) (d.asks.length:Nat) false) (.exit 0) {fr:=[(1,.ptr 0 0 0),(2,.ptr 4 0 0)],hp:=(SDB d I a (fAk d.asks) (d.asks.length:Nat) false).hp}:=by
  refine leads_sl (l:=[1,2]) henv hrun mixed okx ((d_x d I a (d.asks.length:Nat)).trans ?_)
  rw[decide_eq_false (by omega),cond_false]
 have LL:=Leads.loop (e0:=.exit 0) (by simp) (n:=d.asks.length) (fun j=>if j<=I then SDk d ((j:Nat):Int)else SDB d I a (fAk d.asks) ((j:Nat):Int) false) (T:={fr:=[(1,.ptr 0 0 0),(2,.ptr 4 0 0)],hp:=(SDB d I a (fAk d.asks) (d.asks.length:Nat) false).hp}) (x:=DLp) (P:=PG) (nt:=52) (base:=0) (fun j hj=>by
   by_cases h1:j<I
   ·rw[if_pos (by omega),if_pos (by omega)];exact sA j h1
   ·by_cases h2:j=I
    ·subst h2
     rw[if_pos (Nat.le_refl _),if_neg (by omega)]
     exact sB.to_same sF
    ·rw[if_neg (by omega),if_neg (by omega)];exact sC j (by omega) hj) (by rw[if_neg (by omega)];exact sX)
 rw[if_pos (Nat.zero_le _)]at LL
 have L8:=leads_sl (l:=[2]) henv hrun mixed ok8 (d_8 d I a (d.asks.length:Nat))
 have L:Leads (fun Q=>bdD.wp PG Q) fn.ntmps 0 {fr:=mkFrame 0 [.agg (encDesk d)],hp:=[]} .ret (SDE d I a):=by
  rw[bdD_eq,hnt]
  exact L0.seq (L1.seq (L2.seq (L3.seq (L4.seq (L5.seq (L6.seq ((L7.seq LL.block).seq L8)))))))
 exact(contract_leads henv hcode hf hb (hp:=[]) (.inr rfl) L (c0:=0) (Nat.le_refl _) (by rw[hres];exact d_fin d I a)).1
def eDe(l:List Known):Env:=envN [] [(F_slices_Delete_api_Ask,5)] [] l
theorem de_eq(n:Nat)(F:Nat->List AV)(i:Nat)(j:Nat):callC 1 (eDe []) 9 F_slices_Delete_api_Ask [AV.sl 3 0 0 (n+1) (n+1),AV.int IntKind.i64 (↑i:Int),AV.int IntKind.i64 (↑j:Int)] [BS.seq true 3 (n+1) F] =
 bif decide ((↑(n+1):Int)<=(↑(capOf (n+1) (n+1)):Int))then
  bif decide ((↑j:Int)<=(↑(n+1):Int))then
   bif decide ((↑i:Int)<=(↑j:Int))then
    bif decide ((↑i:Int)=(↑j:Int))then
     some ((AV.sl 3 0 0 (n+1) (n+1),[BS.seq true 3 (n+1) F]))
    else
     bif decide ((↑i:Int)<=(↑(capOf (n+1) (n+1)):Int))then
      bif decide ((↑j:Int)<=(↑(n+1):Int))then
       bif i.beq 0||i.ble (n+1)then
        bif(n+1 - j).beq 0||(n+1 - j+(0+j)).ble (n+1)then
         bif((i+(n+1 - j))*48).ble 140737488355328&&(i+(n+1 - j)).ble 140737488355328 then
          bif(n+1 - j).beq 0 then
           bif decide ((↑(n+1):Int)<=(↑(capOf (i - 0) (capLeft false (n+1) (capOf (n+1) (n+1) - 0))):Int))then
            bif decide ((↑(i - 0):Int)<=(↑(n+1):Int))then
             bif((n+1) - i).beq 0 then
              some ((AV.sl 3 0 0 i (max (n+1) (n+1)),[BS.seq true 3 (n+1) F]))
             else
              bif(0+i+((n+1) - i)).ble (n+1)then
               some ((AV.sl 3 0 0 i (max (n+1) (n+1)),[BS.seq true 3 (n+1) fun i_1=>bif i_1.blt (0+i)then F i_1 else bif i_1.blt (0+i+((n+1) - i))then [AV.int IntKind.i64 0,AV.str [],AV.nils]else F i_1]))
              else none
            else none
           else none
          else
           bif roomFor (i+(n+1 - j)) (max (n+1) (n+1))then
            bif(0+max (n+1) (n+1)).ble (n+1)then
             bif decide ((↑(n+1):Int)<=(↑(capOf (i - 0+(View.fn (n+1 - j) fun i=>F (i+(0+j))).len) (capLeft false (n+1) (capOf (n+1) (n+1) - 0))):Int))then
              bif decide ((↑(i - 0+(View.fn (n+1 - j) fun i=>F (i+(0+j))).len):Int)<=(↑(n+1):Int))then
               bif((n+1) - (i+(n+1 - j))).beq 0 then
                some ((AV.sl 3 0 0 (i+(n+1 - j)) (max (n+1) (n+1)),[BS.seq true 3 (n+1) fun i_1=>bif i_1.blt (0+i)then F i_1 else bif i_1.blt (0+(i+(n+1 - j)))then F (i_1 - (0+i)+(0+j))else F i_1]))
               else
                bif(0+(i+(n+1 - j))+((n+1) - (i+(n+1 - j)))).ble (n+1)then
                 some ((AV.sl 3 0 0 (i+(n+1 - j)) (max (n+1) (n+1)),[BS.seq true 3 (n+1) fun i_1=>bif i_1.blt (0+(i+(n+1 - j)))then bif i_1.blt (0+i)then F i_1 else bif i_1.blt (0+(i+(n+1 - j)))then F (i_1 - (0+i)+(0+j))else F i_1 else bif i_1.blt (0+(i+(n+1 - j))+((n+1) - (i+(n+1 - j))))then [AV.int IntKind.i64 0,AV.str [],AV.nils]else bif i_1.blt (0+i)then F i_1 else bif i_1.blt (0+(i+(n+1 - j)))then F (i_1 - (0+i)+(0+j))else F i_1]))
                else none
              else none
             else none
            else none
           else
            bif decide ((↑(n+1):Int)<=(↑(capOf (viewApp (View.fn (i - 0) fun i=>F (i+(0+0))) (View.fn (n+1 - j) fun i=>F (i+(0+j)))).len (capNew (viewApp (View.fn (i - 0) fun i=>F (i+(0+0))) (View.fn (n+1 - j) fun i=>F (i+(0+j)))))):Int))then
             bif decide ((↑(viewApp (View.fn (i - 0) fun i=>F (i+(0+0))) (View.fn (n+1 - j) fun i=>F (i+(0+j)))).len:Int)<=(↑(n+1):Int))then
              bif((n+1) - (i+(n+1 - j))).beq 0 then
               some ((AV.sl 3 1 0 (i+(n+1 - j)) 0,[BS.dead,BS.seq true 3 (i+(n+1 - j)) fun i_1=>bif i_1.blt i then F i_1 else bif i_1.blt (i+(n+1 - j))then F (i_1 - i+(0+j))else F i]))
              else
               bif(0+(i+(n+1 - j))+((n+1) - (i+(n+1 - j)))).ble (i+(n+1 - j))then
                some ((AV.sl 3 1 0 (i+(n+1 - j)) 0,[BS.dead,BS.seq true 3 (i+(n+1 - j)) fun i_1=>bif i_1.blt (0+(i+(n+1 - j)))then bif i_1.blt i then F i_1 else bif i_1.blt (i+(n+1 - j))then F (i_1 - i+(0+j))else F i else bif i_1.blt (0+(i+(n+1 - j))+((n+1) - (i+(n+1 - j))))then [AV.int IntKind.i64 0,AV.str [],AV.nils]else bif i_1.blt i then F i_1 else bif i_1.blt (i+(n+1 - j))then F (i_1 - i+(0+j))else F i]))
               else none
             else none
            else none
         else none
        else none
       else none
      else none
     else none
   else none
  else none
 else none:=by kernel_rfl
theorem del_len{X:Type}{l:List X}{i:Nat}(h:i<l.length):(l.eraseIdx i).length=l.length - 1:=List.length_eraseIdx_of_lt h
theorem del_at{X:Type}{z:X}{l:List X}{i k:Nat}:(l.eraseIdx i).getD k z=if k<i then l.getD k z else l.getD (k+1) z:=by
 simp only[List.getD,List.getElem?_eraseIdx]
 split <;> rfl
theorem de_run(n:Nat)(F:Nat->List AV)(i:Nat)(hi:i<=n)(hn:n<=100000):∃ (c:Nat) (G:Nat->List AV),callC 1 (eDe []) 9 F_slices_Delete_api_Ask [.sl 3 0 0 (n+1) (n+1),.int .i64 (i:Int),.int .i64 ((i+1:Nat):Int)] [.seq true 3 (n+1) F]=some (.sl 3 0 0 n c,[.seq true 3 (n+1) G]) /\
  ∀ k,k<n->G k=if k<i then F k else F (k+1):=by
 have hcap:∀ x,x<=n+1->capOf x (n+1)=n+1:=fun x hx=>by unfold capOf;exact Nat.max_eq_right hx
 have hm:max (n+1) (n+1)=n+1:=Nat.max_self _
 have hl:∀ x,capLeft false (n+1) x=x:=fun x=>rfl
 have hr:∀ x,roomFor x (n+1)=Nat.ble x (n+1):=fun x=>rfl
 have hv:∀ (m:Nat) (f:Nat->List AV),(View.fn m f).len=m:=fun m f=>rfl
 rw[de_eq n F i (i+1)]
 simp only[hcap (n+1) (Nat.le_refl _),hm,hl,hr,Nat.sub_zero,Nat.zero_add,hv]
 have e1:i+(n+1 - (i+1))=n:=by omega
 rw[e1]
 rw[hcap n (by omega),hcap i (by omega)]
 have p1:decide (((n+1:Nat):Int)<=((n+1:Nat):Int))=true:=decide_eq_true (Int.le_refl _)
 have p2:decide (((i+1:Nat):Int)<=((n+1:Nat):Int))=true:=decide_eq_true (by omega)
 have p3:decide (((i:Nat):Int)<=((i+1:Nat):Int))=true:=decide_eq_true (by omega)
 have p4:decide (((i:Nat):Int)=((i+1:Nat):Int))=false:=decide_eq_false (by omega)
 have p5:decide (((i:Nat):Int)<=((n+1:Nat):Int))=true:=decide_eq_true (by omega)
 have p6:decide (((n:Nat):Int)<=((n+1:Nat):Int))=true:=decide_eq_true (by omega)
 have b1:Nat.ble i (n+1)=true:=ble_le (by omega)
 have b2:Nat.ble (n+1 - (i+1)+(i+1)) (n+1)=true:=ble_le (by omega)
 have b3:Nat.ble (n*48) 140737488355328=true:=ble_le (by omega)
 have b4:Nat.ble n 140737488355328=true:=ble_le (by omega)
 have b5:Nat.ble n (n+1)=true:=ble_le (by omega)
 have b6:Nat.ble (n+1) (n+1)=true:=ble_le (Nat.le_refl _)
 have b7:Nat.beq (n+1 - n) 0=false:=beq_false (by omega)
 have b8:Nat.ble (n+(n+1 - n)) (n+1)=true:=ble_le (by omega)
 simp only[p1,p2,p3,p4,p5,p6,b1,b2,b3,b4,b5,b6,b7,b8,cond_true,cond_false,Bool.or_true,Bool.and_true]
 by_cases h:i=n
 ·subst h
  have b9:Nat.beq (i+1 - (i+1)) 0=true:=beq_true (by omega)
  simp only[b7,b8,b9,cond_true,cond_false]
  exact⟨_,_,rfl,fun k hk=>by rw[blt_true hk,cond_true,if_pos hk]⟩
 ·have b9:Nat.beq (n+1 - (i+1)) 0=false:=beq_false (by omega)
  simp only[b9,cond_false]
  refine⟨_,_,rfl,fun k hk=>?_⟩
  rw[blt_true hk,cond_true]
  by_cases hk2:k<i
  ·rw[blt_true hk2,cond_true,if_pos hk2]
  ·rw[blt_false (by omega),cond_false,if_neg hk2,show k - i+(i+1)=k+1 by omega];simp[hk]
theorem del_con(l:List Md.Ask)(i:Nat)(hi:i<l.length)(hl:l.length<=100000):Contract PG F_slices_Delete_api_Ask [.sn 3 0 l.length,.int .i64 (i:Int),.int .i64 ((i:Int)+1)] [sqL 3 encAsk default l] (.sn 3 0 (l.length - 1)) [sqL 3 encAsk default (l.eraseIdx i)]/\[sqL 3 encAsk default l].length<=[sqL 3 encAsk default (l.eraseIdx i)].length:=by
 obtain⟨n,hn⟩:∃ n,l.length=n+1:=⟨l.length - 1,by omega⟩
 obtain⟨c,G,e,hG⟩:=de_run n (fAk l) i (by omega) (by omega)
 have k:=conC (fun k hk=>by cases hk) (c:=1) (hp:=[.seq true 3 (n+1) (fAk l)]) (Nat.le_refl 1) e
 refine⟨?_,Nat.le_refl _⟩
 have hs:sqL 3 encAsk default l=.seq true 3 (n+1) (fAk l):=by unfold sqL;rw[hn];rfl
 have hs2:sqL 3 encAsk default (l.eraseIdx i)=.seq true 3 n (fAk (l.eraseIdx i)):=by
  unfold sqL;rw[del_len hi,hn];rfl
 rw[hs,hs2,hn,Nat.add_sub_cancel]
 refine(k.1.sub (args:=[.sn 3 0 (n+1),.int .i64 (i:Int),.int .i64 ((i:Int)+1)]) (.cons (SubF.unsn (by omega)) (.refl _)) (.refl _)).resub ?_ (.cons (.seq true 3 _ _ _ _ (by omega) fun k hk=>?_) .nil)
 ·exact SubF.sn
 ·rw[hG k hk]
  have:fAk (l.eraseIdx i) k=if k<i then fAk l k else fAk l (k+1):=by
   unfold fAk
   rw[del_at]
   split <;> rfl
  rw[this];exact .refl _
abbrev LI:=List Md.Ask × Nat
def dLI(a:List AV)(h:Heap):LI:=(dRow decAsk (hget h 0),(getI a 1).toNat)
def eLI(p:LI):List AV × Heap:=([.sn 3 0 p.1.length,.int .i64 (p.2:Int),.int .i64 ((p.2:Int)+1)],[sqL 3 encAsk default p.1])
theorem dLI_eq(p:LI):dLI (eLI p).1 (eLI p).2=p:=Prod.ext (dRow_sqL (sz:=3) dec_encAsk p.1) (by show((p.2:Nat):Int).toNat=p.2;simp)
def kDelA:Known:=.specG F_slices_Delete_api_Ask dLI (fun p=>p.2<p.1.length/\p.1.length<=100000) eLI (fun p=>(.sn 3 0 (p.1.eraseIdx p.2).length,[sqL 3 encAsk default (p.1.eraseIdx p.2)]))
theorem kDelA_ok:kDelA.Ok PG:=Known.specG_ok fun p h=>by rw[del_len h.1];exact del_con p.1 p.2 h.1 h.2
structure CallF where
 f:Wrk->Msg->Wrk
 p:Wrk->Msg->Prop
def CallF.Ok(c:CallF):Prop:=∀ w m,c.p w m->Contract PG F_head_work_call [.ptr 0 0 0,.agg (encMsg m)] (hpW w) (.tup []) (hpD (c.f w m))
def kCall(c:CallF):Known:=.specG F_head_work_call dWM (fun p=>c.p p.1 p.2) eWM (fun p=>(.tup [],hpD (c.f p.1 p.2)))
theorem kCall_ok{c:CallF}(h:c.Ok):(kCall c).Ok PG:=Known.specG_ok fun p hp=>⟨h p.1 p.2 hp,by show 4<=7;omega⟩
def eCs(l:List Known):Env:=envN [] [(F_head_work_call,5),(F_head_work_calls,5)] [] l
def frCs(l:List Msg)(i:Int):Fr:=[(0,.ptr 0 0 0),(6,encMsgs l),(7,.int .i64 l.length),(8,.int .i64 i)]
def LCa(c:CallF)(l:List Msg)(N m:Nat)(w:Wrk)(i:Int):Option (AV × Heap):=LP (eCs [kCall c]) N 4 F_head_work_calls (cnK 1 4) 0 [] m {fr:=frCs l i,hp:=hpW w}
def LCb(c:CallF)(l:List Msg)(N m:Nat)(w:Wrk)(i:Int):Option (AV × Heap):=LP (eCs [kCall c]) N 4 F_head_work_calls (cnK 1 4) 0 [] m {fr:=frCs l i,hp:=hpD w}
theorem cs_in(c:CallF)(l:List Msg)(N:Nat)(w:Wrk):callC 1 (eCs [kCall c]) (N+1) F_head_work_calls [.ptr 0 0 0,encMsgs l] (hpW w)=LCa c l N N w 0:=by kernel_rfl
theorem ca_st(c:CallF)(l:List Msg)(N m:Nat)(w:Wrk)(i:Int):LCa c l N (m+1) w i=bif decide (i<(l.length:Int))then rg i l.length (gCG dWM (fun p=>c.p p.1 p.2) eWM [.ptr 0 0 0,.agg (encMsg (l.getD i.toNat default))] (hpW w) fun y=>LCb c l N m (c.f y.1 y.2) (IntKind.i64.wrap (i+1)))
 else some (.tup [],hpD w):=by kernel_rfl
theorem cb_st(c:CallF)(l:List Msg)(N m:Nat)(w:Wrk)(i:Int):LCb c l N (m+1) w i=bif decide (i<(l.length:Int))then rg i l.length (gCG dWM (fun p=>c.p p.1 p.2) eWM [.ptr 0 0 0,.agg (encMsg (l.getD i.toNat default))] (hpW w) fun y=>LCb c l N m (c.f y.1 y.2) (IntKind.i64.wrap (i+1)))
 else some (.tup [],hpD w):=by kernel_rfl
def callsW(c:CallF):Wrk->List Msg->Wrk
 | w,[]=>w
 | w,m::r=>callsW c (c.f w m) r
def CallsOk(c:CallF):Wrk->List Msg->Prop
 | _,[]=>True
 | w,m::r=>c.p w m/\CallsOk c (c.f w m) r
theorem qCall{c:CallF}{w:Wrk}{m:Msg}(h:c.p w m){R:Type}{K:WM->Option R}:gCG dWM (fun p=>c.p p.1 p.2) eWM [.ptr 0 0 0,.agg (encMsg m)] (hpW w) K=K (w,m):=gCG_eq (w,m) (dWM_eq (w,m)) h (.refl _) (.refl _)
theorem calls_con(c:CallF)(hc:c.Ok)(w:Wrk)(l:List Msg)(hl:l.length<=100000)(h:CallsOk c w l):Contract PG F_head_work_calls [.ptr 0 0 0,encMsgs l] (hpW w) (.tup []) (hpD (callsW c w l))/\(hpW w).length<=(hpD (callsW c w l)).length:=by
 obtain⟨N,hN⟩:∃ N,N=200000:=⟨_,rfl⟩
 have runB:∀ d i m w,i+d=l.length->d<m->CallsOk c w (l.drop i)->LCb c l N m w (i:Nat)=some (.tup [],hpD (callsW c w (l.drop i))):=by
  intro d
  induction d with
  | zero=>
   intro i m w hi hm hk
   obtain⟨m,rfl⟩:∃ k,m=k+1:=⟨m - 1,by omega⟩
   rw[cb_st,decide_eq_false (by omega),cond_false,List.drop_eq_nil_of_le (by omega)];rfl
  | succ d ih=>
   intro i m w hi hm hk
   obtain⟨m,rfl⟩:∃ k,m=k+1:=⟨m - 1,by omega⟩
   have hil:i<l.length:=by omega
   have hd:=drop_cons (z:=(default:Msg)) hil
   have hw:IntKind.i64.wrap ((i:Int)+1)=((i+1:Nat):Int):=wrapS (by omega)
   rw[hd]at hk ⊢
   rw[cb_st,decide_eq_true (show((i:Nat):Int)<(l.length:Int) by omega),cond_true,rg_eq hil,Int.toNat_natCast,qCall hk.1,hw]
   exact ih (i+1) m _ (by omega) (by omega) hk.2
 have run:LCa c l N N w ((0:Nat):Int)=some (.tup [],hpD (callsW c w l)):=by
  obtain⟨m,hm⟩:∃ m,N=m+1:=⟨N - 1,by omega⟩
  have st:∀ i,LCa c l N N w i=LCa c l N (m+1) w i:=fun i=>by rw[<- hm]
  rw[st]
  cases l with
  | nil=>rw[ca_st];rfl
  | cons x r=>
   rw[ca_st,decide_eq_true (show((0:Nat):Int)<((x::r).length:Int) by simp),cond_true,rg_eq (show 0<(x::r).length by simp),Int.toNat_natCast]
   show gCG dWM (fun p=>c.p p.1 p.2) eWM [.ptr 0 0 0,.agg (encMsg x)] (hpW w) _=_
   rw[qCall h.1,wrapS (Nat.zero_le _)]
   have:=runB r.length 1 m (c.f w x) (by simp;omega) (by simp at hl;omega) h.2
   exact this
 exact conC (ak (kCall_ok hc) ank) (c:=1) (n:=N+1) (by show 1<=4;omega) ((cs_in c l N w).trans run)
abbrev WK:=Wrk × Txt
def dWK(a:List AV)(h:Heap):WK:=(dWrk h,getS a 1)
def eWK(p:WK):List AV × Heap:=([.ptr 0 0 0,.str p.2],hpW p.1)
theorem dWK_eq(p:WK):dWK (eWK p).1 (eWK p).2=p:=Prod.ext (dWrk_eq p.1) rfl
def findW(w:Wrk)(k:Txt):Itm × Bool × Wrk:=
 bif(valP w.d.rep.tail k).2 then((valP w.d.rep.tail k).1,true,w)else bif w.isRead&&strBeq w.just.key k then(w.just,true,w)else((getO (w.d.clean,k)).1,(getO (w.d.clean,k)).2.2,setC w (getO (w.d.clean,k)).2.1)
def FiOk(w:Wrk):Prop:=w.d.rep.tail.log.length<=100000/\w.d.clean.length<=100000
theorem find_w_con(w:Wrk)(k:Txt)(h:FiOk w):Contract PG F_head_work_find [.ptr 0 0 0,.str k] (hpW w) (.tup [.agg (encItem (findW w k).1),.bool (findW w k).2.1]) (hpD (findW w k).2.2)/\(hpW w).length<=(hpD (findW w k).2.2).length:=by
 refine conC (ak kValue_ok (ak kGet_ok ank)) (c:=1) (n:=9) (by show 1<=4;omega) ((fi_eq w k).trans ?_)
 have hg:gGetW w k=some (.tup [.agg (encItem (getO (w.d.clean,k)).1),.bool (getO (w.d.clean,k)).2.2],hpD (setC w (getO (w.d.clean,k)).2.1)):=gC_eq (w.d.clean,k) (dOut_eq (w.d.clean,k)) h.2 (.refl _)
 rw[qValue h.1,hg]
 unfold findW
 cases h1:(valP w.d.rep.tail k).2 with
 | true=>rw[cond_true,cond_true]
 | false=>
  rw[cond_false,cond_false]
  cases h2:w.isRead with
  | false=>rfl
  | true=>
   cases h3:strBeq w.just.key k with
   | true=>rfl
   | false=>rfl
def kFindW:Known:=.specG F_head_work_find dWK (fun p=>FiOk p.1) eWK (fun p=>(.tup [.agg (encItem (findW p.1 p.2).1),.bool (findW p.1 p.2).2.1],hpD (findW p.1 p.2).2.2))
theorem kFindW_ok:kFindW.Ok PG:=Known.specG_ok fun p h=>find_w_con p.1 p.2 h
def NoTake(w:Wrk)(q:Msg):Prop:=∀ j,j<w.d.asks.length->(w.d.asks.getD j default).key=q.op.key -> ¬ (((w.d.asks.getD j default).calls.length:Int)<w.c.maxLog)
def hasA(w:Wrk)(q:Msg):Bool:=w.d.asks.any fun a=>strBeq a.key q.op.key
def newA(w:Wrk)(q:Msg):Md.Ask:=⟨w.d.next+1,q.op.key,[q]⟩
def askW(w:Wrk)(q:Msg):Wrk:=bif hasA w q then w else {w with d:={w.d with next:=w.d.next+1,asks:=w.d.asks++[newA w q]},out:=w.out++[readM (w.d.rep,newA w q)]}
def AskOk(w:Wrk)(q:Msg):Prop:=NoTake w q/\MsOk q/\w.d.asks.length<=100000/\w.out.length<=1000000/\0<=w.d.next/\w.d.next<=1000000
theorem ask_con(w:Wrk)(q:Msg)(h:AskOk w q):Contract PG F_head_work_ask [.ptr 0 0 0,.agg (encMsg q)] (hpW w) (.tup []) (hpD (askW w q))/\(hpW w).length<=(hpD (askW w q)).length:=by
 obtain⟨N,hN⟩:∃ N,N=200000:=⟨_,rfl⟩
 obtain⟨h1,h2,h3,h4,h5,h6⟩:=h
 have hnx:IntKind.i64.wrap (w.d.next+1)=w.d.next+1:=by rw[IntKind.wrap_i64];omega
 have hnew:newAs w q=some (.tup [],hpN (nxtW w) w.d.waits.length (fWt w.d.waits) (w.d.asks.length+1) (appN w.d.asks.length (fAk w.d.asks) (.list [askC w q q])) (w.out.length+1) (appN w.out.length (fMg w.out) (.list [encMsg (readM (w.d.rep,newA w q))]))):=by
  unfold newAs
  have t:∀ {K:Rep × Md.Ask->Option (AV × Heap)},gC (fun a=>(decRep (argC a 0),decAsk (argC a 1))) (fun _=>True) eRd [.agg (encRep w.d.rep),.agg (askC w q q)] K=K (w.d.rep,newA w q):=fun {K}=>by
   refine gC_eq (w.d.rep,newA w q) (Prod.ext (dec_encRep w.d.rep) ?_) trivial (.cons (.refl _) (.cons (.agg ?_) .nil))
   ·show(⟨IntKind.i64.wrap (w.d.next+1),q.op.key,[decMsg (encMsg q)]⟩:Md.Ask)=newA w q
    rw[hnx,dec_encMsg];rfl
   ·show SubC (askC w q q) [.int .i64 (w.d.next+1),.str q.op.key,encMsgs [q]]
    unfold askC
    rw[hnx]
    exact .cons (.refl _) (.cons (.refl _) (.cons (SubV.trl_of [q] rfl) .nil))
  rw[qTMsg h2,ble_le (Nat.le_refl _),cond_true,ble_le (show(w.d.asks.length+1)*48<=140737488355328 by omega),ble_le (show w.d.asks.length+1<=140737488355328 by omega),Bool.and_true,cond_true,t,ble_le (Nat.le_refl _),cond_true,
   ble_le (show(w.out.length+1)*392<=140737488355328 by omega),ble_le (show w.out.length+1<=140737488355328 by omega),Bool.and_true,cond_true]
 have run:∀ d i m,i+d=w.d.asks.length->d<m->LAs w q N m (i:Nat)=bif(w.d.asks.drop i).any (fun a=>strBeq a.key q.op.key)then some (.tup [],hpD w)else newAs w q:=by
  intro d
  induction d with
  | zero=>
   intro i m hi hm
   obtain⟨m,rfl⟩:∃ k,m=k+1:=⟨m - 1,by omega⟩
   rw[as_st,decide_eq_false (by omega),cond_false,List.drop_eq_nil_of_le (by omega)];rfl
  | succ d ih=>
   intro i m hi hm
   obtain⟨m,rfl⟩:∃ k,m=k+1:=⟨m - 1,by omega⟩
   have hil:i<w.d.asks.length:=by omega
   have hd:=drop_cons (z:=(default:Md.Ask)) hil
   have hw:IntKind.i64.wrap ((i:Int)+1)=((i+1:Nat):Int):=wrapS (by omega)
   have hj:=h1 i hil
   rw[hd,as_st,decide_eq_true (show((i:Nat):Int)<(w.d.asks.length:Int) by omega),cond_true,rg_eq hil,Int.toNat_natCast,blt_true hil,cond_true,hw,List.any_cons]
   cases hs:strBeq (w.d.asks.getD i default).key q.op.key with
   | true=>
    have hk:(w.d.asks.getD i default).key=q.op.key:=by rw[strBeq_eq]at hs;simpa using hs
    rw[cond_true,cond_true,decide_eq_false (hj hk),cond_false,Bool.true_or,cond_true]
   | false=>
    rw[cond_false,Bool.false_or]
    exact ih (i+1) m (by omega) (by omega)
 have e:=(as_in N w q).trans (run w.d.asks.length 0 N (by omega) (by omega))
 rw[List.drop_zero]at e
 unfold askW hasA
 cases hh:(w.d.asks.any fun a=>strBeq a.key q.op.key)with
 | true=>
  rw[hh,cond_true]at e
  exact conC knAs_ok (c:=1) (n:=N+1) (by show 1<=4;omega) e
 | false=>
  rw[hh,cond_false,hnew]at e
  have c:=conC knAs_ok (c:=1) (n:=N+1) (by show 1<=4;omega) e
  refine⟨?_,by show 4<=7;omega⟩
  have hsub:SubC (askC w q q) (encAsk (newA w q)):=by
   show SubC (askC w q q) [.int .i64 (w.d.next+1),.str q.op.key,encMsgs [q]]
   unfold askC
   rw[hnx]
   exact .cons (.refl _) (.cons (.refl _) (.cons (SubV.trl_of [q] rfl) .nil))
  have hd:hpD {w with d:={w.d with next:=w.d.next+1,asks:=w.d.asks++[newA w q]},out:=w.out++[readM (w.d.rep,newA w q)]} =
    hpN (nxtW w) w.d.waits.length (fWt w.d.waits) (w.d.asks.length+1) (fAk (w.d.asks++[newA w q])) (w.out.length+1) (fMg (w.out++[readM (w.d.rep,newA w q)])):=by
   rw[show w.d.asks.length+1=(w.d.asks++[newA w q]).length by simp,show w.out.length+1=(w.out++[readM (w.d.rep,newA w q)]).length by simp,hpN_eq]
   unfold nxtW
   rw[hnx]
  rw[cond_false,hd]
  refine c.1.resub (.refl _) (.cons (.refl _) (.cons (.refl _) (.cons (.refl _) (.cons (.refl _) (.cons (.refl _) (.cons (.seq true 3 _ _ _ _ (Nat.le_refl _) fun i hi=>appN_sub hsub i hi) (.cons (.seq true 31 _ _ _ _ (Nat.le_refl _) fun i hi=>appN_sub (.refl _) i hi) .nil)))))))
def kAskW:Known:=.specG F_head_work_ask dWM (fun p=>AskOk p.1 p.2) eWM (fun p=>(.tup [],hpD (askW p.1 p.2)))
theorem kAskW_ok:kAskW.Ok PG:=Known.specG_ok fun p h=>ask_con p.1 p.2 h
def kCallsK(c:CallF):Known:=.specG F_head_work_calls (fun a h=>(dWrk h,decL decMsg (a.getD 1 .nils))) (fun p=>p.2.length<=100000/\CallsOk c p.1 p.2) (fun p=>([.ptr 0 0 0,encMsgs p.2],hpW p.1)) (fun p=>(.tup [],hpD (callsW c p.1 p.2)))
theorem kCallsK_ok{c:CallF}(h:c.Ok):(kCallsK c).Ok PG:=Known.specG_ok fun p hp=>calls_con c h p.1 p.2 hp.1 hp.2
def eFr(l:List Known):Env:=envN [(F_head_work_fresh,0,[0,8,116,117,118])] [(F_head_work_find,5),(F_head_work_ask,5),(F_head_work_wait,5),(F_head_work_mark,5),(F_head_work_calls,5),(F_slices_Delete_api_Ask,5),(F_head_work_fresh,5),(F_head_needs,0),(F_head_writes,0),(F_ver_Next,0),(F_head_Resolve,0),(F_chain_Push,0),(F_chain_Again,0),(F_lru_Out,0)] [] l
def knFr(c:CallF):List Known:=[kNeeds,kWrites,kFindW,kAskW,kNext,kResolve,kPush2,kAgain,kWait,kWMark,kOutT,kDelA,kCallsK c]
def hpWn(w:Wrk)(nO:Nat)(FO:Nat->List AV):Heap:=[.arr true 44 [wrkC w (.sn 4 1 w.d.waits.length) (.sn 3 2 w.d.asks.length) (.sn 31 3 nO)],.seq true 4 w.d.waits.length (fWt w.d.waits),.seq true 3 w.d.asks.length (fAk w.d.asks),.seq true 31 nO FO]
def eR(e:RsA):Entry:=resolveP e.o e.v e.s e.n e.x e.room
def setR(w:Wrk)(r:Rep):Wrk:={w with d:={w.d with rep:=r}}
def setA(w:Wrk)(l:List Md.Ask):Wrk:={w with d:={w.d with asks:=l}}
def LFr(c:CallF)(w:Wrk)(e:Entry)(N m:Nat)(i:Int):Option (AV × Heap):=LP (eFr (knFr c)) N 4 F_head_work_fresh (cnK 1 4) 0 [] m {fr:=[(0,.ptr 0 0 0),(8,.ptr 7 0 0),(116,.sn 3 5 w.d.asks.length),(117,.int .i64 w.d.asks.length),(118,.int .i64 i)],hp:=[.arr true 44 [wrkC w (.sn 4 4 w.d.waits.length) (.sn 3 5 w.d.asks.length) (.sn 31 6 w.out.length)],.dead,.dead,.dead,.seq true 4 w.d.waits.length (fWt w.d.waits),.seq true 3 w.d.asks.length (fAk w.d.asks),.seq true 31 w.out.length (fMg w.out),.arr true 11 [encEntry e]]}
theorem frl_st(c:CallF)(w:Wrk)(e:Entry)(N m:Nat)(i:Int):LFr c w e N (m+1) i =
 bif decide (i<(w.d.asks.length:Int))then rg i w.d.asks.length (bif i.toNat.blt w.d.asks.length then bif strBeq (w.d.asks.getD i.toNat default).key e.key then
   gCG dLI (fun p=>p.2<p.1.length/\p.1.length<=100000) eLI [.sn 3 0 w.d.asks.length,.int .i64 i,.int .i64 (IntKind.i64.wrap (i+1))] [.seq true 3 w.d.asks.length (fAk w.d.asks)] fun y=>
   gCG (fun a h=>(dWrk h,decL decMsg (a.getD 1 .nils))) (fun p=>p.2.length<=100000/\CallsOk c p.1 p.2) (fun p=>([.ptr 0 0 0,encMsgs p.2],hpW p.1)) [.ptr 0 0 0,encMsgs (w.d.asks.getD i.toNat default).calls] (hpW (setA w (y.1.eraseIdx y.2))) fun z=>some (.tup [],hpD (callsW c z.1 z.2))
  else LFr c w e N m (IntKind.i64.wrap (i+1))else none)
 else some (.tup [],hpD w):=by kernel_rfl
def rest3(c:CallF)(N:Nat)(e:Entry)(q:Wrk):Option (AV × Heap):=gC dOut pLO eOut [encItems q.d.clean,.str e.key] fun o=>LFr c (setC q (outP o.1 o.2)) e N N 0
def rest2(c:CallF)(N:Nat)(e:Entry)(w:Wrk)(r:Rep):Option (AV × Heap):=gC dRep1 RepAg eRep1 [.agg (encRep r)] fun g=>
 bif w.out.length.ble w.out.length then bif((w.out.length+(againP g).length)*392).ble 140737488355328&&(w.out.length+(againP g).length).ble 140737488355328 then
  bif !e.write then some (.tup [],hpN w w.d.waits.length (fWt w.d.waits) w.d.asks.length (fAk w.d.asks) (w.out.length+(againP g).length) (appN w.out.length (fMg w.out) (.fn (againP g).length (fMg (againP g)))))
  else gCG (fun _ h=>dWrk h) (fun w=>EsOk w.d.rep.tail.log) (fun w=>([.ptr 0 0 0],hpW w)) [.ptr 0 0 0] (hpWn w (w.out.length+(againP g).length) (appN w.out.length (fMg w.out) (.fn (againP g).length (fMg (againP g))))) fun q=>rest3 c N e (markW q)
 else none else none
def rest1(c:CallF)(N:Nat)(w0 w:Wrk)(m:Msg)(x:Itm):Option (AV × Heap):=
 gC dVI pVI eVI [eV w0.d.rep.tail.last,.int .i64 w0.d.rep.view.epoch] fun v=>gC dRs (fun _=>True) eRs [.agg (encOp m.op),eV (vr v.2 (nu v.1+1)),.int .i64 m.sess,.int .i64 m.num,.agg (encItem x),.bool (!w0.d.busy)] fun e=>
 gC dRE pRE2 eRE [.agg (encRep w0.d.rep),.agg (encEntry (eR e))] fun p=>bif !(headPush p).2 then some (.tup [],hpD w)else
 gCG dWVM (fun p=>p.1.d.waits.length<=100000) eWVM [.ptr 0 0 0,eV (eR e).ver,.agg (encMsg m)] (hpW (setR w (headPush p).1)) fun q=>rest2 c N (eR e) (waitW q.1 q.2.1 q.2.2) (headPush p).1
def find1(c:CallF)(N:Nat)(w0:Wrk)(m:Msg):Option (AV × Heap):=
 gCG dWK (fun p=>FiOk p.1) eWK [.ptr 0 0 0,.str m.op.key] (hpW w0) fun z=>bif !(findW z.1 z.2).2.1 then gCG dWM (fun p=>AskOk p.1 p.2) eWM [.ptr 0 0 0,.agg (encMsg m)] (hpW (findW z.1 z.2).2.2) fun q=>some (.tup [],hpD (askW q.1 q.2))else rest1 c N w0 (findW z.1 z.2).2.2 m (findW z.1 z.2).1
theorem fr_in(c:CallF)(N:Nat)(w:Wrk)(m:Msg):callC 1 (eFr (knFr c)) (N+1) F_head_work_fresh [.ptr 0 0 0,.agg (encMsg m)] (hpW w) =
 gC (fun a=>getI a 0) (fun _=>True) (fun k=>[.int .i64 k]) [.int .i64 m.op.kind] fun y=>bif needsP y then
  bif !w.d.busy then find1 c N w m else gC (fun a=>getI a 0) (fun _=>True) (fun k=>[.int .i64 k]) [.int .i64 m.op.kind] fun y=>bif !writesP y then find1 c N w m else rest1 c N w w m default
 else rest1 c N w w m default:=by kernel_rfl
theorem knFr_ok{c:CallF}(h:c.Ok):∀ k ∈ knFr c,k.Ok PG:=ak kNeeds_ok (ak kWrites_ok (ak kFindW_ok (ak kAskW_ok (ak kNext_ok (ak kResolve_ok (ak kPush2_ok (ak kAgain_ok (ak kWait_ok (ak kWMark_ok (ak kOutT_ok (ak kDelA_ok (ak (kCallsK_ok h) ank))))))))))))
def hitA(k:Txt)(a:Md.Ask):Bool:=strBeq a.key k
def ixA(w:Wrk)(k:Txt):Nat:=w.d.asks.findIdx (hitA k)
def endW(c:CallF)(w:Wrk)(k:Txt):Wrk:=
 bif(ixA w k).blt w.d.asks.length then callsW c (setA w (w.d.asks.eraseIdx (ixA w k))) (w.d.asks.getD (ixA w k) default).calls else w
def EndOk(c:CallF)(w:Wrk)(k:Txt):Prop:=w.d.asks.length<=100000 /\
 (ixA w k<w.d.asks.length->(w.d.asks.getD (ixA w k) default).calls.length<=100000/\CallsOk c (setA w (w.d.asks.eraseIdx (ixA w k))) (w.d.asks.getD (ixA w k) default).calls)
def pushedW(w:Wrk):Wrk:=outW w (againP w.d.rep)
def dirtW(w:Wrk)(k:Txt):Wrk:=setC (markW (pushedW w)) (outP (markW (pushedW w)).d.clean k)
def doneW(c:CallF)(w:Wrk)(e:Entry):Wrk:=bif !e.write then pushedW w else endW c (dirtW w e.key) e.key
structure DoneOk(c:CallF)(w:Wrk)(e:Entry):Prop where
 ag:RepAg w.d.rep
 out:w.out.length<=1000000
 outs:(againP w.d.rep).length<=100000
 es:e.write=true->EsOk w.d.rep.tail.log
 cl:e.write=true->w.d.clean.length<=100000
 fin:e.write=true->EndOk c (dirtW w e.key) e.key
def verN(w:Wrk):Ver:=vr w.d.rep.view.epoch.toNat (nu w.d.rep.tail.last+1)
def entN(w:Wrk)(m:Msg)(x:Itm):Entry:=resolveP m.op (verN w) m.sess m.num x (!w.d.busy)
def restW(c:CallF)(w:Wrk)(m:Msg)(x:Itm):Wrk:=
 bif !(headPush (w.d.rep,entN w m x)).2 then w else doneW c (waitW (setR w (headPush (w.d.rep,entN w m x)).1) (entN w m x).ver m) (entN w m x)
structure RestOk(c:CallF)(w:Wrk)(m:Msg)(x:Itm):Prop where
 ep:0<=w.d.rep.view.epoch
 last:VNum w.d.rep.tail.last
 pre:pRE2 (w.d.rep,entN w m x)
 waits:w.d.waits.length<=100000
 done:(headPush (w.d.rep,entN w m x)).2=true->DoneOk c (waitW (setR w (headPush (w.d.rep,entN w m x)).1) (entN w m x).ver m) (entN w m x)
def asksFirst(w:Wrk)(m:Msg):Bool:=needsP m.op.kind&&(!w.d.busy || !writesP m.op.kind)
def freshW(c:CallF)(w:Wrk)(m:Msg):Wrk:=
 bif asksFirst w m then bif !(findW w m.op.key).2.1 then askW (findW w m.op.key).2.2 m else restW c (findW w m.op.key).2.2 m (findW w m.op.key).1
 else restW c w m default
structure FrOk(c:CallF)(w:Wrk)(m:Msg):Prop where
 fi:asksFirst w m=true->FiOk w
 ask:asksFirst w m=true->(findW w m.op.key).2.1=false->AskOk (findW w m.op.key).2.2 m
 got:asksFirst w m=true->(findW w m.op.key).2.1=true->RestOk c (findW w m.op.key).2.2 m (findW w m.op.key).1
 new:asksFirst w m=false->RestOk c w m default
theorem findW_rep(w:Wrk)(k:Txt):(findW w k).2.2.d.rep=w.d.rep/\(findW w k).2.2.d.busy=w.d.busy:=by
 unfold findW
 cases (valP w.d.rep.tail k).2 with
 | true=>exact⟨rfl,rfl⟩
 | false=>
  rw[cond_false]
  cases w.isRead&&strBeq w.just.key k with
  | true=>exact⟨rfl,rfl⟩
  | false=>exact⟨rfl,rfl⟩
theorem LFr_run(c:CallF)(w:Wrk)(e:Entry)(h:EndOk c w e.key)(N:Nat):∀ (d i m:Nat),i+d=w.d.asks.length->d<m->(∀ j,j<i->hitA e.key (w.d.asks.getD j default)=false)->LFr c w e N m (i:Nat)=some (.tup [],hpD (endW c w e.key)):=by
 intro d
 induction d with
 | zero=>
  intro i m hi hm hno
  obtain⟨m,rfl⟩:∃ k,m=k+1:=⟨m - 1,by omega⟩
  have hix:ixA w e.key=w.d.asks.length:=by
   unfold ixA
   refine List.findIdx_eq_length.2 fun x hx=>?_
   obtain⟨j,hj,rfl⟩:=List.getElem_of_mem hx
   have:=hno j (by omega)
   rw[show w.d.asks.getD j default=w.d.asks[j] by simp[List.getD,hj]]at this
   exact this
  rw[frl_st,decide_eq_false (by omega),cond_false]
  unfold endW
  rw[hix,blt_false (Nat.le_refl _),cond_false]
 | succ d ih=>
  intro i m hi hm hno
  obtain⟨m,rfl⟩:∃ k,m=k+1:=⟨m - 1,by omega⟩
  have hil:i<w.d.asks.length:=by omega
  have hl:=h.1
  have hw:IntKind.i64.wrap ((i:Int)+1)=((i+1:Nat):Int):=wrapS (by omega)
  have hg:w.d.asks.getD i default=w.d.asks[i]:=by simp[List.getD,hil]
  rw[frl_st,decide_eq_true (show((i:Nat):Int)<(w.d.asks.length:Int) by omega),cond_true,rg_eq hil,Int.toNat_natCast,blt_true hil,cond_true,hw]
  cases hs:strBeq (w.d.asks.getD i default).key e.key with
  | true=>
   have hix:ixA w e.key=i:=by
    unfold ixA
    refine(List.findIdx_eq hil).2 ⟨by rw[<- hg];exact hs,fun j hj=>?_⟩
    have:=hno j hj
    rw[show w.d.asks.getD j default=w.d.asks[j] by simp[List.getD,show j<w.d.asks.length by omega]]at this
    exact this
   have h2:=h.2
   rw[hix]at h2
   obtain⟨ha,hb⟩:=h2 hil
   have q1:∀ {K:LI->Option (AV × Heap)},gCG dLI (fun p=>p.2<p.1.length/\p.1.length<=100000) eLI [.sn 3 0 w.d.asks.length,.int .i64 (i:Int),.int .i64 ((i+1:Nat):Int)] [.seq true 3 w.d.asks.length (fAk w.d.asks)] K=K (w.d.asks,i):=fun {K}=>
    gCG_eq (w.d.asks,i) (dLI_eq (w.d.asks,i)) ⟨hil,hl⟩ (.refl _) (.refl _)
   have q2:∀ {W:Wrk} {l:List Msg} {K:Wrk × List Msg->Option (AV × Heap)},l.length<=100000->CallsOk c W l->gCG (fun a h=>(dWrk h,decL decMsg (a.getD 1 .nils))) (fun p=>p.2.length<=100000/\CallsOk c p.1 p.2) (fun p=>([.ptr 0 0 0,encMsgs p.2],hpW p.1)) [.ptr 0 0 0,encMsgs l] (hpW W) K=K (W,l):=fun {W l K} h1 h2=>
    gCG_eq (W,l) (Prod.ext (dWrk_eq W) (decMsgs l)) ⟨h1,h2⟩ (.refl _) (.refl _)
   rw[cond_true,q1,q2 ha hb]
   unfold endW
   rw[hix,blt_true hil,cond_true]
  | false=>
   rw[cond_false]
   refine ih (i+1) m (by omega) (by omega) fun j hj=>?_
   by_cases hji:j<i
   ·exact hno j hji
   ·rw[show j=i by omega];exact hs
theorem done_eq(c:CallF)(w:Wrk)(e:Entry)(h:DoneOk c w e)(N:Nat)(hN:100000<N):rest2 c N e w w.d.rep=some (.tup [],hpD (doneW c w e)):=by
 have h2:=h.out
 have h3:=h.outs
 have hq:∀ {K:Rep->Option (AV × Heap)},gC dRep1 RepAg eRep1 [.agg (encRep w.d.rep)] K=K w.d.rep:=fun {K}=>gC_eq w.d.rep (dec_encRep w.d.rep) h.ag (.refl _)
 have happ:appN w.out.length (fMg w.out) (.fn (againP w.d.rep).length (fMg (againP w.d.rep)))=fMg (w.out++againP w.d.rep):=appN_fun _ _ _ _
 have hpe:hpN w w.d.waits.length (fWt w.d.waits) w.d.asks.length (fAk w.d.asks) (w.out.length+(againP w.d.rep).length) (fMg (w.out++againP w.d.rep))=hpD (pushedW w):=by
  rw[show w.out.length+(againP w.d.rep).length=(w.out++againP w.d.rep).length by simp,hpN_eq];rfl
 have hwe:hpWn w (w.out.length+(againP w.d.rep).length) (fMg (w.out++againP w.d.rep))=hpW (pushedW w):=by
  rw[show w.out.length+(againP w.d.rep).length=(w.out++againP w.d.rep).length by simp];rfl
 unfold rest2 doneW
 rw[hq,ble_le (Nat.le_refl _),cond_true,ble_le (show(w.out.length+(againP w.d.rep).length)*392<=140737488355328 by omega),ble_le (show w.out.length+(againP w.d.rep).length<=140737488355328 by omega),Bool.and_true,cond_true,happ,hpe,hwe]
 cases hw:e.write with
 | false=>rfl
 | true=>
  rw[Bool.not_true,cond_false,cond_false]
  have q1:∀ {K:Wrk->Option (AV × Heap)},gCG (fun _ h=>dWrk h) (fun w=>EsOk w.d.rep.tail.log) (fun w=>([.ptr 0 0 0],hpW w)) [.ptr 0 0 0] (hpW (pushedW w)) K=K (pushedW w):=fun {K}=>gCG_eq (pushedW w) (dWrk_eq _) (h.es hw) (.refl _) (.refl _)
  rw[q1]
  unfold rest3
  have q2:∀ {K:YO->Option (AV × Heap)},gC dOut pLO eOut [encItems (markW (pushedW w)).d.clean,.str e.key] K=K ((markW (pushedW w)).d.clean,e.key):=fun {K}=>gC_eq ((markW (pushedW w)).d.clean,e.key) (dOut_eq ((markW (pushedW w)).d.clean,e.key)) (h.cl hw) (.refl _)
  rw[q2]
  exact LFr_run c (dirtW w e.key) e (h.fin hw) N _ 0 N (Nat.zero_add _) (by have:=(h.fin hw).1;omega) fun j hj=>absurd hj (Nat.not_lt_zero j)
theorem rest_eq(c:CallF)(w0 w:Wrk)(m:Msg)(x:Itm)(hr:w.d.rep=w0.d.rep)(hb:w.d.busy=w0.d.busy)(h:RestOk c w m x)(N:Nat)(hN:100000<N):rest1 c N w0 w m x=some (.tup [],hpD (restW c w m x)):=by
 have hE:eR ⟨m.op,verN w,m.sess,m.num,x,!w.d.busy⟩=entN w m x:=rfl
 have q1:∀ {K:Ver × Nat->Option (AV × Heap)},gC dVI pVI eVI [eV w.d.rep.tail.last,.int .i64 w.d.rep.view.epoch] K=K (w.d.rep.tail.last,w.d.rep.view.epoch.toNat):=fun {K}=>by
  have:w.d.rep.view.epoch=((w.d.rep.view.epoch.toNat:Nat):Int):=by have:=h.ep;omega
  refine gC_eq (w.d.rep.tail.last,w.d.rep.view.epoch.toNat) rfl h.last ?_
  unfold eVI
  rw[<- this];exact .refl _
 have q2:∀ {K:RsA->Option (AV × Heap)},gC dRs (fun _=>True) eRs [.agg (encOp m.op),eV (verN w),.int .i64 m.sess,.int .i64 m.num,.agg (encItem x),.bool (!w.d.busy)] K=K (⟨m.op,verN w,m.sess,m.num,x,!w.d.busy⟩:RsA):=fun {K}=>gC_eq (⟨m.op,verN w,m.sess,m.num,x,!w.d.busy⟩:RsA) rfl trivial (.refl _)
 unfold rest1
 rw[<- hr,<- hb,q1]
 have:vr w.d.rep.view.epoch.toNat (nu w.d.rep.tail.last+1)=verN w:=rfl
 rw[this,q2,hE]
 have q3:∀ {K:RE->Option (AV × Heap)},gC dRE pRE2 eRE [.agg (encRep w.d.rep),.agg (encEntry (entN w m x))] K=K (w.d.rep,entN w m x):=fun {K}=>qRE h.pre
 rw[q3]
 unfold restW
 cases hp:(headPush (w.d.rep,entN w m x)).2 with
 | false=>rfl
 | true=>
  rw[Bool.not_true,cond_false,cond_false]
  have q4:∀ {K:WVM->Option (AV × Heap)},gCG dWVM (fun p=>p.1.d.waits.length<=100000) eWVM [.ptr 0 0 0,eV (entN w m x).ver,.agg (encMsg m)] (hpW (setR w (headPush (w.d.rep,entN w m x)).1)) K=K (setR w (headPush (w.d.rep,entN w m x)).1,(entN w m x).ver,m):=fun {K}=>
   gCG_eq (setR w (headPush (w.d.rep,entN w m x)).1,(entN w m x).ver,m) (dWVM_eq (setR w (headPush (w.d.rep,entN w m x)).1,(entN w m x).ver,m)) h.waits (.refl _) (.refl _)
  rw[q4]
  exact done_eq c _ _ (h.done hp) N hN
theorem fresh_con(c:CallF)(hc:c.Ok)(w:Wrk)(m:Msg)(h:FrOk c w m):Contract PG F_head_work_fresh [.ptr 0 0 0,.agg (encMsg m)] (hpW w) (.tup []) (hpD (freshW c w m))/\(hpW w).length<=(hpD (freshW c w m)).length:=by
 obtain⟨N,hN⟩:∃ N,N=200000:=⟨_,rfl⟩
 refine conC (knFr_ok hc) (c:=1) (n:=N+1) (by show 1<=4;omega) ((fr_in c N w m).trans ?_)
 have qk:∀ {K:Int->Option (AV × Heap)},gC (fun a=>getI a 0) (fun _=>True) (fun k=>[.int .i64 k]) [.int .i64 m.op.kind] K=K m.op.kind:=fun {K}=>gC_eq m.op.kind rfl trivial (.refl _)
 rw[qk,qk]
 have hf:asksFirst w m=true->find1 c N w m=some (.tup [],hpD (freshW c w m)):=by
  intro ha
  unfold find1 freshW
  have q1:∀ {K:WK->Option (AV × Heap)},gCG dWK (fun p=>FiOk p.1) eWK [.ptr 0 0 0,.str m.op.key] (hpW w) K=K (w,m.op.key):=fun {K}=>gCG_eq (w,m.op.key) (dWK_eq (w,m.op.key)) (h.fi ha) (.refl _) (.refl _)
  rw[q1,ha,cond_true]
  cases hg:(findW w m.op.key).2.1 with
  | false=>
   have q2:∀ {K:WM->Option (AV × Heap)},gCG dWM (fun p=>AskOk p.1 p.2) eWM [.ptr 0 0 0,.agg (encMsg m)] (hpW (findW w m.op.key).2.2) K=K ((findW w m.op.key).2.2,m):=fun {K}=>gCG_eq ((findW w m.op.key).2.2,m) (dWM_eq ((findW w m.op.key).2.2,m)) (h.ask ha hg) (.refl _) (.refl _)
   rw[Bool.not_false,cond_true,cond_true,q2]
  | true=>
   rw[Bool.not_true,cond_false,cond_false]
   exact rest_eq c w _ m _ (findW_rep w _).1 (findW_rep w _).2 (h.got ha hg) N (by omega)
 have hn:asksFirst w m=false->rest1 c N w w m default=some (.tup [],hpD (freshW c w m)):=by
  intro ha
  unfold freshW
  rw[ha,cond_false]
  exact rest_eq c w w m _ rfl rfl (h.new ha) N (by omega)
 cases h1:needsP m.op.kind with
 | false=>rw[cond_false];exact hn (by unfold asksFirst;rw[h1];rfl)
 | true=>
  rw[cond_true]
  cases h2:w.d.busy with
  | false=>rw[Bool.not_false,cond_true];exact hf (by unfold asksFirst;rw[h1,h2];rfl)
  | true=>
   rw[Bool.not_true,cond_false]
   cases h3:writesP m.op.kind with
   | false=>rw[Bool.not_false,cond_true];exact hf (by unfold asksFirst;rw[h1,h2,h3];rfl)
   | true=>rw[Bool.not_true,cond_false];exact hn (by unfold asksFirst;rw[h1,h2,h3];rfl)
def kFresh(c:CallF):Known:=.specG F_head_work_fresh dWM (fun p=>FrOk c p.1 p.2) eWM (fun p=>(.tup [],hpD (freshW c p.1 p.2)))
theorem kFresh_ok{c:CallF}(h:c.Ok):(kFresh c).Ok PG:=Known.specG_ok fun p hp=>fresh_con c h p.1 p.2 hp
def eCl(l:List Known):Env:=envN [] [(F_head_work_call,5),(F_head_work_refuse,5),(F_head_work_wait,5),(F_head_work_fresh,5),(F_head_Check,0),(F_seen_Find,0),(F_seen_Verdict,0),(F_ver_Num,0),(F_ver_Ahead,0),(F_chain_Commit,0)] [] l
def knCl(c:CallF):List Known:=[kRefuse,kWait,kFresh c,kCheck,kFind,kVerd,kNum,kAhead,kCommit]
def gRef(w:Wrk)(m:Msg)(k:Int):Option (AV × Heap):=gCG dWMI (fun p=>p.1.out.length<=1000000) eWMI [.ptr 0 0 0,.agg (encMsg m),.int .i64 k] (hpW w) fun p=>some (.tup [],hpD (refuseW p.1 p.2.1 p.2.2))
def gWt(w:Wrk)(v:Ver)(m:Msg):Option (AV × Heap):=gCG dWVM (fun p=>p.1.d.waits.length<=100000) eWVM [.ptr 0 0 0,eV v,.agg (encMsg m)] (hpW w) fun p=>some (.tup [],hpD (waitW p.1 p.2.1 p.2.2))
def gFr(c:CallF)(w:Wrk)(m:Msg):Option (AV × Heap):=gCG dWM (fun p=>FrOk c p.1 p.2) eWM [.ptr 0 0 0,.agg (encMsg m)] (hpW w) fun p=>some (.tup [],hpD (freshW c p.1 p.2))
def call2(c:CallF)(w:Wrk)(m:Msg):Option (AV × Heap):=gC dV1 VNum eV1 [eV w.d.rep.tail.last] fun y=>
 bif decide (w.c.maxSeq<=(nu y:Int))then gC dRep1 pRep1 eRep1 [.agg (encRep w.d.rep)] fun r=>gC dV2 V2 eV2 [eV (commitP r),eV w.d.rep.tail.last] fun v=>bif !vlt v.1 v.2 then gRef w m 5 else some (.tup [],hpD w)
 else gFr c w m
def call1(c:CallF)(w:Wrk)(m:Msg)(known:Bool):Option (AV × Heap):=
 bif decide (w.c.maxLog<=(w.d.rep.tail.log.length:Int))then some (.tup [],hpD w)else
 bif !known then bif decide (w.c.sessions<=(w.d.rep.seen.length:Int))then some (.tup [],hpD w)else call2 c w m else call2 c w m
theorem cl_eq(c:CallF)(w:Wrk)(m:Msg):callC 1 (eCl (knCl c)) 9 F_head_work_call [.ptr 0 0 0,.agg (encMsg m)] (hpW w) =
 bif decide (m.gen<w.d.rep.view.gen)then gRef w m 6 else
 gC (fun a=>(decOp (argC a 0),decConf (argC a 1))) (fun _=>True) eOC [.agg (encOp m.op),.agg (encConf w.c)] fun y=>
 bif !decide (checkP y.1 y.2=0)then gRef w m (checkP y.1 y.2)else
 gC dSI (fun p=>SOk p.1) eSI [encSeens w.d.rep.seen,.int .i64 m.sess] fun z=>
 gC (fun a=>(decL decSeen (a.getD 0 .nils),getI a 1,getI a 2)) (fun p=>SOk p.1) eSII [encSeens w.d.rep.seen,.int .i64 m.sess,.int .i64 m.num] fun v=>
 bif decide (verdP v.1 v.2.1 v.2.2=1)then gWt w (findP z.1 z.2).1.ver m else
 bif decide (verdP v.1 v.2.1 v.2.2=2)then some (.tup [],hpD w)else call1 c w m (findP z.1 z.2).2:=by kernel_rfl
theorem knCl_ok{c:CallF}(h:c.Ok):∀ k ∈ knCl c,k.Ok PG:=ak kRefuse_ok (ak kWait_ok (ak (kFresh_ok h) (ak kCheck_ok (ak kFind_ok (ak kVerd_ok (ak kNum_ok (ak kAhead_ok (ak kCommit_ok ank))))))))
def fullW(w:Wrk)(m:Msg):Bool:=decide (w.c.maxLog<=(w.d.rep.tail.log.length:Int))||(!(findP w.d.rep.seen m.sess).2&&decide (w.c.sessions<=(w.d.rep.seen.length:Int)))
def verdW(w:Wrk)(m:Msg):Int:=verdP w.d.rep.seen m.sess m.num
def goesW(w:Wrk)(m:Msg):Bool:=!decide (m.gen<w.d.rep.view.gen)&&(decide (checkP m.op w.c=0)&&(!decide (verdW w m=1)&&(!decide (verdW w m=2)&&(!fullW w m && !decide (w.c.maxSeq<=(nu w.d.rep.tail.last:Int))))))
def callW(c:CallF)(w:Wrk)(m:Msg):Wrk:=
 bif decide (m.gen<w.d.rep.view.gen)then refuseW w m 6 else
 bif !decide (checkP m.op w.c=0)then refuseW w m (checkP m.op w.c)else
 bif decide (verdW w m=1)then waitW w (findP w.d.rep.seen m.sess).1.ver m else
 bif decide (verdW w m=2)then w else
 bif fullW w m then w else
 bif decide (w.c.maxSeq<=(nu w.d.rep.tail.last:Int))then bif !vlt (commitP w.d.rep) w.d.rep.tail.last then refuseW w m 5 else w else freshW c w m
structure ClOk(c:CallF)(w:Wrk)(m:Msg):Prop where
 out:w.out.length<=1000000
 waits:w.d.waits.length<=100000
 seen:SOk w.d.rep.seen
 last:VNum w.d.rep.tail.last
 com:VNum (commitP w.d.rep)
 fr:goesW w m=true->FrOk c w m
theorem call_con(c:CallF)(hc:c.Ok)(w:Wrk)(m:Msg)(h:ClOk c w m):Contract PG F_head_work_call [.ptr 0 0 0,.agg (encMsg m)] (hpW w) (.tup []) (hpD (callW c w m)):=by
 refine(conC (knCl_ok hc) (c:=1) (n:=9) (by show 1<=4;omega) ((cl_eq c w m).trans ?_)).1
 have qr:∀ k,gRef w m k=some (.tup [],hpD (refuseW w m k)):=fun k=>gCG_eq (w,m,k) (dWMI_eq (w,m,k)) h.out (.refl _) (.refl _)
 have qw:∀ v,gWt w v m=some (.tup [],hpD (waitW w v m)):=fun v=>gCG_eq (w,v,m) (dWVM_eq (w,v,m)) h.waits (.refl _) (.refl _)
 have qf:FrOk c w m->gFr c w m=some (.tup [],hpD (freshW c w m)):=fun hf=>gCG_eq (w,m) (dWM_eq (w,m)) hf (.refl _) (.refl _)
 have qc:∀ {K:OC->Option (AV × Heap)},gC (fun a=>(decOp (argC a 0),decConf (argC a 1))) (fun _=>True) eOC [.agg (encOp m.op),.agg (encConf w.c)] K=K (m.op,w.c):=fun {K}=>gC_eq (m.op,w.c) rfl trivial (.refl _)
 have qv:∀ {K:SII->Option (AV × Heap)},gC (fun a=>(decL decSeen (a.getD 0 .nils),getI a 1,getI a 2)) (fun p=>SOk p.1) eSII [encSeens w.d.rep.seen,.int .i64 m.sess,.int .i64 m.num] K=K (w.d.rep.seen,m.sess,m.num):=fun {K}=>gC_eq (w.d.rep.seen,m.sess,m.num) (Prod.ext (decSeens _) rfl) h.seen (.refl _)
 have q2:(goesW w m=true\/w.c.maxSeq<=(nu w.d.rep.tail.last:Int))->call2 c w m=some (.tup [],hpD (bif decide (w.c.maxSeq<=(nu w.d.rep.tail.last:Int))then bif !vlt (commitP w.d.rep) w.d.rep.tail.last then refuseW w m 5 else w else freshW c w m)):=by
  intro hg
  unfold call2
  have qn:∀ {K:Ver->Option (AV × Heap)},gC dV1 VNum eV1 [eV w.d.rep.tail.last] K=K w.d.rep.tail.last:=fun {K}=>gC_eq _ rfl h.last (.refl _)
  have qm:∀ {K:Rep->Option (AV × Heap)},gC dRep1 pRep1 eRep1 [.agg (encRep w.d.rep)] K=K w.d.rep:=fun {K}=>gC_eq w.d.rep (dec_encRep w.d.rep) trivial (.refl _)
  have qa:∀ {K:Ver × Ver->Option (AV × Heap)},gC dV2 V2 eV2 [eV (commitP w.d.rep),eV w.d.rep.tail.last] K=K (commitP w.d.rep,w.d.rep.tail.last):=fun {K}=>gC_eq (_,_) rfl ⟨h.com,h.last⟩ (.refl _)
  rw[qn,qm,qa]
  by_cases hm:w.c.maxSeq<=(nu w.d.rep.tail.last:Int)
  ·rw[decide_eq_true hm,cond_true,cond_true]
   cases hv:vlt (commitP w.d.rep) w.d.rep.tail.last with
   | false=>rw[Bool.not_false,cond_true,cond_true];exact qr 5
   | true=>rfl
  ·rw[decide_eq_false hm,cond_false,cond_false]
   rcases hg with hg | hg
   ·exact qf (h.fr hg)
   ·exact absurd hg hm
 rw[qc,qFind h.seen,qv]
 unfold callW
 by_cases h1:m.gen<w.d.rep.view.gen
 ·rw[decide_eq_true h1,cond_true,cond_true];exact qr 6
 rw[decide_eq_false h1,cond_false,cond_false]
 dsimp only
 by_cases h2:checkP m.op w.c=0
 ·rw[decide_eq_true h2,Bool.not_true,cond_false,cond_false]
  have e:verdP w.d.rep.seen m.sess m.num=verdW w m:=rfl
  rw[e]
  by_cases h3:verdW w m=1
  ·rw[decide_eq_true h3,cond_true,cond_true];exact qw _
  rw[decide_eq_false h3,cond_false,cond_false]
  by_cases h4:verdW w m=2
  ·rw[decide_eq_true h4,cond_true,cond_true]
  rw[decide_eq_false h4,cond_false,cond_false]
  have hg:fullW w m=false->(goesW w m=true\/w.c.maxSeq<=(nu w.d.rep.tail.last:Int)):=by
   intro hf
   by_cases hm:w.c.maxSeq<=(nu w.d.rep.tail.last:Int)
   ·exact .inr hm
   ·left;unfold goesW;rw[decide_eq_false h1,decide_eq_true h2,decide_eq_false h3,decide_eq_false h4,hf,decide_eq_false hm];rfl
  unfold call1
  cases h5:decide (w.c.maxLog<=(w.d.rep.tail.log.length:Int))with
  | true=>
   have:fullW w m=true:=by unfold fullW;rw[h5];rfl
   rw[this];rfl
  | false=>
   rw[cond_false]
   cases h6:(findP w.d.rep.seen m.sess).2 with
   | true=>
    have:fullW w m=false:=by unfold fullW;rw[h5,h6];rfl
    rw[this,Bool.not_true,cond_false,cond_false];exact q2 (hg this)
   | false=>
    rw[Bool.not_false,cond_true]
    cases h7:decide (w.c.sessions<=(w.d.rep.seen.length:Int))with
    | true=>
     have:fullW w m=true:=by unfold fullW;rw[h5,h6,h7];rfl
     rw[this];rfl
    | false=>
     have:fullW w m=false:=by unfold fullW;rw[h5,h6,h7];rfl
     rw[this,cond_false,cond_false];exact q2 (hg this)
 ·rw[decide_eq_false h2,Bool.not_false,cond_true,cond_true];exact qr _
def CallF.none:CallF:=⟨fun w _=>w,fun _ _=>False⟩
def CallF.next(c:CallF):CallF:=⟨callW c,ClOk c⟩
theorem CallF.none_ok:CallF.none.Ok:=fun _ _ h=>h.elim
theorem CallF.Ok.next{c:CallF}(h:c.Ok):c.next.Ok:=fun w m hp=>call_con c h w m hp
def cF1:CallF:=CallF.none.next
def cF2:CallF:=cF1.next
theorem cF1_ok:cF1.Ok:=CallF.none_ok.next
theorem cF2_ok:cF2.Ok:=cF1_ok.next
def eBh(l:List Known):Env:=envN [] [(F_head_work_behind,5),(F_head_work_fits,5),(F_head_work_mark,5),(F_head_work_clean,5),(F_head_work_answer,5),(F_chain_Commit,0),(F_tail_Rise,0),(F_chain_Lift,0),(F_flush_Trim,0),(F_flush_Start,0),(F_flush_Msg,0)] [] l
def knBh:List Known:=[kFits,kWMark,kClean,kAnswer,kCommit,kRise,kCLift,kTrim,kStart,kFMsg]
def setPm(w:Wrk)(p:Pump):Wrk:={w with d:={w.d with pump:=p}}
def bh2(w:Wrk)(cv:Ver):Option (AV × Heap):=gC dSt pSt eSt [.agg (encPump w.d.pump),.agg (encRep w.d.rep),eV cv,.int .i64 w.c.batch] fun s=>
 bif(startP s).2 then gC (fun a=>(decPump (argC a 0),decRep (argC a 1))) (fun q=>q.1.out.length<=100000) eFm [.agg (encPump (startP s).1),.agg (encRep w.d.rep)] fun q=>
  bif w.out.length.ble w.out.length then bif((w.out.length+(flushMP q).length)*392).ble 140737488355328&&(w.out.length+(flushMP q).length).ble 140737488355328 then
   some (.tup [],hpN (setPm w (startP s).1) w.d.waits.length (fWt w.d.waits) w.d.asks.length (fAk w.d.asks) (w.out.length+(flushMP q).length) (appN w.out.length (fMg w.out) (.fn (flushMP q).length (fMg (flushMP q)))))else none else none
 else some (.tup [],hpD (setPm w (startP s).1))
def bh1(w:Wrk)(cv:Ver)(m:Msg):Option (AV × Heap):=
 bif decide (m.kind=16)then bif !decide (m.code=0)then gCG dWM (fun _=>True) eWM [.ptr 0 0 0,.agg (encMsg m)] (hpW w) fun y=>bif fitsP y.1 y.2 then some (.tup [],hpD y.1)else bh2 y.1 cv
 else bh2 w cv else bh2 w cv
theorem bh_eq(w:Wrk)(m:Msg):callC 1 (eBh knBh) 9 F_head_work_behind [.ptr 0 0 0,.agg (encMsg m)] (hpW w) =
 gC dRep1 pRep1 eRep1 [.agg (encRep w.d.rep)] fun r=>gC dRi pRi eRi [.agg (encTail w.d.rep.tail),eV (commitP r),encItems w.d.pump.done] fun p=>
 gCG dWV (fun p=>CnOk p.1 p.2) eWV [.ptr 0 0 0,eV (riseP p)] (hpW w) fun q=>
 gC dRV pRV eRV [.agg (encRep (cleanW q.1 q.2).d.rep),eV (riseP p)] fun l=>
 gC (fun a=>(decPump (argC a 0),decTail (argC a 1))) pPT ePT [.agg (encPump (cleanW q.1 q.2).d.pump),.agg (encTail (liftR l.1 l.2).tail)] fun t=>
 gCG (fun _ h=>dWrk h) (fun w=>EsOk w.d.rep.tail.log) (fun w=>([.ptr 0 0 0],hpW w)) [.ptr 0 0 0] (hpW (setPm (setR (cleanW q.1 q.2) (liftR l.1 l.2)) (trimP t.1 t.2.log))) fun k=>
 gCG dWV (fun p=>AnOk p.1 p.2) eWV [.ptr 0 0 0,eV (commitP r)] (hpW (markW k)) fun a=>bh1 (answerW a.1 a.2) (commitP r) m:=by kernel_rfl
theorem knBh_ok:∀ k ∈ knBh,k.Ok PG:=ak kFits_ok (ak kWMark_ok (ak kClean_ok (ak kAnswer_ok (ak kCommit_ok (ak kRise_ok (ak kCLift_ok (ak kTrim_ok (ak kStart_ok (ak kFMsg_ok ank)))))))))
def comW(w:Wrk):Ver:=commitP w.d.rep
def upW(w:Wrk):Ver:=riseP ⟨w.d.rep.tail,comW w,w.d.pump.done⟩
def bhLift(w:Wrk):Wrk:=setR (cleanW w (upW w)) (liftR (cleanW w (upW w)).d.rep (upW w))
def bhTrim(w:Wrk):Wrk:=setPm (bhLift w) (trimP (bhLift w).d.pump (bhLift w).d.rep.tail.log)
def bhAns(w:Wrk):Wrk:=answerW (markW (bhTrim w)) (comW w)
def stA(w:Wrk)(cv:Ver):StA:=⟨w.d.pump,w.d.rep,cv,w.c.batch⟩
def bhGo(w:Wrk)(cv:Ver):Wrk:=bif(startP (stA w cv)).2 then outW (setPm w (startP (stA w cv)).1) (flushMP ((startP (stA w cv)).1,w.d.rep))else setPm w (startP (stA w cv)).1
def stopB(w:Wrk)(m:Msg):Bool:=decide (m.kind=16)&&(!decide (m.code=0)&&fitsP w m)
def behindW(w:Wrk)(m:Msg):Wrk:=bif stopB (bhAns w) m then bhAns w else bhGo (bhAns w) (comW w)
structure BhOk(w:Wrk)(m:Msg):Prop where
 rise:pRi ⟨w.d.rep.tail,comW w,w.d.pump.done⟩
 cn:CnOk w (upW w)
 lift:pRV ((cleanW w (upW w)).d.rep,upW w)
 pm:pPT ((bhLift w).d.pump,(bhLift w).d.rep.tail)
 es:EsOk (bhTrim w).d.rep.tail.log
 an:AnOk (markW (bhTrim w)) (comW w)
 st:pSt (stA (bhAns w) (comW w))
 out:(bhAns w).out.length<=1000000
 pout:(startP (stA (bhAns w) (comW w))).1.out.length<=100000
theorem flushMP_le(q:Pump × Rep):(flushMP q).length<=1:=by
 unfold flushMP
 cases q.1.out.isEmpty <;> simp
theorem bh2_run(w:Wrk)(cv:Ver)(hst:pSt (stA w cv))(ho:w.out.length<=1000000)(hp:(startP (stA w cv)).1.out.length<=100000):bh2 w cv=some (.tup [],hpD (bhGo w cv)):=by
 unfold bh2 bhGo
 have q1:∀ {K:StA->Option (AV × Heap)},gC dSt pSt eSt [.agg (encPump w.d.pump),.agg (encRep w.d.rep),eV cv,.int .i64 w.c.batch] K=K (stA w cv):=fun {K}=>gC_eq (stA w cv) (dSt_eq (stA w cv)) hst (.refl _)
 rw[q1]
 cases hs:(startP (stA w cv)).2 with
 | false=>rfl
 | true=>
  rw[cond_true,cond_true]
  have q2:∀ {K:Pump × Rep->Option (AV × Heap)},gC (fun a=>(decPump (argC a 0),decRep (argC a 1))) (fun q=>q.1.out.length<=100000) eFm [.agg (encPump (startP (stA w cv)).1),.agg (encRep w.d.rep)] K=K ((startP (stA w cv)).1,w.d.rep):=fun {K}=>
   gC_eq (_,_) (Prod.ext (dec_encPump _) (dec_encRep _)) hp (.refl _)
  rw[q2]
  generalize hf:flushMP ((startP (stA w cv)).1,w.d.rep)=F
  have hl:F.length<=1:=by rw[<- hf];exact flushMP_le _
  have happ:appN w.out.length (fMg w.out) (.fn F.length (fMg F))=fMg (w.out++F):=appN_fun _ _ _ _
  rw[ble_le (Nat.le_refl _),cond_true,ble_le (show(w.out.length+F.length)*392<=140737488355328 by omega),ble_le (show w.out.length+F.length<=140737488355328 by omega),Bool.and_true,cond_true,happ,
   show w.out.length+F.length=(w.out++F).length by simp]
  rfl
theorem behind_con(w:Wrk)(m:Msg)(h:BhOk w m):Contract PG F_head_work_behind [.ptr 0 0 0,.agg (encMsg m)] (hpW w) (.tup []) (hpD (behindW w m))/\(hpW w).length<=(hpD (behindW w m)).length:=by
 refine conC knBh_ok (c:=1) (n:=9) (by show 1<=4;omega) ((bh_eq w m).trans ?_)
 have qm:∀ {K:Rep->Option (AV × Heap)},gC dRep1 pRep1 eRep1 [.agg (encRep w.d.rep)] K=K w.d.rep:=fun {K}=>gC_eq w.d.rep (dec_encRep w.d.rep) trivial (.refl _)
 rw[qm]
 have q1:∀ {K:RiA->Option (AV × Heap)},gC dRi pRi eRi [.agg (encTail w.d.rep.tail),eV (commitP w.d.rep),encItems w.d.pump.done] K=K (⟨w.d.rep.tail,comW w,w.d.pump.done⟩:RiA):=fun {K}=>
  gC_eq (⟨w.d.rep.tail,comW w,w.d.pump.done⟩:RiA) (by show(⟨decTail (encTail w.d.rep.tail),comW w,decL decItem (encItems w.d.pump.done)⟩:RiA)=_;rw[dec_encTail,decItems]) h.rise (.refl _)
 rw[q1]
 have q2:∀ {K:WV->Option (AV × Heap)},gCG dWV (fun p=>CnOk p.1 p.2) eWV [.ptr 0 0 0,eV (upW w)] (hpW w) K=K (w,upW w):=fun {K}=>gCG_eq (w,upW w) (dWV_eq (w,upW w)) h.cn (.refl _) (.refl _)
 have e1:riseP ⟨w.d.rep.tail,comW w,w.d.pump.done⟩=upW w:=rfl
 rw[e1,q2]
 have q3:∀ {K:Rep × Ver->Option (AV × Heap)},gC dRV pRV eRV [.agg (encRep (cleanW w (upW w)).d.rep),eV (upW w)] K=K ((cleanW w (upW w)).d.rep,upW w):=fun {K}=>qRV h.lift.1 h.lift.2
 rw[q3]
 have q4:∀ {K:PT->Option (AV × Heap)},gC (fun a=>(decPump (argC a 0),decTail (argC a 1))) pPT ePT [.agg (encPump (cleanW w (upW w)).d.pump),.agg (encTail (liftR (cleanW w (upW w)).d.rep (upW w)).tail)] K=K ((bhLift w).d.pump,(bhLift w).d.rep.tail):=fun {K}=>
  gC_eq ((bhLift w).d.pump,(bhLift w).d.rep.tail) (Prod.ext (dec_encPump _) (dec_encTail _)) h.pm (.refl _)
 rw[q4]
 have q5:∀ {K:Wrk->Option (AV × Heap)},gCG (fun _ h=>dWrk h) (fun w=>EsOk w.d.rep.tail.log) (fun w=>([.ptr 0 0 0],hpW w)) [.ptr 0 0 0] (hpW (bhTrim w)) K=K (bhTrim w):=fun {K}=>gCG_eq (bhTrim w) (dWrk_eq _) h.es (.refl _) (.refl _)
 have e2:setPm (setR (cleanW w (upW w)) (liftR (cleanW w (upW w)).d.rep (upW w))) (trimP (bhLift w).d.pump (bhLift w).d.rep.tail.log)=bhTrim w:=rfl
 dsimp only
 rw[e2,q5]
 have q6:∀ {K:WV->Option (AV × Heap)},gCG dWV (fun p=>AnOk p.1 p.2) eWV [.ptr 0 0 0,eV (commitP w.d.rep)] (hpW (markW (bhTrim w))) K=K (markW (bhTrim w),comW w):=fun {K}=>gCG_eq (markW (bhTrim w),comW w) (dWV_eq (markW (bhTrim w),comW w)) h.an (.refl _) (.refl _)
 rw[q6]
 have e3:answerW (markW (bhTrim w)) (comW w)=bhAns w:=rfl
 have e4:commitP w.d.rep=comW w:=rfl
 dsimp only
 rw[e3,e4]
 have hg:=bh2_run (bhAns w) (comW w) h.st h.out h.pout
 unfold bh1 behindW stopB
 by_cases h1:m.kind=16
 ·rw[decide_eq_true h1,cond_true,Bool.true_and]
  by_cases h2:m.code=0
  ·rw[decide_eq_true h2,Bool.not_true,cond_false,Bool.false_and,cond_false];exact hg
  ·have q7:∀ {K:WM->Option (AV × Heap)},gCG dWM (fun _=>True) eWM [.ptr 0 0 0,.agg (encMsg m)] (hpW (bhAns w)) K=K (bhAns w,m):=fun {K}=>gCG_eq (bhAns w,m) (dWM_eq (bhAns w,m)) trivial (.refl _) (.refl _)
   rw[decide_eq_false h2,Bool.not_false,cond_true,q7,Bool.true_and]
   cases hf:fitsP (bhAns w) m with
   | true=>rfl
   | false=>rw[cond_false,cond_false];exact hg
 ·rw[decide_eq_false h1,cond_false,Bool.false_and,cond_false];exact hg
def kBehind:Known:=.specG F_head_work_behind dWM (fun p=>BhOk p.1 p.2) eWM (fun p=>(.tup [],hpD (behindW p.1 p.2)))
theorem kBehind_ok:kBehind.Ok PG:=Known.specG_ok fun p h=>behind_con p.1 p.2 h
theorem h8_gen{r:Rep}{m:Msg}(h:RepShort r)(hk:m.kind=8):Contract PG F_chain_Handle [.agg (encRep r),.agg (encMsg m)] [] (oHd (handP r m)) []:=by
 have k:=h8 r m
 rw[inKd_eq hk,qRep1 (P:=RepShort) h,gate,gate2]at k
 unfold handP handK
 rw[hk]
 show Contract PG _ _ [] (oHd (bif toMe r m then freezeP r m else(r,[]))) []
 have e1:(decide (m.dst=r.self.node)&&(decide (m.boot=r.self.boot)&&decide (m.shard=r.shard)))=toMe r m:=rfl
 have e2:(!decide (m.epoch<=r.view.epoch) && !decide (m.epoch<r.frozen))=aboveP r m:=by
  unfold aboveP
  by_cases h1:m.epoch<=r.view.epoch <;> by_cases h2:m.epoch<r.frozen <;> simp[h1,h2] <;> omega
 rw[e1,e2]at k
 cases ht:toMe r m with
 | false=>rw[ht]at k;exact(con30 k).res out_nil
 | true=>
  rw[ht]at k
  unfold freezeP
  cases ha:aboveP r m with
  | false=>rw[ha]at k;exact(con30 k).res out_nil
  | true=>
   rw[ha]at k
   refine(con30 k).res (.tup (.cons (.refl _) (.cons ?_ .nil)))
   exact SubV.trans (trl_map (X:=Unit) (f:=fun _=>_) (g:=fun _=>encMsg (frozeM r m)) (fun _=>subC_all (by repeat' (first | exact trivial | exact nilsL | exact SubV.refl _ | refine⟨?_,?_⟩))) [()]) (SubV.trl_of [frozeM r m] rfl)
theorem h10_gen{r:Rep}{m:Msg}(h:RepShort r)(hk:m.kind=10)(h0:0<=m.epoch)(h1:m.epoch<=1099511627776)(a:Member)(hc:m.chain=[a])(hR:actG r m=true->RepAg (actR r m)) :
  Contract PG F_chain_Handle [.agg (encRep r),.agg (encMsg m)] [] (oHd (handP r m)) []:=by
 have k:=h10_1 r m a
 rw[<- hc,inAc_eq hk,hc,qRep1 (P:=RepShort) h,H10_eq h0 h1]at k
 unfold handP handK
 rw[hk]
 show Contract PG _ _ [] (oHd (bif toMe r m then actP r m else(r,[]))) []
 have hwn:actG r m=(aboveP r m&&(chF [a] r.self&&((m.fresh&&decide (r.frozen<=m.epoch))||(!decide (r.view.phase=0)&&decide (m.epoch=r.frozen))))):=by
  unfold actG aboveP
  rw[hc,chF_first (by simp)]
  by_cases hq:r.frozen<=m.epoch
  ·rw[decide_eq_true hq,Bool.and_true m.fresh]
  ·rw[decide_eq_false hq];simp
 cases ht:toMe r m with
 | false=>rw[ht]at k;exact(con30 k).res out_nil
 | true=>
  rw[ht]at k
  simp only[cond_true]at k ⊢
  unfold actP
  cases hg:actG r m with
  | false=>
   rw[hwn]at hg
   cases h2:decide (m.epoch<=r.view.epoch)with
   | true=>rw[h2]at k;exact(con30 k).res out_nil
   | false=>
    rw[h2,cond_false]at k
    cases h3:chF [a] r.self with
    | false=>rw[h3]at k;exact(con30 k).res out_nil
    | true=>
     rw[h3,Bool.not_true,cond_false,whenK_eq]at k
     cases h4:(m.fresh&&decide (r.frozen<=m.epoch))||(!decide (r.view.phase=0)&&decide (m.epoch=r.frozen))with
     | false=>rw[h4]at k;exact(con30 k).res out_nil
     | true=>
      exfalso
      rw[h3,h4]at hg
      have h5:aboveP r m=false:=by simpa using hg
      have h2':¬ m.epoch<=r.view.epoch:=of_decide_eq_false h2
      have:¬ (r.frozen<=m.epoch):=by
       intro hq
       rw[above_iff.2 ⟨by omega,hq⟩]at h5
       cases h5
      rw[decide_eq_false this,Bool.and_false,Bool.false_or]at h4
      have:=(and_true' h4).2
      have:=of_decide_eq_true this
      omega
  | true=>
   have hR':=hR hg
   rw[hwn]at hg
   obtain⟨g1,g2⟩:=and_true' hg
   obtain⟨g2,g3⟩:=and_true' g2
   obtain⟨a1,a2⟩:=above_iff.1 g1
   rw[decide_eq_false (by omega:¬ m.epoch<=r.view.epoch),cond_false,g2,Bool.not_true,cond_false,whenK_eq,g3,cond_true]at k
   have hl:m.chain.length=1:=by rw[hc];rfl
   obtain⟨v,hv,hs⟩:=actK_eq (r:=r) (m:=m) (l:=[a]) (sy:=.trl 1 [[.bool true]]) (bs:=[true]) (by unfold shortL LB;simp) hc h0 rfl (SubV.trl_of [true] rfl) (by rw[hl];rfl) hR'
   rw[hl]at hv
   have k2:callT env30 9 F_chain_Handle [.agg (encRep r),.agg (encMsg m)]=actK r m [a] (bif decide (1=1)then 3 else 2) (.trl 1 [[.bool true]]):=k
   rw[hv]at k2
   exact(con30 k2).res hs
def HdOk(p:Rep × Msg):Prop:=RepShort p.1/\(p.2.kind=8\/(p.2.kind=10/\0<=p.2.epoch/\p.2.epoch<=1099511627776 /\ ∃ a,p.2.chain=[a]/\(actG p.1 p.2=true->RepAg (actR p.1 p.2))))
theorem handG_con(p:Rep × Msg)(h:HdOk p):Contract PG F_chain_Handle (eRMs p) [] (oRMs p) []:=by
 obtain⟨h1,h2 | ⟨h2,h3,h4,a,h5,h6⟩⟩:=h
 ·exact h8_gen h1 h2
 ·exact h10_gen h1 h2 h3 h4 a h5 h6
def kHandG:Known:=.spec F_chain_Handle dRMs HdOk eRMs oRMs
theorem kHandG_ok:kHandG.Ok PG:=Known.spec_ok handG_con
end Go.Hd
end
noncomputable section
namespace Go.AM
theorem Contract.phan{P:Program}{f:Nat}{args:List AV}{hp rh:Heap}{r:AV}(h:Contract P f args hp r rh)(m:Bool)(sz:Nat)(F:Nat->List AV):Contract P f args hp r (rh++[.seq m sz 0 F]):=by
 intro w I φ ra hh hx
 refine(h w I φ ra hh hx).mono fun u w' ⟨φ',I',a1,a2,a3⟩=>?_
 have hp':=a2.phan (nx:=rh.length) (hget_ge (Nat.le_refl _)) m sz F
 have e:rdput (hget rh) rh.length (.seq m sz 0 F)=hget (rh++[.seq m sz 0 F]):=by
  funext b
  rcases Nat.lt_trichotomy b rh.length with h1 | h1 | h1
  ·rw[rdput_ne _ _ (by omega)]
   simp only[hget,List.getD]
   rw[List.getElem?_append_left h1]
  ·subst h1
   rw[rdput_same]
   simp[hget,List.getD]
  ·rw[rdput_ne _ _ (by omega),hget_ge (by omega),hget_ge (by simp;omega)]
 rw[e]at hp'
 exact⟨φ',I',a1,hp'.1,a3.trans (hp'.2 _)⟩
theorem Contract.renumO{P:Program}{f:Nat}{args:List AV}{hp rh:Heap}{r:AV}(h:Contract P f args hp r rh){ids:List Nat}(hd:Distinct ids)(hk:∀ b,b<hp.length->ids[b]? = some b) :
  Contract P f args hp (ren (fun b=>indexOf b ids 0) r) (reheap ids (hget rh)):=by
 intro w I φ ra hh hx
 refine(h w I φ ra hh hx).mono fun u w' ⟨φ',I',a1,a2,a3⟩=>⟨rephi ids φ',I',a1.ren fun b b' e=>rephi_ren b b' e,a2.renum hd,⟨fun b p hb e=>?_,a3.Ile,a3.Inew,fun B hB=>a3.mt B (mut_renum hB),a3.ext⟩⟩
 show(ids[b]?).bind φ'=some p
 rw[hk b hb]
 exact a3.le b p hb e
end Go.AM
end
noncomputable section
open Go Go.AM Go.Md
namespace Go.Hd
open Go.Wk
set_option maxRecDepth 100000
set_option maxHeartbeats 400000
def eOt(l:List Known):Env:=envN [] [(F_head_work_other,5),(F_chain_Handle,0),(F_chain_Head,0)] [] l
def knOt:List Known:=[kHandG,kHead]
def wrkZ(w:Wrk)(z:AV):List AV:=[.int .i64 w.d.rep.shard,.int .i64 w.d.rep.self.node,.int .i64 w.d.rep.self.boot,.int .i64 w.d.rep.view.shard,.int .i64 w.d.rep.view.epoch,.int .i64 w.d.rep.view.gen,.int .i64 w.d.rep.view.phase,encMembers w.d.rep.view.chain,.int .i64 w.d.rep.frozen,.cplx .f64 w.d.rep.tail.floor.re w.d.rep.tail.floor.im,.cplx .f64 w.d.rep.tail.last.re w.d.rep.tail.last.im,encEntrys w.d.rep.tail.log,encSeens w.d.rep.seen,.cplx .f64 w.d.rep.got.re w.d.rep.got.im,encBools w.d.rep.synced,.int .i64 w.d.pump.num,.nils,.nils,.nils,.bool false,.nils,.nils,.int .i64 w.d.next]++(encConf w.c++(z::(encItem w.just++[.bool w.isRead])))
def hpZ(w:Wrk)(nO:Nat)(FO:Nat->List AV):Heap:=
 [.arr true 44 [wrkZ w (.sn 31 4 nO)],.dead,.dead,.dead,.seq true 31 nO FO]
def ot1(w:Wrk)(o:Rep × List Msg):Option (AV × Heap):=
 bif w.out.length.ble w.out.length then bif((w.out.length+o.2.length)*392).ble 140737488355328&&(w.out.length+o.2.length).ble 140737488355328 then
  bif !decide (o.1.view.epoch=w.d.rep.view.epoch)then some (.tup [],hpZ (setR w o.1) (w.out.length+o.2.length) (appN w.out.length (fMg w.out) (.fn o.2.length (fMg o.2))))else
  gC dRep1 pRep1 eRep1 [.agg (encRep o.1)] fun y=>bif !headP y then some (.tup [],hpZ (setR w o.1) (w.out.length+o.2.length) (appN w.out.length (fMg w.out) (.fn o.2.length (fMg o.2))))else
  some (.tup [],hpN (setR w o.1) w.d.waits.length (fWt w.d.waits) w.d.asks.length (fAk w.d.asks) (w.out.length+o.2.length) (appN w.out.length (fMg w.out) (.fn o.2.length (fMg o.2))))else none else none
theorem ot_eq(w:Wrk)(m:Msg):callC 1 (eOt knOt) 9 F_head_work_other [.ptr 0 0 0,.agg (encMsg m)] (hpW w) =
 gC dRMs HdOk eRMs [.agg (encRep w.d.rep),.agg (encMsg m)] fun h=>ot1 w (handP h.1 h.2):=by kernel_rfl
theorem knOt_ok:∀ k ∈ knOt,k.Ok PG:=ak kHandG_ok (ak kHead_ok ank)
theorem SubF.nilSn(sz b:Nat):SubF .nils (.sn sz b 0):=fun w I φ u h=>by cases h;exact .sn0 _ _ _
def zeroD(d:Md.Desk):Md.Desk:=⟨d.rep,⟨d.pump.num,[],[]⟩,[],false,[],[],d.next⟩
def zeroW(w:Wrk):Wrk:={w with d:=zeroD w.d}
theorem SubFs.append{a b c d:List AV}(h:SubFs a b)(h':SubFs c d):SubFs (a++c) (b++d):=by
 induction a generalizing b with
 | nil=>cases b with
  | nil=>exact h'
  | cons x b=>exact absurd h.1 (by simp)
 | cons x a ih=>cases b with
  | nil=>exact absurd h.1 (by simp)
  | cons y b=>
   refine .cons (h.2 0 x y rfl rfl) (ih ⟨by have:=h.1;simpa using this,fun k c c' e e'=>h.2 (k+1) c c' (by simpa using e) (by simpa using e')⟩)
def hpZ2(w:Wrk)(nO:Nat)(FO:Nat->List AV):Heap:=[.arr true 44 [wrkZ w (.sn 31 6 nO)],.dead,.dead,.dead,.seq true 4 0 (fWt []),.seq true 3 0 (fAk []),.seq true 31 nO FO]
theorem hpZ_ren(w:Wrk)(nO:Nat)(FO:Nat->List AV):reheap [0,1,2,3,5,6,4] (hget ((hpZ w nO FO++[.seq true 4 0 (fWt [])])++[.seq true 3 0 (fAk [])]))=hpZ2 w nO FO:=by kernel_rfl
theorem hpZ_sub(w:Wrk)(O:List Msg):HSub (hpZ2 w O.length (fMg O)) (hpD {zeroW w with out:=O}):=by
 have z0:∀ {sz:Nat} {X:Type} {e:X->List AV} {z:X},SubF .nils (encL sz e z []):=fun {sz X e z}=>SubF.of nilsL rfl
 refine .cons (.arr true 44 [wrkZ w (.sn 31 6 O.length)] [encWrkA 4 {zeroW w with out:=O}] rfl fun i cs cs' h h'=>?_) (.cons (.refl _) (.cons (.refl _) (.cons (.refl _) (.cons (.seq true 4 _ 0 _ _ (Nat.zero_le _) fun i hi=>absurd hi (Nat.not_lt_zero i)) (.cons (.seq true 3 _ 0 _ _ (Nat.zero_le _) fun i hi=>absurd hi (Nat.not_lt_zero i)) (.cons (.refl _) .nil))))))
 match i with
 | i+1=>simp at h
 | 0=>
  simp at h h'
  subst h h'
  refine SubFs.append (b:=[.int .i64 w.d.rep.shard,.int .i64 w.d.rep.self.node,.int .i64 w.d.rep.self.boot,.int .i64 w.d.rep.view.shard,.int .i64 w.d.rep.view.epoch,.int .i64 w.d.rep.view.gen,.int .i64 w.d.rep.view.phase,encMembers w.d.rep.view.chain,.int .i64 w.d.rep.frozen,.cplx .f64 w.d.rep.tail.floor.re w.d.rep.tail.floor.im,.cplx .f64 w.d.rep.tail.last.re w.d.rep.tail.last.im,encEntrys w.d.rep.tail.log,encSeens w.d.rep.seen,.cplx .f64 w.d.rep.got.re w.d.rep.got.im,encBools w.d.rep.synced,.int .i64 w.d.pump.num,encEntrys [],encItems [],encItems [],.bool false,.sn 4 4 0,.sn 3 5 0,.int .i64 w.d.next]) ?_ (.refl _)
  repeat' (first | exact SubFs.nil | refine SubFs.cons (SubF.refl _) ?_ | refine SubFs.cons z0 ?_ | refine SubFs.cons (SubF.nilSn _ _) ?_)
def otherW(w:Wrk)(m:Msg):Wrk:=
 bif !decide ((handP w.d.rep m).1.view.epoch=w.d.rep.view.epoch) || !headP (handP w.d.rep m).1 then outW (zeroW (setR w (handP w.d.rep m).1)) (handP w.d.rep m).2 else outW (setR w (handP w.d.rep m).1) (handP w.d.rep m).2
structure OtOk(w:Wrk)(m:Msg):Prop where
 hd:HdOk (w.d.rep,m)
 out:w.out.length<=1000000
 outs:(handP w.d.rep m).2.length<=100000
theorem other_con(w:Wrk)(m:Msg)(h:OtOk w m):Contract PG F_head_work_other [.ptr 0 0 0,.agg (encMsg m)] (hpW w) (.tup []) (hpD (otherW w m))/\(hpW w).length<=(hpD (otherW w m)).length:=by
 have e:=ot_eq w m
 have q1:∀ {K:Rep × Msg->Option (AV × Heap)},gC dRMs HdOk eRMs [.agg (encRep w.d.rep),.agg (encMsg m)] K=K (w.d.rep,m):=fun {K}=>gC_eq (w.d.rep,m) (Prod.ext (dec_encRep _) (dec_encMsg _)) h.hd (.refl _)
 rw[q1]at e
 dsimp only at e
 have h1:=h.out
 have h2:=h.outs
 unfold otherW
 generalize handP w.d.rep m=o at e h2 ⊢
 have happ:appN w.out.length (fMg w.out) (.fn o.2.length (fMg o.2))=fMg (w.out++o.2):=appN_fun _ _ _ _
 have q2:∀ {K:Rep->Option (AV × Heap)},gC dRep1 pRep1 eRep1 [.agg (encRep o.1)] K=K o.1:=fun {K}=>gC_eq o.1 (dec_encRep o.1) trivial (.refl _)
 unfold ot1 at e
 rw[ble_le (Nat.le_refl _),cond_true,ble_le (show(w.out.length+o.2.length)*392<=140737488355328 by omega),ble_le (show w.out.length+o.2.length<=140737488355328 by omega),Bool.and_true,cond_true,happ,
  show w.out.length+o.2.length=(w.out++o.2).length by simp,q2]at e
 refine⟨?_,by show 4<=7;omega⟩
 have hz:∀ {X:Option (AV × Heap)},X=some (.tup [],hpZ (setR w o.1) (w.out++o.2).length (fMg (w.out++o.2)))->callC 1 (eOt knOt) 9 F_head_work_other [.ptr 0 0 0,.agg (encMsg m)] (hpW w)=X->Contract PG F_head_work_other [.ptr 0 0 0,.agg (encMsg m)] (hpW w) (.tup []) (hpD (outW (zeroW (setR w o.1)) o.2)):=by
  intro X hX k
  rw[hX]at k
  have c:=(((conC knOt_ok (c:=1) (n:=9) (by show 1<=4;omega) k).1.phan true 4 (fWt [])).phan true 3 (fAk [])).renumO (ids:=[0,1,2,3,5,6,4]) (by
   intro i j b e e'
   have hi:i<7:=by rcases Nat.lt_or_ge i 7 with h | h;exact h;rw[List.getElem?_eq_none (by simpa using h)]at e;cases e
   have hj:j<7:=by rcases Nat.lt_or_ge j 7 with h | h;exact h;rw[List.getElem?_eq_none (by simpa using h)]at e';cases e'
   match i,j,hi,hj with
   | 0,0,_,_=>rfl
   | i,j,hi,hj=>
    have:∀ a:Fin 7,∀ b:Fin 7,([0,1,2,3,5,6,4]:List Nat)[a.1]? = ([0,1,2,3,5,6,4]:List Nat)[b.1]? -> a.1=b.1:=by decide
    exact this ⟨i,hi⟩ ⟨j,hj⟩ (e.trans e'.symm)) (by
   intro b hb
   have hb:b<4:=hb
   have:∀ a:Fin 4,([0,1,2,3,5,6,4]:List Nat)[a.1]? = some a.1:=by decide
   exact this ⟨b,hb⟩)
  rw[hpZ_ren]at c
  exact c.resub (.refl _) (hpZ_sub (setR w o.1) (w.out++o.2))
 cases h3:decide (o.1.view.epoch=w.d.rep.view.epoch)with
 | false=>rw[h3]at e;exact hz rfl e
 | true=>
  rw[h3]at e
  cases h4:headP o.1 with
  | false=>rw[h4]at e;exact hz rfl e
  | true=>rw[h4]at e;exact(conC knOt_ok (c:=1) (n:=9) (by show 1<=4;omega) e).1
def kOther:Known:=.specG F_head_work_other dWM (fun p=>OtOk p.1 p.2) eWM (fun p=>(.tup [],hpD (otherW p.1 p.2)))
theorem kOther_ok:kOther.Ok PG:=Known.specG_ok fun p h=>other_con p.1 p.2 h
def eHh(l:List Known):Env:=envN [] [(F_head_Handle,0),(F_twin_Desk,5),(F_chain_Head,0),(F_head_work_call,5),(F_head_work_fits,5),(F_flush_Flushed,0),(F_head_work_other,5),(F_head_work_behind,5)] [(F_head_Handle,2,[31006038])] l
def knHh(c:CallF):List Known:=[kDeskB,kHead,kCall c,kFits,kFlushed,kOther,kBehind]
def w0H(d:Md.Desk)(k:Conf):Wrk:=⟨d,k,[],default,false⟩
def hp0H(d:Md.Desk)(k:Conf):Heap:=[.arr true 44 [wrkC (w0H d k) (.sn 4 1 d.waits.length) (.sn 3 2 d.asks.length) (.sn 31 3 0)],.seq true 4 d.waits.length (fWt d.waits),.seq true 3 d.asks.length (fAk d.asks),.seq true 31 0 fun _=>[]]
def finH(w:Wrk):Option AV:=bif(w.d.waits.length.ble w.d.waits.length&&(w.d.asks.length.ble w.d.asks.length&&true))&&(w.out.length.ble w.out.length&&true)then some (.tup [.agg (encDesk w.d),encMsgs w.out])else none
def fin0(d:Md.Desk):Option AV:=bif(d.waits.length.ble d.waits.length&&(d.asks.length.ble d.asks.length&&true))&&(Nat.ble 0 0&&true)then some (.tup [.agg (encDesk d),.tr 31 0 fun _=>[]])else none
def tailH(w:Wrk)(m:Msg):Option AV:=gC dRep1 pRep1 eRep1 [.agg (encRep w.d.rep)] fun r=>bif headP r then gCG dWM (fun p=>BhOk p.1 p.2) eWM [.ptr 0 0 0,.agg (encMsg m)] (hpW w) fun q=>finH (behindW q.1 q.2)else finH w
def tail0(d:Md.Desk)(k:Conf)(m:Msg):Option AV:=gC dRep1 pRep1 eRep1 [.agg (encRep d.rep)] fun r=>bif headP r then gCG dWM (fun p=>BhOk p.1 p.2) eWM [.ptr 0 0 0,.agg (encMsg m)] (hp0H d k) fun q=>finH (behindW q.1 q.2)else fin0 d
def gDk(d:Md.Desk)(K:Md.Desk->Option AV):Option AV:=gC (fun a=>decDesk (argC a 0)) DkOk (fun d=>[.agg (encDesk d)]) [.agg (encDesk d)] K
theorem hh8(c:CallF)(d:Md.Desk)(k:Conf)(m:Msg):callT (eHh (knHh c)) 9 F_head_Handle [.agg (encDesk d),.agg (encConf k),.agg (encMsg (inKd m 8))] =
 gDk d fun y=>gCG dWM (fun p=>OtOk p.1 p.2) eWM [.ptr 0 0 0,.agg (encMsg (inKd m 8))] (hp0H y k) fun q=>tailH (otherW q.1 q.2) (inKd m 8):=by kernel_rfl
theorem hh10(c:CallF)(d:Md.Desk)(k:Conf)(m:Msg):callT (eHh (knHh c)) 9 F_head_Handle [.agg (encDesk d),.agg (encConf k),.agg (encMsg (inKd m 10))] =
 gDk d fun y=>gCG dWM (fun p=>OtOk p.1 p.2) eWM [.ptr 0 0 0,.agg (encMsg (inKd m 10))] (hp0H y k) fun q=>tailH (otherW q.1 q.2) (inKd m 10):=by kernel_rfl
theorem hh5(c:CallF)(d:Md.Desk)(k:Conf)(m:Msg):callT (eHh (knHh c)) 9 F_head_Handle [.agg (encDesk d),.agg (encConf k),.agg (encMsg (inKd m 5))] =
 gDk d fun y=>bif decide (m.dst=d.rep.self.node)then bif decide (m.shard=d.rep.shard)then gC dRep1 pRep1 eRep1 [.agg (encRep d.rep)] fun r=>bif headP r then
   gCG dWM (fun p=>c.p p.1 p.2) eWM [.ptr 0 0 0,.agg (encMsg (inKd m 5))] (hp0H y k) fun q=>tailH (c.f q.1 q.2) (inKd m 5)
  else tail0 y k (inKd m 5)else tail0 y k (inKd m 5)else tail0 y k (inKd m 5):=by kernel_rfl
theorem hh16(c:CallF)(d:Md.Desk)(k:Conf)(m:Msg):callT (eHh (knHh c)) 9 F_head_Handle [.agg (encDesk d),.agg (encConf k),.agg (encMsg (inKd m 16))] =
 gDk d fun y=>gCG dWM (fun _=>True) eWM [.ptr 0 0 0,.agg (encMsg (inKd m 16))] (hp0H y k) fun q=>bif fitsP q.1 q.2 then
   gC (fun a=>(decPump (argC a 0),decMsg (argC a 1))) (fun p=>pPm p.1) ePM [.agg (encPump q.1.d.pump),.agg (encMsg (inKd m 16))] fun p=>tailH (setPm q.1 (flushedP p.1 p.2).1) (inKd m 16)
  else tailH q.1 (inKd m 16):=by kernel_rfl
theorem knHh_ok{c:CallF}(h:c.Ok):∀ k ∈ knHh c,k.Ok PG:=ak kDeskB_ok (ak kHead_ok (ak (kCall_ok h) (ak kFits_ok (ak kFlushed_ok (ak kOther_ok (ak kBehind_ok ank))))))
abbrev DCM:=Md.Desk × Conf × Msg
def dDCM(a:List AV):DCM:=(decDesk (argC a 0),decConf (argC a 1),decMsg (argC a 2))
def eDCM(p:DCM):List AV:=[.agg (encDesk p.1),.agg (encConf p.2.1),.agg (encMsg p.2.2)]
theorem dDCM_eq(p:DCM):dDCM (eDCM p)=p:=Prod.ext (dec_encDesk p.1) (Prod.ext (dec_encConf p.2.1) (dec_encMsg p.2.2))
def oWk(w:Wrk):AV:=.tup [.agg (encDesk w.d),encMsgs w.out]
def mainW(c:CallF)(w:Wrk)(m:Msg):Wrk:=
 bif decide (m.kind=5)then bif decide (m.dst=w.d.rep.self.node)&&(decide (m.shard=w.d.rep.shard)&&headP w.d.rep)then c.f w m else w
 else bif decide (m.kind=16)then bif fitsP w m then setPm w (flushedP w.d.pump m).1 else w
 else otherW w m
def endH(w:Wrk)(m:Msg):Wrk:=bif headP w.d.rep then behindW w m else w
def handH(c:CallF)(p:DCM):Wrk:=endH (mainW c (w0H p.1 p.2.1) p.2.2) p.2.2
structure MainOk(c:CallF)(w:Wrk)(m:Msg):Prop where
 kd:m.kind=5\/m.kind=8\/m.kind=10\/m.kind=16
 call:m.kind=5->m.dst=w.d.rep.self.node->m.shard=w.d.rep.shard->headP w.d.rep=true->c.p w m
 pm:m.kind=16->pPm w.d.pump
 oth:m.kind=8\/m.kind=10->OtOk w m
structure HdlOk(c:CallF)(p:DCM):Prop where
 dk:DkOk p.1
 main:MainOk c (w0H p.1 p.2.1) p.2.2
 bh:headP (mainW c (w0H p.1 p.2.1) p.2.2).d.rep=true->BhOk (mainW c (w0H p.1 p.2.1) p.2.2) p.2.2
theorem hp0H_sub(d:Md.Desk)(k:Conf):HSub (hp0H d k) (hpW (w0H d k)):=.cons (.refl _) (.cons (.refl _) (.cons (.refl _) (.cons (.seq true 31 0 0 _ _ (Nat.le_refl _) fun i hi=>absurd hi (Nat.not_lt_zero i)) .nil)))
theorem q0H{d:Md.Desk}{k:Conf}{m:Msg}{P:WM->Prop}(h:P (w0H d k,m)){R:Type}{K:WM->Option R}:gCG dWM P eWM [.ptr 0 0 0,.agg (encMsg m)] (hp0H d k) K=K (w0H d k,m):=gCG_eq (w0H d k,m) (Prod.ext (by
  show dWrk (hp0H d k)=w0H d k
  have:dWrk (hp0H d k)=dWrk (hpW (w0H d k)):=rfl
  rw[this,dWrk_eq]) (dec_encMsg m)) h (.refl _) (hp0H_sub d k)
theorem finH_eq(w:Wrk):finH w=some (oWk w):=by
 unfold finH
 rw[ble_le (Nat.le_refl _),ble_le (Nat.le_refl _),ble_le (Nat.le_refl _)];rfl
theorem tailH_eq(w:Wrk)(m:Msg)(h:headP w.d.rep=true->BhOk w m):tailH w m=some (oWk (endH w m)):=by
 unfold tailH endH
 have q1:∀ {K:Rep->Option AV},gC dRep1 pRep1 eRep1 [.agg (encRep w.d.rep)] K=K w.d.rep:=fun {K}=>gC_eq w.d.rep (dec_encRep w.d.rep) trivial (.refl _)
 rw[q1]
 cases hh:headP w.d.rep with
 | false=>rw[cond_false,cond_false];exact finH_eq w
 | true=>
  have q2:∀ {K:WM->Option AV},gCG dWM (fun p=>BhOk p.1 p.2) eWM [.ptr 0 0 0,.agg (encMsg m)] (hpW w) K=K (w,m):=fun {K}=>gCG_eq (w,m) (dWM_eq (w,m)) (h hh) (.refl _) (.refl _)
  rw[cond_true,cond_true,q2];exact finH_eq _
theorem fin0_sub(d:Md.Desk)(k:Conf):∃ v,fin0 d=some v/\SubV v (oWk (w0H d k)):=by
 unfold fin0
 rw[ble_le (Nat.le_refl _),ble_le (Nat.le_refl _)]
 exact⟨_,rfl,.tup (.cons (.refl _) (.cons (.trs fun i hi=>absurd hi (Nat.not_lt_zero i)) .nil))⟩
theorem tail0_eq(d:Md.Desk)(k:Conf)(m:Msg)(h:headP d.rep=true->BhOk (w0H d k) m):∃ v,tail0 d k m=some v/\SubV v (oWk (endH (w0H d k) m)):=by
 unfold tail0 endH
 have q1:∀ {K:Rep->Option AV},gC dRep1 pRep1 eRep1 [.agg (encRep d.rep)] K=K d.rep:=fun {K}=>gC_eq d.rep (dec_encRep d.rep) trivial (.refl _)
 rw[q1]
 have e:(w0H d k).d.rep=d.rep:=rfl
 rw[e]
 cases hh:headP d.rep with
 | false=>rw[cond_false,cond_false];exact fin0_sub d k
 | true=>rw[cond_true,cond_true,q0H (h hh)];exact⟨_,finH_eq _,.refl _⟩
theorem hand_run(c:CallF)(p:DCM)(h:HdlOk c p):∃ v,callT (eHh (knHh c)) 9 F_head_Handle (eDCM p)=some v/\SubV v (oWk (handH c p)):=by
 obtain⟨d,k,m⟩:=p
 obtain⟨hd,hm,hb⟩:=h
 have qd:∀ {K:Md.Desk->Option AV},gDk d K=K d:=fun {K}=>gC_eq d (dec_encDesk d) hd (.refl _)
 have qh:∀ {K:Rep->Option AV},gC dRep1 pRep1 eRep1 [.agg (encRep d.rep)] K=K d.rep:=fun {K}=>gC_eq d.rep (dec_encRep d.rep) trivial (.refl _)
 unfold handH
 dsimp only at hm hb ⊢
 rcases hm.kd with hk | hk | hk | hk
 ·have e:=hh5 c d k m
  rw[inKd_eq hk,qd,qh]at e
  have hmain:mainW c (w0H d k) m=bif decide (m.dst=d.rep.self.node)&&(decide (m.shard=d.rep.shard)&&headP d.rep)then c.f (w0H d k) m else w0H d k:=by
   unfold mainW;rw[decide_eq_true hk];rfl
  rw[hmain]at hb ⊢
  by_cases h1:m.dst=d.rep.self.node
  ·rw[decide_eq_true h1,cond_true]at e
   rw[decide_eq_true h1,Bool.true_and]at hb ⊢
   by_cases h2:m.shard=d.rep.shard
   ·rw[decide_eq_true h2,cond_true]at e
    rw[decide_eq_true h2,Bool.true_and]at hb ⊢
    cases h3:headP d.rep with
    | false=>rw[h3,cond_false]at e;rw[h3,cond_false]at hb;rw[cond_false];obtain⟨v,e1,e2⟩:=tail0_eq d k m hb;exact⟨v,e.trans e1,e2⟩
    | true=>
     rw[h3,cond_true,q0H (hm.call hk h1 h2 h3)]at e
     rw[h3,cond_true]at hb
     rw[cond_true]
     exact⟨_,e.trans (tailH_eq _ m hb),.refl _⟩
   ·rw[decide_eq_false h2,cond_false]at e
    rw[decide_eq_false h2,Bool.false_and,cond_false]at hb ⊢
    obtain⟨v,e1,e2⟩:=tail0_eq d k m hb;exact⟨v,e.trans e1,e2⟩
  ·rw[decide_eq_false h1,cond_false]at e
   rw[decide_eq_false h1,Bool.false_and,cond_false]at hb ⊢
   obtain⟨v,e1,e2⟩:=tail0_eq d k m hb;exact⟨v,e.trans e1,e2⟩
 ·have e:=hh8 c d k m
  rw[inKd_eq hk,qd,q0H (hm.oth (.inl hk))]at e
  have hmain:mainW c (w0H d k) m=otherW (w0H d k) m:=by
   unfold mainW;rw[decide_eq_false (show ¬ m.kind=5 by omega),decide_eq_false (show ¬ m.kind=16 by omega)];rfl
  rw[hmain]at hb ⊢
  exact⟨_,e.trans (tailH_eq _ m hb),.refl _⟩
 ·have e:=hh10 c d k m
  rw[inKd_eq hk,qd,q0H (hm.oth (.inr hk))]at e
  have hmain:mainW c (w0H d k) m=otherW (w0H d k) m:=by
   unfold mainW;rw[decide_eq_false (show ¬ m.kind=5 by omega),decide_eq_false (show ¬ m.kind=16 by omega)];rfl
  rw[hmain]at hb ⊢
  exact⟨_,e.trans (tailH_eq _ m hb),.refl _⟩
 ·have e:=hh16 c d k m
  rw[inKd_eq hk,qd,q0H trivial]at e
  have hmain:mainW c (w0H d k) m=bif fitsP (w0H d k) m then setPm (w0H d k) (flushedP d.pump m).1 else w0H d k:=by
   unfold mainW;rw[decide_eq_false (show ¬ m.kind=5 by omega),decide_eq_true hk];rfl
  rw[hmain]at hb ⊢
  cases hf:fitsP (w0H d k) m with
  | false=>rw[hf,cond_false]at e hb;rw[cond_false];exact⟨_,e.trans (tailH_eq _ m hb),.refl _⟩
  | true=>
   rw[hf,cond_true]at e hb
   rw[cond_true]
   have qp:∀ {K:PM->Option AV},gC (fun a=>(decPump (argC a 0),decMsg (argC a 1))) (fun p=>pPm p.1) ePM [.agg (encPump (w0H d k).d.pump),.agg (encMsg m)] K=K (d.pump,m):=fun {K}=>gC_eq (d.pump,m) (Prod.ext (dec_encPump _) (dec_encMsg _)) (hm.pm hk) (.refl _)
   dsimp only at e
   rw[qp]at e
   exact⟨_,e.trans (tailH_eq _ m hb),.refl _⟩
theorem hand_con(c:CallF)(hc:c.Ok)(p:DCM)(h:HdlOk c p):Contract PG F_head_Handle (eDCM p) [] (oWk (handH c p)) []:=by
 obtain⟨v,e,hs⟩:=hand_run c p h
 exact(conN (knHh_ok hc) e).res hs
def hpB5(w:Wrk)(I:Nat)(a:Md.Ask):Heap:=[.arr true 44 [wrkC w (.sn 4 5 w.d.waits.length) (.sn 3 6 w.d.asks.length) (.sn 31 8 w.out.length)],.dead,.dead,.dead,.dead,.seq true 4 w.d.waits.length (fWt w.d.waits),.sqr true 3 w.d.asks.length (fAk w.d.asks) I (rowB a 7 a.calls.length) [7] false,.seq true 31 a.calls.length (fMg a.calls),.seq true 31 w.out.length (fMg w.out)]
def gGetB(w:Wrk)(I:Nat)(a:Md.Ask)(k:Txt):Option (AV × Heap):=gC dOut pLO eOut [encItems w.d.clean,.str k] fun y=>some (.tup [.agg (encItem (getO y).1),.bool (getO y).2.2],hpB5 (setC w (getO y).2.1) I a)
theorem fiB_eq(w:Wrk)(I:Nat)(a:Md.Ask)(k:Txt):callC 1 (eFi [kValue,kGet]) 9 F_head_work_find [.ptr 0 0 0,.str k] (hpB w I a false) =
 gC dTK (fun p=>p.1.log.length<=100000) eTK [.agg (encTail w.d.rep.tail),.str k] fun y=>bif(valP y.1 y.2).2 then some (.tup [.agg (encItem (valP y.1 y.2).1),.bool true],hpB5 w I a)else
  bif w.isRead then bif strBeq w.just.key k then some (.tup [.agg (encItem w.just),.bool true],hpB5 w I a)else gGetB w I a k else gGetB w I a k:=by kernel_rfl
theorem findB_con(w:Wrk)(I:Nat)(a:Md.Ask)(k:Txt)(h:FiOk w):Contract PG F_head_work_find [.ptr 0 0 0,.str k] (hpB w I a false) (.tup [.agg (encItem (findW w k).1),.bool (findW w k).2.1]) (hpB5 (findW w k).2.2 I a)/\(hpB w I a false).length<=(hpB5 (findW w k).2.2 I a).length:=by
 refine conC (ak kValue_ok (ak kGet_ok ank)) (c:=1) (n:=9) (by show 1<=5;omega) ((fiB_eq w I a k).trans ?_)
 have hg:gGetB w I a k=some (.tup [.agg (encItem (getO (w.d.clean,k)).1),.bool (getO (w.d.clean,k)).2.2],hpB5 (setC w (getO (w.d.clean,k)).2.1) I a):=gC_eq (w.d.clean,k) (dOut_eq (w.d.clean,k)) h.2 (.refl _)
 rw[qValue h.1,hg]
 unfold findW
 cases h1:(valP w.d.rep.tail k).2 with
 | true=>rw[cond_true,cond_true]
 | false=>
  rw[cond_false,cond_false]
  cases h2:w.isRead with
  | false=>rfl
  | true=>
   cases h3:strBeq w.just.key k with
   | true=>rfl
   | false=>rfl
def kAtC(f:Nat)(p:Prop)(A:List AV)(H:Heap)(r:AV)(H':Heap):Known:=.specG f (fun _ _=>()) (fun _=>p) (fun _=>(A,H)) (fun _=>(r,H'))
theorem kAtC_ok{f:Nat}{p:Prop}{A:List AV}{H:Heap}{r:AV}{H':Heap}(h:p->Contract PG f A H r H'/\H.length<=H'.length):(kAtC f p A H r H').Ok PG:=Known.specG_ok fun _ hp=>h hp
def kFindB(w:Wrk)(I:Nat)(a:Md.Ask)(k:Txt):Known:=kAtC F_head_work_find (FiOk w) [.ptr 0 0 0,.str k] (hpB w I a false) (.tup [.agg (encItem (findW w k).1),.bool (findW w k).2.1]) (hpB5 (findW w k).2.2 I a)
def kAskB(w:Wrk)(I:Nat)(a:Md.Ask)(q:Msg):Known:=kAtC F_head_work_ask (Takes w I q/\w.d.asks.getD I default=a) [.ptr 0 0 0,.agg (encMsg q)] (hpB w I a false) (.tup []) (hpD5 (askedW w I q))
theorem kFindB_ok(w:Wrk)(I:Nat)(a:Md.Ask)(k:Txt):(kFindB w I a k).Ok PG:=kAtC_ok (findB_con w I a k)
theorem kAskB_ok(w:Wrk)(I:Nat)(a:Md.Ask)(q:Msg):(kAskB w I a q).Ok PG:=kAtC_ok fun h=>by rw[<- h.2];exact asked_con w I q h.1
def kNo(f:Nat):Known:=⟨f,fun _ _=>some {X:=Unit,g:=false,a:=(),r:=fun _=>(.undef,[])}⟩
theorem kNo_ok(f:Nat):(kNo f).Ok PG:=fun args hp A e hg=>by cases e;cases hg
def eFrB(l:List Known):Env:=envN [] [(F_head_work_find,5),(F_head_work_ask,5),(F_head_work_fresh,5),(F_head_needs,0),(F_head_writes,0),(F_ver_Next,0)] [] l
def knFrB(w:Wrk)(I:Nat)(a:Md.Ask)(m:Msg):List Known:=[kNeeds,kWrites,kFindB w I a m.op.key,kAskB (findW w m.op.key).2.2 I a m,kNo F_ver_Next]
def gFB(w:Wrk)(I:Nat)(a:Md.Ask)(m:Msg):Option (AV × Heap):=gCG (fun _ _=>()) (fun _=>FiOk w) (fun _=>([.ptr 0 0 0,.str m.op.key],hpB w I a false)) [.ptr 0 0 0,.str m.op.key] (hpB w I a false) fun _=>
 bif !(findW w m.op.key).2.1 then gCG (fun _ _=>()) (fun _=>Takes (findW w m.op.key).2.2 I m/\(findW w m.op.key).2.2.d.asks.getD I default=a) (fun _=>([.ptr 0 0 0,.agg (encMsg m)],hpB (findW w m.op.key).2.2 I a false)) [.ptr 0 0 0,.agg (encMsg m)] (hpB (findW w m.op.key).2.2 I a false) fun _=>some (.tup [],hpD5 (askedW (findW w m.op.key).2.2 I m))else none
theorem frB_eq(w:Wrk)(I:Nat)(a:Md.Ask)(m:Msg):callC 1 (eFrB (knFrB w I a m)) 9 F_head_work_fresh [.ptr 0 0 0,.agg (encMsg m)] (hpB w I a false) =
 gC (fun a=>getI a 0) (fun _=>True) (fun k=>[.int .i64 k]) [.int .i64 m.op.kind] fun y=>bif needsP y then
  bif !w.d.busy then gFB w I a m else gC (fun a=>getI a 0) (fun _=>True) (fun k=>[.int .i64 k]) [.int .i64 m.op.kind] fun y=>bif !writesP y then gFB w I a m else none
 else none:=by kernel_rfl
structure FrBOk(w:Wrk)(I:Nat)(m:Msg):Prop where
 first:asksFirst w m=true
 fi:FiOk w
 no:(findW w m.op.key).2.1=false
 takes:Takes (findW w m.op.key).2.2 I m
theorem findW_asks(w:Wrk)(k:Txt):(findW w k).2.2.d.asks=w.d.asks:=by
 unfold findW
 cases (valP w.d.rep.tail k).2 with
 | true=>rfl
 | false=>
  rw[cond_false]
  cases w.isRead&&strBeq w.just.key k with
  | true=>rfl
  | false=>rfl
def freshB(w:Wrk)(I:Nat)(m:Msg):Wrk:=askedW (findW w m.op.key).2.2 I m
theorem freshB_con(w:Wrk)(I:Nat)(m:Msg)(h:FrBOk w I m):Contract PG F_head_work_fresh [.ptr 0 0 0,.agg (encMsg m)] (hpB w I (w.d.asks.getD I default) false) (.tup []) (hpD5 (freshB w I m))/\(hpB w I (w.d.asks.getD I default) false).length<=(hpD5 (freshB w I m)).length:=by
 obtain⟨h1,h2,h3,h4⟩:=h
 refine conC (l:=knFrB w I (w.d.asks.getD I default) m) (ak kNeeds_ok (ak kWrites_ok (ak (kFindB_ok _ _ _ _) (ak (kAskB_ok _ _ _ _) (ak (kNo_ok _) ank))))) (c:=1) (n:=9) (by show 1<=5;omega) ((frB_eq w I _ m).trans ?_)
 have qk:∀ {K:Int->Option (AV × Heap)},gC (fun a=>getI a 0) (fun _=>True) (fun k=>[.int .i64 k]) [.int .i64 m.op.kind] K=K m.op.kind:=fun {K}=>gC_eq m.op.kind rfl trivial (.refl _)
 have hF:gFB w I (w.d.asks.getD I default) m=some (.tup [],hpD5 (freshB w I m)):=by
  unfold gFB
  refine(gCG_eq () rfl h2 (.refl _) (.refl _)).trans ?_
  rw[h3,Bool.not_false,cond_true]
  exact gCG_eq () rfl ⟨h4,by rw[findW_asks]⟩ (.refl _) (.refl _)
 unfold asksFirst at h1
 obtain⟨g1,g2⟩:=and_true' h1
 rw[qk,qk,g1,cond_true]
 cases hb:w.d.busy with
 | false=>rw[Bool.not_false,cond_true];exact hF
 | true=>
  rw[hb]at g2
  have g3:(!writesP m.op.kind)=true:=by simpa using g2
  rw[Bool.not_true,cond_false,g3,cond_true];exact hF
def kFreshB(w:Wrk)(I:Nat)(a:Md.Ask)(m:Msg):Known:=kAtC F_head_work_fresh (FrBOk w I m/\w.d.asks.getD I default=a) [.ptr 0 0 0,.agg (encMsg m)] (hpB w I a false) (.tup []) (hpD5 (freshB w I m))
theorem kFreshB_ok(w:Wrk)(I:Nat)(a:Md.Ask)(m:Msg):(kFreshB w I a m).Ok PG:=kAtC_ok fun h=>by rw[<- h.2];exact freshB_con w I m h.1
def eClB(l:List Known):Env:=envN [] [(F_head_work_call,5),(F_head_work_refuse,5),(F_head_work_wait,5),(F_head_work_fresh,5),(F_head_Check,0),(F_seen_Find,0),(F_seen_Verdict,0),(F_ver_Num,0),(F_chain_Commit,0)] [] l
def knClB(w:Wrk)(I:Nat)(a:Md.Ask)(m:Msg):List Known:=[kFreshB w I a m,kCheck,kFind,kVerd,kNum,kNo F_head_work_refuse,kNo F_head_work_wait,kNo F_chain_Commit]
def callB2(w:Wrk)(I:Nat)(a:Md.Ask)(m:Msg):Option (AV × Heap):=gC dV1 VNum eV1 [eV w.d.rep.tail.last] fun y=>
 bif decide (w.c.maxSeq<=(nu y:Int))then none else gCG (fun _ _=>()) (fun _=>FrBOk w I m/\w.d.asks.getD I default=a) (fun _=>([.ptr 0 0 0,.agg (encMsg m)],hpB w I a false)) [.ptr 0 0 0,.agg (encMsg m)] (hpB w I a false) fun _=>some (.tup [],hpD5 (freshB w I m))
def callB1(w:Wrk)(I:Nat)(a:Md.Ask)(m:Msg)(known:Bool):Option (AV × Heap):=
 bif decide (w.c.maxLog<=(w.d.rep.tail.log.length:Int))then some (.tup [],hpB5 w I a)else
 bif !known then bif decide (w.c.sessions<=(w.d.rep.seen.length:Int))then some (.tup [],hpB5 w I a)else callB2 w I a m else callB2 w I a m
theorem clB_eq(w:Wrk)(I:Nat)(a:Md.Ask)(m:Msg):callC 1 (eClB (knClB w I a m)) 9 F_head_work_call [.ptr 0 0 0,.agg (encMsg m)] (hpB w I a false) =
 bif decide (m.gen<w.d.rep.view.gen)then none else
 gC (fun a=>(decOp (argC a 0),decConf (argC a 1))) (fun _=>True) eOC [.agg (encOp m.op),.agg (encConf w.c)] fun y=>
 bif !decide (checkP y.1 y.2=0)then none else
 gC dSI (fun p=>SOk p.1) eSI [encSeens w.d.rep.seen,.int .i64 m.sess] fun z=>
 gC (fun a=>(decL decSeen (a.getD 0 .nils),getI a 1,getI a 2)) (fun p=>SOk p.1) eSII [encSeens w.d.rep.seen,.int .i64 m.sess,.int .i64 m.num] fun v=>
 bif decide (verdP v.1 v.2.1 v.2.2=1)then none else
 bif decide (verdP v.1 v.2.1 v.2.2=2)then some (.tup [],hpB5 w I a)else callB1 w I a m (findP z.1 z.2).2:=by kernel_rfl
structure ClBOk(w:Wrk)(I:Nat)(m:Msg):Prop where
 goes:goesW w m=true
 seen:SOk w.d.rep.seen
 last:VNum w.d.rep.tail.last
 fr:FrBOk w I m
theorem callB_con(w:Wrk)(I:Nat)(m:Msg)(h:ClBOk w I m):Contract PG F_head_work_call [.ptr 0 0 0,.agg (encMsg m)] (hpB w I (w.d.asks.getD I default) false) (.tup []) (hpD5 (freshB w I m))/\(hpB w I (w.d.asks.getD I default) false).length<=(hpD5 (freshB w I m)).length:=by
 refine conC (l:=knClB w I (w.d.asks.getD I default) m) (ak (kFreshB_ok _ _ _ _) (ak kCheck_ok (ak kFind_ok (ak kVerd_ok (ak kNum_ok (ak (kNo_ok _) (ak (kNo_ok _) (ak (kNo_ok _) ank)))))))) (c:=1) (n:=9) (by show 1<=5;omega) ((clB_eq w I _ m).trans ?_)
 have qc:∀ {K:OC->Option (AV × Heap)},gC (fun a=>(decOp (argC a 0),decConf (argC a 1))) (fun _=>True) eOC [.agg (encOp m.op),.agg (encConf w.c)] K=K (m.op,w.c):=fun {K}=>gC_eq (m.op,w.c) rfl trivial (.refl _)
 have qv:∀ {K:SII->Option (AV × Heap)},gC (fun a=>(decL decSeen (a.getD 0 .nils),getI a 1,getI a 2)) (fun p=>SOk p.1) eSII [encSeens w.d.rep.seen,.int .i64 m.sess,.int .i64 m.num] K=K (w.d.rep.seen,m.sess,m.num):=fun {K}=>gC_eq (w.d.rep.seen,m.sess,m.num) (Prod.ext (decSeens _) rfl) h.seen (.refl _)
 have qn:∀ {K:Ver->Option (AV × Heap)},gC dV1 VNum eV1 [eV w.d.rep.tail.last] K=K w.d.rep.tail.last:=fun {K}=>gC_eq _ rfl h.last (.refl _)
 obtain⟨g1,g⟩:=and_true' h.goes
 obtain⟨g2,g⟩:=and_true' g
 obtain⟨g3,g⟩:=and_true' g
 obtain⟨g4,g⟩:=and_true' g
 obtain⟨g5,g6⟩:=and_true' g
 simp only[Bool.not_eq_true']at g1 g3 g4 g5 g6
 have e:verdP w.d.rep.seen m.sess m.num=verdW w m:=rfl
 rw[qc,qFind h.seen,qv,g1,cond_false]
 dsimp only
 rw[g2,e,g3,g4]
 have h2:callB2 w I (w.d.asks.getD I default) m=some (.tup [],hpD5 (freshB w I m)):=by
  unfold callB2
  rw[qn,g6,cond_false]
  exact gCG_eq () rfl ⟨h.fr,rfl⟩ (.refl _) (.refl _)
 show callB1 w I (w.d.asks.getD I default) m (findP w.d.rep.seen m.sess).2=_
 unfold fullW at g5
 unfold callB1
 rw[Bool.or_eq_false_iff]at g5
 rw[g5.1,cond_false]
 cases h6:(findP w.d.rep.seen m.sess).2 with
 | true=>rw[Bool.not_true,cond_false];exact h2
 | false=>
  rw[h6]at g5
  have h7:decide (w.c.sessions<=(w.d.rep.seen.length:Int))=false:=by simpa using g5.2
  rw[Bool.not_false,cond_true,h7,cond_false];exact h2
end Go.Hd
end
noncomputable section
open Go Go.AM Go.Md
namespace Go.Hd
open Go.Wk
set_option maxRecDepth 100000
set_option maxHeartbeats 400000
def eHx(l:List Known):Env:=envN [] [(F_head_Handle,0),(F_twin_Desk,5),(F_chain_Head,0),(F_head_work_call,5),(F_head_work_behind,5)] [(F_head_Handle,2,[31007038])] l
def kDeskX(d:Md.Desk)(I:Nat):Known:=.specB F_twin_Desk (fun _=>()) (fun _=>DkOk d/\I<d.asks.length) (fun _=>[.agg (encDesk d)]) (fun _=>(.agg (encDkB 0 d),hpDx d I (d.asks.getD I default)))
theorem kDeskX_ok(d:Md.Desk)(I:Nat):(kDeskX d I).Ok PG:=Known.specB_ok fun _ h=>deskB_con d I h.1 h.2
def kCallB(w:Wrk)(I:Nat)(a:Md.Ask)(m:Msg):Known:=kAtC F_head_work_call (ClBOk w I m/\w.d.asks.getD I default=a) [.ptr 0 0 0,.agg (encMsg m)] (hpB w I a false) (.tup []) (hpD5 (freshB w I m))
theorem kCallB_ok(w:Wrk)(I:Nat)(a:Md.Ask)(m:Msg):(kCallB w I a m).Ok PG:=kAtC_ok fun h=>by rw[<- h.2];exact callB_con w I m h.1
def knHx(d:Md.Desk)(k:Conf)(I:Nat)(m:Msg):List Known:=[kDeskX d I,kHead,kCallB (w0H d k) I (d.asks.getD I default) m,kBehind]
def hp0X(d:Md.Desk)(k:Conf)(I:Nat)(a:Md.Ask):Heap:=[.arr true 44 [wrkC (w0H d k) (.sn 4 1 d.waits.length) (.sn 3 2 d.asks.length) (.sn 31 4 0)],.seq true 4 d.waits.length (fWt d.waits),.sqr true 3 d.asks.length (fAk d.asks) I (rowB a 3 a.calls.length) [3] false,.seq true 31 a.calls.length (fMg a.calls),.seq true 31 0 fun _=>[]]
def gDx(d:Md.Desk)(I:Nat)(K:Option AV):Option AV:=gC (fun _=>()) (fun _=>DkOk d/\I<d.asks.length) (fun _=>[.agg (encDesk d)]) [.agg (encDesk d)] fun _=>K
def gCx(d:Md.Desk)(k:Conf)(I:Nat)(m:Msg)(K:Option AV):Option AV:=gCG (fun _ _=>()) (fun _=>ClBOk (w0H d k) I m/\(w0H d k).d.asks.getD I default=d.asks.getD I default) (fun _=>([.ptr 0 0 0,.agg (encMsg m)],hpB (w0H d k) I (d.asks.getD I default) false)) [.ptr 0 0 0,.agg (encMsg m)] (hp0X d k I (d.asks.getD I default)) fun _=>K
def finX(d:Md.Desk)(k:Conf)(I:Nat)(m:Msg):Option AV:=snK (.tup [.agg (encDkB 4 d),.sn 31 8 0]) [.arr true 23 [encDesk d],.arr true 15 [encConf k],.arr true 31 [encMsg m],.arr true 23 [encDkB 4 d],.seq true 4 d.waits.length (fWt d.waits),
 .sqr true 3 d.asks.length (fAk d.asks) I (rowB (d.asks.getD I default) 6 (d.asks.getD I default).calls.length) [6] false,.seq true 31 (d.asks.getD I default).calls.length (fMg (d.asks.getD I default).calls),.arr true 44 [wrkC (w0H d k) (.sn 4 4 d.waits.length) (.sn 3 5 d.asks.length) (.sn 31 8 0)],.seq true 31 0 fun _=>[]]
def skipX(d:Md.Desk)(k:Conf)(I:Nat)(m:Msg):Option AV:=gC dRep1 pRep1 eRep1 [.agg (encRep d.rep)] fun r=>bif headP r then gCG dWM (fun p=>BhOk p.1 p.2) eWM [.ptr 0 0 0,.agg (encMsg m)] (hp0X d k I (d.asks.getD I default)) fun q=>finH (behindW q.1 q.2)else finX d k I m
theorem hhx(d:Md.Desk)(k:Conf)(I:Nat)(m:Msg):callT (eHx (knHx d k I (inKd m 5))) 9 F_head_Handle [.agg (encDesk d),.agg (encConf k),.agg (encMsg (inKd m 5))] =
 gDx d I (bif decide (m.dst=d.rep.self.node)then bif decide (m.shard=d.rep.shard)then gC dRep1 pRep1 eRep1 [.agg (encRep d.rep)] fun r=>bif headP r then
   gCx d k I (inKd m 5) (tailH (freshB (w0H d k) I (inKd m 5)) (inKd m 5))
  else skipX d k I (inKd m 5)else skipX d k I (inKd m 5)else skipX d k I (inKd m 5)):=by kernel_rfl
def ixT(p:DCM):Nat:=ixA (w0H p.1 p.2.1) p.2.2.op.key
structure TookBy(p:DCM):Prop where
 kd:p.2.2.kind=5
 dst:p.2.2.dst=p.1.rep.self.node
 shard:p.2.2.shard=p.1.rep.shard
 head:headP p.1.rep=true
 goes:goesW (w0H p.1 p.2.1) p.2.2=true
 first:asksFirst (w0H p.1 p.2.1) p.2.2=true
 no:(findW (w0H p.1 p.2.1) p.2.2.op.key).2.1=false
 ix:ixT p<p.1.asks.length
 room:((p.1.asks.getD (ixT p) default).calls.length:Int)<p.2.1.maxLog
def tookW(p:DCM):Wrk:=freshB (w0H p.1 p.2.1) (ixT p) p.2.2
structure TookOk(p:DCM):Prop where
 dk:DkOk p.1
 seen:SOk p.1.rep.seen
 last:VNum p.1.rep.tail.last
 fi:FiOk (w0H p.1 p.2.1)
 calls:(p.1.asks.getD (ixT p) default).calls.length<=100000
 ms:MsOk p.2.2
 bh:headP (tookW p).d.rep=true->BhOk (tookW p) p.2.2
theorem findW_conf(w:Wrk)(k:Txt):(findW w k).2.2.c=w.c:=by
 unfold findW
 cases (valP w.d.rep.tail k).2 with
 | true=>rfl
 | false=>
  rw[cond_false]
  cases w.isRead&&strBeq w.just.key k with
  | true=>rfl
  | false=>rfl
theorem took_con(p:DCM)(ht:TookBy p)(h:TookOk p):Contract PG F_head_Handle (eDCM p) [] (oWk (endH (tookW p) p.2.2)) []:=by
 obtain⟨d,k,m⟩:=p
 have e:=hhx d k (ixT (d,k,m)) m
 have hk:m.kind=5:=ht.kd
 have hd:m.dst=d.rep.self.node:=ht.dst
 have hs:m.shard=d.rep.shard:=ht.shard
 have hh:headP d.rep=true:=ht.head
 have hix:ixT (d,k,m)<d.asks.length:=ht.ix
 have q1:∀ {K:Option AV},gDx d (ixT (d,k,m)) K=K:=fun {K}=>gC_eq () rfl ⟨h.dk,hix⟩ (.refl _)
 have qh:∀ {K:Rep->Option AV},gC dRep1 pRep1 eRep1 [.agg (encRep d.rep)] K=K d.rep:=fun {K}=>gC_eq d.rep (dec_encRep d.rep) trivial (.refl _)
 have hkey:∀ j,j<=ixT (d,k,m) -> ∃ x,d.asks.getD j default=x/\(strBeq x.key m.op.key=true ↔ j=ixT (d,k,m)):=by
  intro j hj
  have hj':j<d.asks.length:=by omega
  have hg:d.asks.getD j default=d.asks[j]:=by simp[List.getD,hj']
  refine⟨_,rfl,fun hx=>?_,fun hx=>?_⟩
  ·rcases Nat.lt_or_ge j (ixT (d,k,m))with hlt | hge
   ·have:=List.not_of_lt_findIdx (p:=hitA m.op.key) (xs:=d.asks) (i:=j) hlt
    rw[hg]at hx
    exact absurd hx (by simpa [hitA] using this)
   ·omega
  ·subst hx
   rw[hg]
   exact List.findIdx_getElem (p:=hitA m.op.key) (xs:=d.asks) (w:=hix)
 have hT:Takes (findW (w0H d k) m.op.key).2.2 (ixT (d,k,m)) m:=by
  have ea:(findW (w0H d k) m.op.key).2.2.d.asks=d.asks:=findW_asks _ _
  have ec:(findW (w0H d k) m.op.key).2.2.c=k:=findW_conf _ _
  refine⟨by rw[ea];exact hix,?_,fun j hj=>?_,by rw[ea,ec];exact ht.room,by rw[ea];exact h.calls,by rw[ea];exact h.dk.2.2.2.2.2.1,h.ms⟩
  ·rw[ea]
   obtain⟨x,hx,hi⟩:=hkey _ (Nat.le_refl _)
   have:=hi.2 rfl
   rw[hx]
   rw[strBeq_eq]at this
   simpa using this
  ·rw[ea]
   obtain⟨x,hx,hi⟩:=hkey j (by omega)
   rw[hx]
   intro hc
   have:=hi.1 (by rw[strBeq_eq];simpa using hc)
   omega
 have hcl:ClBOk (w0H d k) (ixT (d,k,m)) m:=⟨ht.goes,h.seen,h.last,⟨ht.first,h.fi,ht.no,hT⟩⟩
 have q2:∀ {K:Option AV},gCx d k (ixT (d,k,m)) m K=K:=fun {K}=>by
  refine gCG_eq () rfl ⟨hcl,rfl⟩ (.refl _) ?_
  exact .cons (.refl _) (.cons (.refl _) (.cons (.refl _) (.cons (.refl _) (.cons (.seq true 31 0 0 _ _ (Nat.le_refl _) fun i hi=>absurd hi (Nat.not_lt_zero i)) .nil))))
 rw[inKd_eq hk,q1,qh,decide_eq_true hd,decide_eq_true hs,hh,cond_true,cond_true,cond_true,q2]at e
 have e2:=e.trans (tailH_eq _ m h.bh)
 exact conN (l:=knHx d k (ixT (d,k,m)) m) (ak (kDeskX_ok _ _) (ak kHead_ok (ak (kCallB_ok _ _ _ _) (ak kBehind_ok ank)))) e2
open Classical in
def handF(p:DCM):Wrk:=if TookBy p then endH (tookW p) p.2.2 else handH cF2 p
def HandleOk(p:DCM):Prop:=(TookBy p->TookOk p)/\(¬ TookBy p->HdlOk cF2 p)
theorem handF_con(p:DCM)(h:HandleOk p):Contract PG F_head_Handle (eDCM p) [] (oWk (handF p)) []:=by
 unfold handF
 by_cases ht:TookBy p
 ·rw[if_pos ht];exact took_con p ht (h.1 ht)
 ·rw[if_neg ht];exact hand_con cF2 cF2_ok p (h.2 ht)
def kHeadHandle:Known:=.spec F_head_Handle dDCM HandleOk eDCM (fun p=>oWk (handF p))
theorem kHeadHandle_ok:kHeadHandle.Ok PG:=Known.spec_ok handF_con
end Go.Hd
end
noncomputable section
open Go Go.AM Go.Md
namespace Go.Hd
open Go.Wk
set_option maxRecDepth 100000
variable {s:Int}
def K0:Conf:=⟨1,1,2,3,4,8,20,8,12,8,2,3,0,0,30⟩
def tx(t:Txt):Prop:=t.length<=2000
structure ES(e:Entry):Prop where
 ver:VB 30 e.ver
 key:tx e.key
 val:tx e.val
 kind:I64 e.kind
 sess:e.sess=1
 num:I64 e.num
 code:I64 e.code
 res:tx e.res
theorem i64s{n:Int}(h0:-1000<=n)(h1:n<=1000):I64 n:=by unfold I64;omega
structure RI(s:Int)(r:Rep):Prop where
 shard:r.shard=s
 si:I64 s
 self:r.self=⟨2,1⟩
 chain:r.view.chain=[]\/r.view.chain=[⟨2,1⟩]
 ph:r.view.phase=0\/r.view.phase=3
 gen:r.view.gen=0
 ep:0<=r.view.epoch/\r.view.epoch<=4
 last:VB 30 r.tail.last
 floor:VB 30 r.tail.floor
 got:VB 30 r.got
 log:∀ e ∈ r.tail.log,ES e
 len:r.tail.log.length<=8
 seen:r.seen.length<=1 /\ ∀ a ∈ r.seen,a.sess=1/\VB 30 a.ver/\I64 a.code/\tx a.res
 syn:r.synced.length<=1
 le:vle r.tail.floor r.tail.last
theorem vb30{v:Ver}(h:VB 30 v):VNum v:=h.num (by omega)
theorem RI.chainL{r:Rep}(h:RI s r):r.view.chain.length<=1:=by rcases h.chain with e | e <;> rw[e] <;> simp
theorem RI.short{r:Rep}(h:RI s r):RepShort r:=by
 have h1:=h.chainL
 have h2:=h.len
 have h3:=h.seen.1
 have h4:=h.syn
 unfold RepShort shortL LB
 exact⟨by omega,by omega,by omega,by omega⟩
theorem RI.ag{r:Rep}(h:RI s r):RepAg r where
 short:=h.short
 ph:=by rcases h.ph with e | e <;> omega
 sync:=fun e=>by rcases h.ph with e' | e' <;> omega
 len:=by have:=h.chainL;omega
 got:=vb30 h.got
 log:=fun e he=>vb30 (h.log e he).ver
theorem RI.rp{r:Rep}(h:RI s r):RpOk r:=by
 have h1:=h.chainL
 have h2:=h.len
 have h3:=h.seen.1
 have h4:=h.syn
 exact⟨by omega,by omega,by omega,by omega⟩
theorem RI.again{r:Rep}(h:RI s r):againP r=[]:=by
 have hs:syncsP r=false:=by
  unfold syncsP
  rcases h.ph with e | e <;> rw[e] <;> simp
 have f:forwsP r=[]:=by
  unfold forwsP
  rw[h.self]
  rcases h.chain with e | e <;> rw[e] <;> rfl
 have a:acksP r=[]:=by
  unfold acksP
  rw[h.self]
  rcases h.chain with e | e <;> rw[e] <;> rfl
 unfold againP
 rw[hs,f,a]
 cases worksP r <;> rfl
theorem RI.sok{r:Rep}(h:RI s r):SOk r.seen:=by
 have:=h.seen.1
 match hs:r.seen with
 | []=>exact⟨by simp,List.Pairwise.nil⟩
 | [a]=>exact⟨by simp,by simp⟩
 | a::b::l=>rw[hs]at this;simp at this
theorem RI.es{r:Rep}(h:RI s r):EsOk r.tail.log:=⟨by have:=h.len;omega,fun e he=>⟨(h.log e he).key,(h.log e he).val⟩⟩
theorem RI.com{r:Rep}(h:RI s r):VB 30 (commitP r):=by
 unfold commitP
 cases headP r with
 | false=>exact VB.zero 30
 | true=>
  cases decide (r.view.chain.length=1)with
  | true=>exact h.last
  | false=>exact h.got
abbrev EI(_:Rep)(e:Entry):Prop:=ES e
theorem RI.pre{r:Rep}{e:Entry}(h:RI s r)(he:EI r e):pRE2 (r,e):=⟨h.short,⟨by have:=h.len;show r.tail.log.length<=10000;omega,vb30 h.last,vb30 he.ver,⟨h.seen.1,fun a ha=>(h.seen.2 a ha).1⟩,he.sess⟩⟩
theorem push_is{r:Rep}{e:Entry}(h:(headPush (r,e)).2=true):(headPush (r,e)).1=pushR r e/\vlt r.tail.last e.ver=true/\headP r=true:=by
 unfold headPush at h ⊢
 dsimp only at h ⊢
 cases hh:headP r with
 | false=>rw[hh]at h;cases h
 | true=>
  rw[hh]at h
  simp only[cond_true]at h ⊢
  unfold pushP at h ⊢
  cases hv:vlt r.tail.last e.ver with
  | false=>rw[hv]at h;cases h
  | true=>exact⟨rfl,rfl,trivial⟩
theorem RI.push{r:Rep}{e:Entry}(h:RI s r)(he:EI r e)(hl:r.tail.log.length<8)(hv:vlt r.tail.last e.ver=true):RI s (pushR r e) where
 shard:=h.shard
 si:=h.si
 self:=h.self
 chain:=h.chain
 ph:=h.ph
 gen:=h.gen
 ep:=h.ep
 last:=he.ver
 floor:=h.floor
 got:=h.got
 log:=fun x hx=>by
  rcases List.mem_append.1 hx with hx | hx
  ·exact h.log x hx
  ·rw[List.mem_singleton.1 hx];exact he
 len:=by show(r.tail.log++[e]).length<=8;rw[List.length_append];simp;omega
 seen:=by
  show(Wk.putP r.seen (ofP e)).length<=1 /\ ∀ a ∈ Wk.putP r.seen (ofP e),a.sess=1/\VB 30 a.ver/\I64 a.code/\tx a.res
  have h1:=h.seen
  have hs:(ofP e).sess=1/\VB 30 (ofP e).ver/\I64 (ofP e).code/\tx (ofP e).res:=⟨he.sess,he.ver,he.code,he.res⟩
  match hq:r.seen with
  | []=>exact⟨by simp[Wk.putP],fun a ha=>by simp[Wk.putP]at ha;rw[ha];exact hs⟩
  | x::l=>
   rw[hq]at h1
   have e0:Wk.putP (x::l) (ofP e)=bif decide (x.num<(ofP e).num)then ofP e::l else x::l:=rfl
   rw[e0]
   cases decide (x.num<(ofP e).num)with
   | true=>
    rw[cond_true]
    refine⟨h1.1,fun a ha=>?_⟩
    rcases List.mem_cons.1 ha with rfl | ha
    ·exact hs
    ·exact h1.2 a (List.mem_cons_of_mem _ ha)
   | false=>rw[cond_false];exact h1
 syn:=h.syn
 le:=h.le.trans (vle_of_lt hv)
structure IsCall(q:Msg):Prop where
 ms:MsOk q
 sess:q.sess=1
 gen:q.gen=0
 ok:MsgOk q
theorem IsCall.op{q:Msg}(h:IsCall q):OpOk' q.op:=h.ok.2.2.2.2.2.1
theorem IsCall.n{q:Msg}(h:IsCall q):I64 q.src/\I64 q.sess/\I64 q.num:=⟨h.ok.1 _ (by simp[msgN]),h.ok.1 _ (by simp[msgN]),h.ok.1 _ (by simp[msgN])⟩
theorem res_ei{r:Rep}(h:RI s r)(q:Msg)(hq:IsCall q)(x:Itm)(hx:tx x.val)(room:Bool)(hn:nu r.tail.last<30):EI r (resolveP q.op (vr r.view.epoch.toNat (nu r.tail.last+1)) q.sess q.num x room)/\(resolveP q.op (vr r.view.epoch.toNat (nu r.tail.last+1)) q.sess q.num x room).key=q.op.key:=by
 have hv:VB 30 (vr r.view.epoch.toNat (nu r.tail.last+1)):=⟨_,_,by have:=h.ep;omega,by omega,rfl⟩
 have h0:tx []:=Nat.zero_le _
 obtain⟨hki,hk,hvl,_⟩:=hq.op
 have hs:=hq.sess
 have hnum:=hq.n.2.2
 have i0:I64 0:=i64s (by decide) (by decide)
 have i1:I64 1:=i64s (by decide) (by decide)
 have i2:I64 2:=i64s (by decide) (by decide)
 have i3:I64 3:=i64s (by decide) (by decide)
 unfold resolveP
 dsimp only
 cases writesP q.op.kind && !room with
 | true=>exact⟨⟨hv,hk,h0,hki,hs,hnum,i3,h0⟩,rfl⟩
 | false=>
  cases decide (q.op.kind=1)with
  | true=>
   cases x.has with
   | true=>exact⟨⟨hv,hk,h0,hki,hs,hnum,i0,hx⟩,rfl⟩
   | false=>exact⟨⟨hv,hk,h0,hki,hs,hnum,i1,h0⟩,rfl⟩
  | false=>
   cases decide (q.op.kind=2)with
   | true=>exact⟨⟨hv,hk,hvl,hki,hs,hnum,i0,h0⟩,rfl⟩
   | false=>
    cases decide (q.op.kind=3)with
    | true=>exact⟨⟨hv,hk,h0,hki,hs,hnum,i0,h0⟩,rfl⟩
    | false=>
     cases decide (q.op.kind=4)with
     | true=>
      cases (bif x.has then q.op.hasOld else !q.op.hasOld)&&(!x.has||strBeq x.val q.op.old)with
      | true=>exact⟨⟨hv,hk,hvl,hki,hs,hnum,i0,h0⟩,rfl⟩
      | false=>
       cases hh:x.has with
       | true=>exact⟨⟨hv,hk,h0,hki,hs,hnum,i2,hx⟩,rfl⟩
       | false=>exact⟨⟨hv,hk,h0,hki,hs,hnum,i2,h0⟩,rfl⟩
     | false=>exact⟨⟨hv,hk,h0,hki,hs,hnum,i0,h0⟩,rfl⟩
theorem msgOk_of{x:Msg}(h:∀ n ∈ msgN x,I64 n)(k:tx x.key)(v:tx x.val)(hv:VInt x.ver)(hf:VInt x.floor)(ho:x.op=⟨0,[],[],[],false⟩)(he:EntsOk x.entries)(hc:x.chain=[])(hw:x.views=[])(hi:x.image=⟨⟨0,0⟩,⟨0,0⟩,0,[],[]⟩):MsgOk x:=by
 have z:VInt ⟨0,0⟩:=(vb30 (VB.zero 30)).int
 refine⟨h,k,v,hv,hf,?_,he,?_,?_,?_⟩
 ·rw[ho];exact⟨i64s (by decide) (by decide),Nat.zero_le _,Nat.zero_le _,Nat.zero_le _⟩
 ·rw[hc];exact⟨Nat.zero_le _,fun x hx=>by cases hx⟩
 ·rw[hw];exact⟨Nat.zero_le _,fun x hx=>by cases hx⟩
 ·rw[hi];exact⟨z,z,i64s (by decide) (by decide),⟨Nat.zero_le _,fun x hx=>by cases hx⟩,⟨Nat.zero_le _,fun x hx=>by cases hx⟩⟩
theorem ES.ent{e:Entry}(h:ES e):EntOk e:=⟨(vb30 h.ver).int,h.kind,h.key,h.val,by rw[h.sess];exact i64s (by decide) (by decide),h.num,h.code,h.res⟩
theorem ent0:EntOk (default:Entry):=⟨(vb30 (VB.zero 30)).int,i64s (by decide) (by decide),Nat.zero_le _,Nat.zero_le _,i64s (by decide) (by decide),i64s (by decide) (by decide),i64s (by decide) (by decide),Nat.zero_le _⟩
theorem i64_wrap(n:Int):I64 (IntKind.i64.wrap n):=by
 rw[IntKind.wrap_i64];unfold I64;omega
end Go.Hd
end
noncomputable section
open Go Go.AM Go.Md
namespace Go.Hd
open Go.Wk
set_option maxRecDepth 100000
variable {s:Int}
structure DI(s:Int)(B:Nat)(d:Md.Desk):Prop where
 rep:RI s d.rep
 pnum:I64 d.pump.num
 pout:d.pump.out.length<=12 /\ ∀ e ∈ d.pump.out,VB 30 e.ver/\EntOk e
 pdone:d.pump.done.length<=B /\ ∀ x ∈ d.pump.done,VB 30 x.ver
 clean:d.clean.length<=B /\ ∀ x ∈ d.clean,ItmOk x/\VB 30 x.ver
 waits:d.waits.length<=B /\ ∀ x ∈ d.waits,VB 30 x.ver/\I64 x.dst/\I64 x.sess/\I64 x.num
 asks:d.asks.length<=B
 keys:d.asks.Pairwise fun a b=>a.key ≠ b.key
 calls:∀ a ∈ d.asks,a.calls.length<=8 /\ ∀ q ∈ a.calls,IsCall q/\q.op.key=a.key
 anum:∀ a ∈ d.asks,I64 a.num/\tx a.key
 next:0<=d.next/\d.next<=B
structure WI(s:Int)(B:Nat)(w:Wrk):Prop where
 d:DI s B w.d
 c:w.c=K0
 out:w.out.length<=B
 said:∀ x ∈ w.out,MsgOk x
 nor:w.isRead=false
theorem DI.mono{B C:Nat}{d:Md.Desk}(h:DI s B d)(hBC:B<=C):DI s C d:=
 ⟨h.rep,h.pnum,h.pout,⟨by have:=h.pdone.1;omega,h.pdone.2⟩,⟨by have:=h.clean.1;omega,h.clean.2⟩,⟨by have:=h.waits.1;omega,h.waits.2⟩,by have:=h.asks;omega,h.keys,h.calls,h.anum,h.next.1,by have:=h.next.2;omega⟩
theorem WI.mono{B C:Nat}{w:Wrk}(h:WI s B w)(hBC:B<=C):WI s C w:=⟨h.d.mono hBC,h.c,by have:=h.out;omega,h.said,h.nor⟩
theorem valO_mem{k:Txt}:∀ {l:List Entry} {e:Entry},valO l k=some e->e ∈ l
 | [],e,h=>by cases h
 | x::r,e,h=>by
  unfold valO at h
  cases hr:valO r k with
  | some y=>rw[hr]at h;dsimp only at h;cases h;exact List.mem_cons_of_mem _ (valO_mem hr)
  | none=>
   rw[hr]at h
   dsimp only at h
   cases hc:x.write&&strBeq x.key k with
   | true=>rw[hc,cond_true]at h;cases h;simp
   | false=>rw[hc,cond_false]at h;cases h
theorem WI.clean{B:Nat}{w:Wrk}(h:WI s B w){C:List Itm}(h1:C.length<=B)(h2:∀ x ∈ C,ItmOk x/\VB 30 x.ver):WI s B (setC w C):=
 ⟨⟨h.d.rep,h.d.pnum,h.d.pout,h.d.pdone,⟨h1,h2⟩,h.d.waits,h.d.asks,h.d.keys,h.d.calls,h.d.anum,h.d.next⟩,h.c,h.out,h.said,h.nor⟩
theorem WI.rep{B:Nat}{w:Wrk}(h:WI s B w){r:Rep}(hr:RI s r):WI s B (setR w r):=
 ⟨⟨hr,h.d.pnum,h.d.pout,h.d.pdone,h.d.clean,h.d.waits,h.d.asks,h.d.keys,h.d.calls,h.d.anum,h.d.next⟩,h.c,h.out,h.said,h.nor⟩
theorem WI.mark{B:Nat}{w:Wrk}(h:WI s B w):WI s B (markW w):=
 ⟨⟨h.d.rep,h.d.pnum,h.d.pout,h.d.pdone,h.d.clean,h.d.waits,h.d.asks,h.d.keys,h.d.calls,h.d.anum,h.d.next⟩,h.c,h.out,h.said,h.nor⟩
theorem WI.outs{B:Nat}{w:Wrk}(h:WI s B w){l:List Msg}(hl:(w.out++l).length<=B)(hm:∀ x ∈ l,MsgOk x):WI s B (outW w l):=⟨h.d,h.c,hl,fun x hx=>(List.mem_append.1 hx).elim (h.said x) (hm x),h.nor⟩
theorem ent_nil:EntsOk []:=⟨Nat.zero_le _,fun x hx=>by cases hx⟩
theorem vi0:VInt ⟨0,0⟩:=(vb30 (VB.zero 30)).int
theorem answM_ok{r:Wrk}(h:RI s r.d.rep){dst sess num code:Int}(h1:I64 dst)(h2:I64 sess)(h3:I64 num)(h4:I64 code):MsgOk (answM r dst sess num code):=by
 refine msgOk_of (fun n hn=>?_) (Nat.zero_le _) (Nat.zero_le _) vi0 vi0 rfl ent_nil rfl rfl rfl
 have e:msgN (answM r dst sess num code)=[6,r.d.rep.self.node,dst,0,0,r.d.rep.shard,0,0,sess,num,0,code]:=rfl
 rw[e,h.self,h.shard]at hn
 simp only[List.mem_cons,List.not_mem_nil,or_false]at hn
 have hs:=h.si
 rcases hn with rfl | rfl | rfl | rfl | rfl | rfl | rfl | rfl | rfl | rfl | rfl | rfl <;> first | assumption | exact i64s (by decide) (by decide)
theorem WI.refuse{B:Nat}{w:Wrk}(h:WI s B w){m:Msg}(hm:IsCall m){k:Int}(hk:I64 k):WI s (B+1) (refuseW w m k):=(h.mono (Nat.le_succ B)).outs (by have:=h.out;simp;omega) fun x hx=>by
 rw[List.mem_singleton.1 hx]
 obtain⟨a,b,c⟩:=hm.n
 exact answM_ok h.d.rep a b c hk
theorem WI.wait{B:Nat}{w:Wrk}(h:WI s B w){v:Ver}(hv:VB 30 v){m:Msg}(hm:IsCall m):WI s (B+1) (waitW w v m):=by
 have k:=h.mono (Nat.le_succ B)
 refine⟨⟨k.d.rep,k.d.pnum,k.d.pout,k.d.pdone,k.d.clean,⟨?_,fun x hx=>?_⟩,k.d.asks,k.d.keys,k.d.calls,k.d.anum,k.d.next⟩,k.c,k.out,k.said,k.nor⟩
 ·have h1:=h.d.waits.1
  have h2:=List.length_filter_le (fun x=>!pW m x) w.d.waits
  show((w.d.waits.filter fun x=>!pW m x)++[_]).length<=B+1
  rw[List.length_append]
  simp only[List.length_singleton]
  omega
 ·rcases List.mem_append.1 hx with hx | hx
  ·exact h.d.waits.2 x (List.mem_filter.1 hx).1
  ·rw[List.mem_singleton.1 hx];exact⟨hv,hm.n⟩
theorem WI.find{B:Nat}{w:Wrk}(h:WI s B w)(k:Txt):WI s (B+1) (findW w k).2.2:=by
 have h0:=h.mono (Nat.le_succ B)
 unfold findW
 cases (valP w.d.rep.tail k).2 with
 | true=>exact h0
 | false=>
  rw[cond_false]
  cases w.isRead&&strBeq w.just.key k with
  | true=>exact h0
  | false=>
   rw[cond_false]
   refine h0.clean ?_ fun x hx=>?_
   ·show(getO (w.d.clean,k)).2.1.length<=B+1
    have h1:=h.d.clean.1
    have h2:=outP_len w.d.clean k
    unfold getO
    dsimp only
    split <;> simp <;> omega
   ·revert hx
    show x ∈ (getO (w.d.clean,k)).2.1->_
    unfold getO
    dsimp only
    split
    ·rename_i y hy
     intro hx
     rcases List.mem_append.1 hx with hx | hx
     ·exact h.d.clean.2 x (List.mem_filter.1 hx).1
     ·rw[List.mem_singleton.1 hx];exact h.d.clean.2 y (List.mem_of_find?_eq_some hy)
    ·exact fun hx=>h.d.clean.2 x hx
theorem WI.item{B:Nat}{w:Wrk}(h:WI s B w)(k:Txt):tx (findW w k).1.val:=by
 unfold findW
 cases hv:(valP w.d.rep.tail k).2 with
 | true=>
  rw[cond_true]
  show tx (valP w.d.rep.tail k).1.val
  unfold valP
  cases ho:valO w.d.rep.tail.log k with
  | none=>exact Nat.zero_le _
  | some e=>
   have hm:e ∈ w.d.rep.tail.log:=valO_mem ho
   have:=(h.d.rep.log e hm).val
   show tx (bif !e.del then e.val else [])
   cases e.del with
   | true=>exact Nat.zero_le _
   | false=>exact this
 | false=>
  rw[cond_false,h.nor,Bool.false_and,cond_false]
  show tx (getO (w.d.clean,k)).1.val
  unfold getO
  dsimp only
  split
  ·rename_i y hy
   exact(h.d.clean.2 y (List.mem_of_find?_eq_some hy)).1.2
  ·exact Nat.zero_le _
theorem WI.fi{B:Nat}{w:Wrk}(h:WI s B w)(hB:B<=9000):FiOk w:=⟨by have:=h.d.rep.len;omega,by have:=h.d.clean.1;omega⟩
theorem hasA_false{w:Wrk}{q:Msg}(h:hasA w q=false):∀ a ∈ w.d.asks,a.key ≠ q.op.key:=by
 intro a ha hk
 have:hasA w q=true:=by
  unfold hasA
  exact List.any_eq_true.2 ⟨a,ha,by rw[strBeq_eq];simpa using hk⟩
 rw[this]at h;cases h
theorem readM_ok{r:Rep}(h:RI s r){a:Md.Ask}(h1:I64 a.num)(h2:tx a.key):MsgOk (readM (r,a)):=by
 refine msgOk_of (fun n hn=>?_) h2 (Nat.zero_le _) vi0 vi0 rfl ent_nil rfl rfl rfl
 have e:msgN (readM (r,a))=[17,r.self.node,0,0,r.self.boot,r.shard,r.view.epoch,0,0,a.num,0,0]:=rfl
 rw[e,h.self,h.shard]at hn
 simp only[List.mem_cons,List.not_mem_nil,or_false]at hn
 have hs:=h.si
 have he:I64 r.view.epoch:=i64s (by have:=h.ep;omega) (by have:=h.ep;omega)
 rcases hn with rfl | rfl | rfl | rfl | rfl | rfl | rfl | rfl | rfl | rfl | rfl | rfl <;> first | assumption | exact i64s (by decide) (by decide)
theorem WI.ask{B:Nat}{w:Wrk}(h:WI s B w){q:Msg}(hq:IsCall q)(hB:B<=9000):WI s (B+1) (askW w q):=by
 have k:=h.mono (Nat.le_succ B)
 unfold askW
 cases hh:hasA w q with
 | true=>exact k
 | false=>
  rw[cond_false]
  have hno:=hasA_false hh
  have h1:=h.d.asks
  have h2:=h.out
  have h3:=h.d.next
  refine⟨⟨k.d.rep,k.d.pnum,k.d.pout,k.d.pdone,k.d.clean,k.d.waits,by show(w.d.asks++[newA w q]).length<=B+1;simp;omega,?_,fun a ha=>?_,fun a ha=>?_,by show 0<=w.d.next+1;omega,by show w.d.next+1<=((B+1:Nat):Int);omega⟩,k.c,by show(w.out++[_]).length<=B+1;simp;omega,fun x hx=>?_,k.nor⟩
  ·refine List.pairwise_append.2 ⟨h.d.keys,by simp,fun a ha b hb=>?_⟩
   rw[List.mem_singleton.1 hb]
   exact hno a ha
  ·rcases List.mem_append.1 ha with ha | ha
   ·exact h.d.calls a ha
   ·rw[List.mem_singleton.1 ha]
    exact⟨by simp[newA],fun x hx=>by simp[newA]at hx;rw[hx];exact⟨hq,rfl⟩⟩
  ·rcases List.mem_append.1 ha with ha | ha
   ·exact h.d.anum a ha
   ·rw[List.mem_singleton.1 ha]
    exact⟨by show I64 (w.d.next+1);unfold I64;omega,hq.op.2.1⟩
  ·rcases List.mem_append.1 hx with hx | hx
   ·exact h.said x hx
   ·rw[List.mem_singleton.1 hx]
    exact readM_ok h.d.rep (by show I64 (w.d.next+1);unfold I64;omega) hq.op.2.1
theorem WI.askOk{B:Nat}{w:Wrk}(h:WI s B w)(hB:B<=9000){q:Msg}(hq:IsCall q)(hn:NoTake w q):AskOk w q:=
 ⟨hn,hq.ms,by have:=h.d.asks;omega,by have:=h.out;omega,h.d.next.1,by have:=h.d.next.2;omega⟩
def hasK(w:Wrk)(k:Txt):Prop:=∃ e ∈ w.d.rep.tail.log,hitP k e
def noAsk(w:Wrk)(k:Txt):Prop:=∀ a ∈ w.d.asks,a.key ≠ k
theorem valO_has{k:Txt}:∀ {l:List Entry},(∃ e ∈ l,hitP k e)->(valO l k).isSome=true
 | [],h=>by obtain⟨e,he,_⟩:=h;cases he
 | x::r,h=>by
  unfold valO
  cases hr:valO r k with
  | some y=>rfl
  | none=>
   dsimp only
   obtain⟨e,he,h1,h2⟩:=h
   rcases List.mem_cons.1 he with rfl | he
   ·have:strBeq e.key k=true:=by rw[strBeq_eq];simpa using h2
    rw[h1,this];rfl
   ·have:=valO_has (l:=r) ⟨e,he,h1,h2⟩
    rw[hr]at this;cases this
theorem hasK_val{w:Wrk}{k:Txt}(h:hasK w k):(valP w.d.rep.tail k).2=true:=by
 have:=valO_has h
 unfold valP
 cases hv:valO w.d.rep.tail.log k with
 | none=>rw[hv]at this;cases this
 | some e=>rfl
theorem noAsk_ix{w:Wrk}{k:Txt}(h:noAsk w k):ixA w k=w.d.asks.length:=List.findIdx_eq_length.2 fun a ha=>by
 have:=h a ha
 show strBeq a.key k=false
 rw[strBeq_eq];simpa using this
theorem endW_no{c:CallF}{w:Wrk}{k:Txt}(h:noAsk w k):endW c w k=w:=by
 unfold endW
 rw[noAsk_ix h,blt_false (Nat.le_refl _),cond_false]
theorem WI.pushed{B:Nat}{w:Wrk}(h:WI s B w):pushedW w=outW w []:=by unfold pushedW;rw[h.d.rep.again]
theorem WI.dirt{B:Nat}{w:Wrk}(h:WI s B w)(k:Txt):WI s B (dirtW w k):=by
 unfold dirtW
 rw[h.pushed]
 have h1:WI s B (markW (outW w [])):=(h.outs (by simpa using h.out) fun x hx=>by cases hx).mark
 refine h1.clean ?_ fun x hx=>h1.d.clean.2 x (List.mem_filter.1 hx).1
 exact Nat.le_trans (outP_len _ _) h1.d.clean.1
theorem rest_ok(c:CallF){B B2:Nat}{w:Wrk}{m:Msg}(x:Itm)(hx:tx x.val)(hw:WI s B w)(hm:IsCall m)(hl:w.d.rep.tail.log.length<8)(hn:nu w.d.rep.tail.last<30)(h1:B+1<=B2)(h2:B2<=9000)
  (hEnd:∀ (e:Entry) (w':Wrk),e.write=true->e.key=m.op.key->WI s (B+1) w'->w'.d.asks=w.d.asks->w'.d.rep.tail.log=w.d.rep.tail.log++[e]->EndOk c w' m.op.key/\WI s B2 (endW c w' m.op.key)) :
  RestOk c w m x/\WI s B2 (restW c w m x):=by
 obtain⟨he,hek⟩:=res_ei hw.d.rep m hm x hx (!w.d.busy) hn
 have hee:resolveP m.op (vr w.d.rep.view.epoch.toNat (nu w.d.rep.tail.last+1)) m.sess m.num x (!w.d.busy)=entN w m x:=rfl
 rw[hee]at he hek
 have hpush:(headPush (w.d.rep,entN w m x)).2=true->DoneOk c (waitW (setR w (headPush (w.d.rep,entN w m x)).1) (entN w m x).ver m) (entN w m x)/\WI s B2 (doneW c (waitW (setR w (headPush (w.d.rep,entN w m x)).1) (entN w m x).ver m) (entN w m x)):=by
  intro hp
  obtain⟨p1,p2,p3⟩:=push_is hp
  rw[p1]
  have hR:=hw.d.rep.push he hl p2
  have hW:WI s (B+1) (waitW (setR w (pushR w.d.rep (entN w m x))) (entN w m x).ver m):=(hw.rep hR).wait he.ver hm
  have hD:=hW.dirt (entN w m x).key
  have hE:(entN w m x).write=true->EndOk c (dirtW (waitW (setR w (pushR w.d.rep (entN w m x))) (entN w m x).ver m) (entN w m x).key) (entN w m x).key/\WI s B2 (endW c (dirtW (waitW (setR w (pushR w.d.rep (entN w m x))) (entN w m x).ver m) (entN w m x).key) (entN w m x).key):=by
   intro hwr
   have:=hEnd (entN w m x) _ hwr hek hD rfl rfl
   rw[<- hek]at this
   exact this
  refine⟨⟨hR.ag,by have:=hW.out;omega,?_,fun _=>hR.es,fun _=>?_,fun h=>(hE h).1⟩,?_⟩
  ·show(againP (pushR w.d.rep (entN w m x))).length<=100000
   rw[hR.again];simp
  ·have:=hW.d.clean.1;omega
  ·unfold doneW
   cases hwr:(entN w m x).write with
   | false=>rw[Bool.not_false,cond_true,hW.pushed];exact(hW.outs (by simpa using hW.out) fun x hx=>by cases hx).mono h1
   | true=>rw[Bool.not_true,cond_false];exact(hE hwr).2
 refine⟨⟨hw.d.rep.ep.1,vb30 hw.d.rep.last,hw.d.rep.pre he,by have:=hw.d.waits.1;omega,fun hp=>(hpush hp).1⟩,?_⟩
 unfold restW
 cases hp:(headPush (w.d.rep,entN w m x)).2 with
 | false=>rw[Bool.not_false,cond_true];exact hw.mono (by omega)
 | true=>rw[Bool.not_true,cond_false];exact(hpush hp).2
end Go.Hd
end
noncomputable section
open Go Go.AM Go.Md
namespace Go.Hd
open Go.Wk
set_option maxRecDepth 100000
variable {s:Int}
def Keep(w w':Wrk):Prop:=w'.d.asks=w.d.asks /\ ∃ l,w'.d.rep.tail.log=w.d.rep.tail.log++l
theorem Keep.refl(w:Wrk):Keep w w:=⟨rfl,[],by simp⟩
theorem Keep.hasK{w w':Wrk}(h:Keep w w'){k:Txt}(hk:hasK w k):hasK w' k:=by
 obtain⟨e,he,hh⟩:=hk
 obtain⟨_,l,hl⟩:=h
 exact⟨e,by rw[hl];exact List.mem_append_left _ he,hh⟩
theorem Keep.noAsk{w w':Wrk}(h:Keep w w'){k:Txt}(hk:noAsk w k):noAsk w' k:=fun a ha=>hk a (by rw[<- h.1];exact ha)
theorem rest_keep(c:CallF){w:Wrk}{m:Msg}(x:Itm)(hk:(entN w m x).key=m.op.key)(hno:noAsk w m.op.key):Keep w (restW c w m x):=by
 unfold restW
 cases hp:(headPush (w.d.rep,entN w m x)).2 with
 | false=>exact Keep.refl w
 | true=>
  obtain⟨p1,_⟩:=push_is hp
  rw[Bool.not_true,cond_false,p1]
  unfold doneW
  cases (entN w m x).write with
  | false=>exact⟨rfl,[entN w m x],rfl⟩
  | true=>
   rw[Bool.not_true,cond_false,endW_no (by rw[hk];exact hno)]
   exact⟨rfl,[entN w m x],rfl⟩
theorem goes_len{w:Wrk}{m:Msg}(hc:w.c=K0)(h:goesW w m=true):w.d.rep.tail.log.length<8/\nu w.d.rep.tail.last<30:=by
 obtain⟨_,g⟩:=and_true' h
 obtain⟨_,g⟩:=and_true' g
 obtain⟨_,g⟩:=and_true' g
 obtain⟨_,g⟩:=and_true' g
 obtain⟨g5,g6⟩:=and_true' g
 simp only[Bool.not_eq_true']at g5 g6
 unfold fullW at g5
 rw[Bool.or_eq_false_iff]at g5
 have h1:=of_decide_eq_false g5.1
 have h2:=of_decide_eq_false g6
 rw[hc]at h1 h2
 have h1:¬ ((8:Int)<=(w.d.rep.tail.log.length:Int)):=h1
 have h2:¬ ((30:Int)<=(nu w.d.rep.tail.last:Int)):=h2
 omega
theorem check_i64(o:Md.Op)(c:Conf):I64 (checkP o c):=by
 have i8:I64 8:=i64s (by decide) (by decide)
 have i4:I64 4:=i64s (by decide) (by decide)
 have i0:I64 0:=i64s (by decide) (by decide)
 unfold checkP
 cases decide (o.kind<1)||decide (5<o.kind)with
 | true=>exact i8
 | false=>
  cases !decide (o.kind=5)&&strBeq o.key []with
  | true=>exact i8
  | false=>
   cases decide (c.maxKey<(o.key.length:Int))||(decide (c.maxVal<(o.val.length:Int))||decide (c.maxVal<(o.old.length:Int)))with
   | true=>exact i4
   | false=>exact i0
theorem call_ok(c:CallF){B B2:Nat}{w:Wrk}{m:Msg}(hm:IsCall m)(hw:WI s B w)(h1:B+1<=B2)(h2:B2<=9000)(Q:Wrk->Prop)(hQ0:Q w)(hQr:∀ k,Q (refuseW w m k))(hQw:∀ v,Q (waitW w v m))
  (hf:goesW w m=true->FrOk c w m/\WI s B2 (freshW c w m)/\Q (freshW c w m)):ClOk c w m/\WI s B2 (callW c w m)/\Q (callW c w m):=by
 have hs:VB 30 (findP w.d.rep.seen m.sess).1.ver:=by
  unfold findP
  cases hq:w.d.rep.seen.find? fun x=>decide (x.sess=m.sess)with
  | none=>exact VB.zero 30
  | some y=>exact(hw.d.rep.seen.2 y (List.mem_of_find?_eq_some hq)).2.1
 have hr:=fun(k:Int) (hk:I64 k)=>(hw.refuse hm hk).mono h1
 have hchk:I64 (checkP m.op w.c):=check_i64 _ _
 have i5:I64 5:=i64s (by decide) (by decide)
 have i6:I64 6:=i64s (by decide) (by decide)
 have hwt:=(hw.wait hs hm).mono h1
 have hw2:WI s B2 w:=hw.mono (by omega)
 refine⟨⟨by have:=hw.out;omega,by have:=hw.d.waits.1;omega,hw.d.rep.sok,vb30 hw.d.rep.last,vb30 hw.d.rep.com,fun h=>(hf h).1⟩,?_⟩
 unfold callW
 cases g1:decide (m.gen<w.d.rep.view.gen)with
 | true=>exact⟨hr 6 i6,hQr 6⟩
 | false=>
  cases g2:decide (checkP m.op w.c=0)with
  | false=>exact⟨hr _ hchk,hQr _⟩
  | true=>
   cases g3:decide (verdW w m=1)with
   | true=>exact⟨hwt,hQw _⟩
   | false=>
    cases g4:decide (verdW w m=2)with
    | true=>exact⟨hw2,hQ0⟩
    | false=>
     cases g5:fullW w m with
     | true=>exact⟨hw2,hQ0⟩
     | false=>
      cases g6:decide (w.c.maxSeq<=(nu w.d.rep.tail.last:Int))with
      | true=>
       cases vlt (commitP w.d.rep) w.d.rep.tail.last with
       | false=>exact⟨hr 5 i5,hQr 5⟩
       | true=>exact⟨hw2,hQ0⟩
      | false=>exact(hf (by unfold goesW;rw[g1,g2,g3,g4,g5,g6];rfl)).2
theorem call1_ok{B:Nat}{w:Wrk}{q:Msg}(hw:WI s B w)(hq:IsCall q)(hno:noAsk w q.op.key)(hk:hasK w q.op.key)(hB:B+1<=9000) :
  ClOk .none w q/\WI s (B+1) (callW .none w q)/\Keep w (callW .none w q):=by
 refine call_ok .none hq hw (Nat.le_refl _) hB (Keep w) (Keep.refl w) (fun k=>⟨rfl,[],by simp[refuseW,outW]⟩) (fun v=>⟨rfl,[],by simp[waitW]⟩) fun hg=>?_
 obtain⟨hl,hn⟩:=goes_len hw.c hg
 have hval:=hasK_val hk
 have hfw:(findW w q.op.key).2=(true,w):=by
  unfold findW
  rw[hval];rfl
 have hrest:∀ x,tx x.val->RestOk .none w q x/\WI s (B+1) (restW .none w q x):=fun x hx=>rest_ok .none x hx hw hq hl hn (Nat.le_refl _) hB fun e w' hwr hke hw' ha hlog=>by
  have hno':noAsk w' q.op.key:=fun a h=>hno a (by rw[<- ha];exact h)
  rw[endW_no hno']
  exact⟨⟨by have:=hw'.d.asks;omega,fun hi=>by rw[noAsk_ix hno']at hi;omega⟩,hw'⟩
 have hkeep:∀ x,tx x.val->Keep w (restW .none w q x):=fun x hx=>rest_keep .none x (res_ei hw.d.rep q hq x hx (!w.d.busy) hn).2 hno
 have hit:tx (findW w q.op.key).1.val:=hw.item _
 have hd0:tx (default:Itm).val:=Nat.zero_le _
 have e1:(findW w q.op.key).2.1=true:=by rw[hfw]
 have e2:(findW w q.op.key).2.2=w:=by rw[hfw]
 refine⟨⟨fun _=>hw.fi (by omega),fun _ h=>(by rw[e1]at h;cases h),fun _ _=>(by rw[e2];exact(hrest _ hit).1),fun _=>(hrest _ hd0).1⟩,?_⟩
 unfold freshW
 rw[e1,e2]
 cases asksFirst w q with
 | true=>exact⟨(hrest _ hit).2,hkeep _ hit⟩
 | false=>exact⟨(hrest _ hd0).2,hkeep _ hd0⟩
theorem calls1_ok{k:Txt}:∀ (l:List Msg) {B:Nat} {w:Wrk},WI s B w->(∀ q ∈ l,IsCall q/\q.op.key=k)->noAsk w k->hasK w k->B+l.length<=9000 ->
  CallsOk cF1 w l/\WI s (B+l.length) (callsW cF1 w l)
 | [],B,w,hw,_,_,_,_=>⟨trivial,hw⟩
 | q::l,B,w,hw,hq,hno,hk,hB=>by
  obtain⟨q1,q2⟩:=hq q (by simp)
  simp only[List.length_cons]at hB
  obtain⟨a,b,c⟩:=call1_ok hw q1 (by rw[q2];exact hno) (by rw[q2];exact hk) (by omega)
  obtain⟨d,e⟩:=calls1_ok l b (fun x hx=>hq x (List.mem_cons_of_mem _ hx)) (c.noAsk hno) (c.hasK hk) (by omega)
  refine⟨⟨a,d⟩,?_⟩
  have:B+(q::l).length=B+1+l.length:=by simp;omega
  rw[this];exact e
theorem WI.drop{B:Nat}{w:Wrk}(h:WI s B w)(i:Nat):WI s B (setA w (w.d.asks.eraseIdx i)):=
 ⟨⟨h.d.rep,h.d.pnum,h.d.pout,h.d.pdone,h.d.clean,h.d.waits,by have:=h.d.asks;have h2:(w.d.asks.eraseIdx i).length<=w.d.asks.length:=(List.eraseIdx_sublist w.d.asks i).length_le;show(w.d.asks.eraseIdx i).length<=B;omega,
  h.d.keys.sublist (List.eraseIdx_sublist _ _),fun a ha=>h.d.calls a ((List.eraseIdx_sublist w.d.asks i).subset ha),fun a ha=>h.d.anum a ((List.eraseIdx_sublist w.d.asks i).subset ha),h.d.next⟩,h.c,h.out,h.said,h.nor⟩
theorem drop_no{k:Txt}:∀ {l:List Md.Ask} {i:Nat},(l.Pairwise fun a b=>a.key ≠ b.key)->i<l.length->(l.getD i default).key=k -> ∀ a ∈ l.eraseIdx i,a.key ≠ k
 | [],i,_,hi,_=>absurd hi (Nat.not_lt_zero i)
 | x::r,0,h,_,hk=>fun a ha=>by
  have:=(List.pairwise_cons.1 h).1 a (by simpa using ha)
  rw[<- hk];exact fun e=>this e.symm
 | x::r,i+1,h,hi,hk=>fun a ha=>by
  have hr:=List.pairwise_cons.1 h
  have hi':i<r.length:=by simpa using hi
  have hm:r.getD i default ∈ r:=getD_mem (z:=(default:Md.Ask)) hi'
  rcases List.mem_cons.1 (by simpa using ha:a ∈ x::r.eraseIdx i)with rfl | ha
  ·rw[<- hk];exact hr.1 _ hm
  ·exact drop_no hr.2 hi' hk a ha
theorem end0_ok{B:Nat}{w:Wrk}{k:Txt}(hw:WI s B w)(hk:hasK w k)(hB:B+8<=9000):EndOk cF1 w k/\WI s (B+8) (endW cF1 w k):=by
 unfold EndOk endW
 by_cases hi:ixA w k<w.d.asks.length
 ·have hmem:w.d.asks.getD (ixA w k) default ∈ w.d.asks:=getD_mem (z:=(default:Md.Ask)) hi
  obtain⟨c1,c2⟩:=hw.d.calls _ hmem
  have hkey:(w.d.asks.getD (ixA w k) default).key=k:=by
   have hg:w.d.asks.getD (ixA w k) default=w.d.asks[ixA w k]:=by simp[List.getD,hi]
   have:=List.findIdx_getElem (p:=hitA k) (xs:=w.d.asks) (w:=hi)
   rw[hg]
   have t:strBeq (w.d.asks[ixA w k]).key k=true:=this
   rw[strBeq_eq]at t
   simpa using t
  have hk':hasK (setA w (w.d.asks.eraseIdx (ixA w k))) k:=hk
  obtain⟨a,b⟩:=calls1_ok (k:=k) (w.d.asks.getD (ixA w k) default).calls (hw.drop (ixA w k)) (fun q hq=>⟨(c2 q hq).1,(c2 q hq).2.trans hkey⟩) (drop_no hw.d.keys hi hkey) hk' (by omega)
  rw[blt_true hi,cond_true]
  exact⟨⟨by have:=hw.d.asks;omega,fun _=>⟨by omega,a⟩⟩,b.mono (by omega)⟩
 ·rw[blt_false (by omega),cond_false]
  exact⟨⟨by have:=hw.d.asks;omega,fun h=>absurd h hi⟩,hw.mono (by omega)⟩
theorem call0_ok{B:Nat}{w:Wrk}{q:Msg}(hw:WI s B w)(hq:IsCall q)(hB:B+10<=9000)(hnt:goesW w q=true->asksFirst w q=true->(findW w q.op.key).2.1=false->NoTake (findW w q.op.key).2.2 q) :
  ClOk cF1 w q/\WI s (B+10) (callW cF1 w q):=by
 have:=call_ok cF1 (B2:=B+10) (m:=q) hq hw (by omega) hB (fun _=>True) trivial (fun _=>trivial) (fun _=>trivial) fun hg=>?_
 ·exact⟨this.1,this.2.1⟩
 obtain⟨hl,hn⟩:=goes_len hw.c hg
 have hit:tx (findW w q.op.key).1.val:=hw.item _
 have hd0:tx (default:Itm).val:=Nat.zero_le _
 have hrest:∀ (w1:Wrk) x,tx x.val->w1.d.rep=w.d.rep->WI s (B+1) w1->RestOk cF1 w1 q x/\WI s (B+10) (restW cF1 w1 q x):=fun w1 x hx hr1 hw1=>rest_ok cF1 x hx hw1 hq (by rw[hr1];exact hl) (by rw[hr1];exact hn) (by omega) hB fun e w' hwr hke hw' ha hlog=>by
  have hk':hasK w' q.op.key:=⟨e,by rw[hlog];simp,hwr,hke⟩
  exact end0_ok hw' hk' (by omega)
 have hf:=hw.find q.op.key
 have hr:=(findW_rep w q.op.key).1
 refine⟨⟨fun _=>hw.fi (by omega),fun ha hg2=>hf.askOk (by omega) hq (hnt hg ha hg2),fun _ _=>(hrest _ _ hit hr hf).1,fun _=>(hrest w default hd0 rfl (hw.mono (by omega))).1⟩,?_,trivial⟩
 unfold freshW
 cases asksFirst w q with
 | false=>exact(hrest w default hd0 rfl (hw.mono (by omega))).2
 | true=>
  cases (findW w q.op.key).2.1 with
  | false=>exact(hf.ask hq (by omega)).mono (by omega)
  | true=>exact(hrest _ _ hit hr hf).2
end Go.Hd
end
noncomputable section
open Go Go.AM Go.Md
namespace Go.Hd
open Go.Wk
set_option maxRecDepth 100000
variable {s:Int}
def SM(m:Msg):Prop:=MsgOk m/\((m.kind=5/\IsCall m)\/m.kind=8\/(m.kind=10/\m.chain=[⟨2,1⟩]/\0<=m.epoch/\m.epoch<=4/\m.gen=0/\m.fresh=true)\/(m.kind=16/\m.code=0))
theorem act_ri{r:Rep}{m:Msg}(h:RI s r)(hc:m.chain=[⟨2,1⟩])(h0:0<=m.epoch)(h4:m.epoch<=4)(hg:m.gen=0)(hf:m.fresh=true):RI s (actR r m):=by
 have e:actR r m={r with view:=⟨m.shard,m.epoch,0,3,[⟨2,1⟩]⟩,synced:=[true],tail:=Wk.tail0 m.epoch,seen:=[],got:=vr m.epoch.toNat 0}:=by
  unfold actR actT
  rw[hf,hc,hg];rfl
 have hv:VB 30 (vr m.epoch.toNat 0):=⟨_,0,by omega,by omega,rfl⟩
 rw[e]
 exact⟨h.shard,h.si,h.self,.inr rfl,.inr rfl,rfl,⟨h0,h4⟩,hv,hv,hv,fun x hx=>(by cases hx),by show(0:Nat)<=8;omega,⟨by show(0:Nat)<=1;omega,fun x hx=>(by cases hx)⟩,by show(1:Nat)<=1;omega,vle.refl _⟩
theorem froze_ok{r:Rep}{m:Msg}(h:RI s r)(hm:MsgOk m):MsgOk (frozeM r m):=by
 refine msgOk_of (fun n hn=>?_) (Nat.zero_le _) (Nat.zero_le _) (vb30 h.last).int vi0 rfl ent_nil rfl rfl rfl
 have e:msgN (frozeM r m)=[9,r.self.node,m.src,0,r.self.boot,r.shard,m.epoch,0,0,0,r.view.epoch,0]:=rfl
 rw[e,h.self,h.shard]at hn
 simp only[List.mem_cons,List.not_mem_nil,or_false]at hn
 have hs:=h.si
 have h1:I64 m.src:=hm.1 _ (by simp[msgN])
 have h2:I64 m.epoch:=hm.1 _ (by simp[msgN])
 have he:I64 r.view.epoch:=i64s (by have:=h.ep;omega) (by have:=h.ep;omega)
 rcases hn with rfl | rfl | rfl | rfl | rfl | rfl | rfl | rfl | rfl | rfl | rfl | rfl <;> first | assumption | exact i64s (by decide) (by decide)
theorem hand_ri{r:Rep}{m:Msg}(h:RI s r)(hmo:MsgOk m)(hm:m.kind=8\/(m.kind=10/\m.chain=[⟨2,1⟩]/\0<=m.epoch/\m.epoch<=4/\m.gen=0/\m.fresh=true)):RI s (handP r m).1/\(handP r m).2.length<=1/\(∀ x ∈ (handP r m).2,MsgOk x)/\HdOk (r,m):=by
 rcases hm with hk | ⟨hk,hc,h0,h4,hg,hf⟩
 ·refine⟨?_,?_,?_,h.short,.inl hk⟩
  all_goals
   unfold handP handK
   rw[decide_eq_true hk]
   cases toMe r m with
   | false=>first | exact h | exact Nat.zero_le _ | exact fun x hx=>(by cases hx)
   | true=>
    rw[cond_true,cond_true]
    unfold freezeP
    cases aboveP r m with
    | false=>first | exact h | exact Nat.zero_le _ | exact fun x hx=>(by cases hx)
    | true=>first | exact⟨h.shard,h.si,h.self,h.chain,h.ph,h.gen,h.ep,h.last,h.floor,h.got,h.log,h.len,h.seen,h.syn,h.le⟩ | exact Nat.le_refl _ | exact fun x hx=>(by rw[List.mem_singleton.1 hx];exact froze_ok h hmo)
 ·have ha:=act_ri h hc h0 h4 hg hf
  refine⟨?_,?_,?_,h.short,.inr ⟨hk,h0,by show m.epoch<=1099511627776;omega,⟨2,1⟩,hc,fun _=>ha.ag⟩⟩
  all_goals
   unfold handP handK
   rw[decide_eq_false (show ¬ m.kind=8 by omega),decide_eq_true hk]
   cases toMe r m with
   | false=>first | exact h | exact Nat.zero_le _ | exact fun x hx=>(by cases hx)
   | true=>
    rw[cond_true,cond_false,cond_true]
    unfold actP
    cases actG r m with
    | false=>first | exact h | exact Nat.zero_le _ | exact fun x hx=>(by cases hx)
    | true=>first | exact ha | (rw[cond_true];show(againP (actR r m)).length<=1;rw[ha.again];exact Nat.zero_le _) | (rw[cond_true];show ∀ x ∈ againP (actR r m),MsgOk x;rw[ha.again];exact fun x hx=>(by cases hx))
theorem DI.zero{B:Nat}{d:Md.Desk}(h:DI s B d):DI s B (zeroD d):=
 ⟨h.rep,h.pnum,⟨Nat.zero_le _,fun x hx=>(by cases hx)⟩,⟨Nat.zero_le _,fun x hx=>(by cases hx)⟩,⟨Nat.zero_le _,fun x hx=>(by cases hx)⟩,⟨Nat.zero_le _,fun x hx=>(by cases hx)⟩,Nat.zero_le _,List.Pairwise.nil,fun x hx=>(by cases hx),fun x hx=>(by cases hx),h.next⟩
theorem other_ok{B:Nat}{w:Wrk}{m:Msg}(h:WI s B w)(hB:B<=9000)(hmo:MsgOk m)(hm:m.kind=8\/(m.kind=10/\m.chain=[⟨2,1⟩]/\0<=m.epoch/\m.epoch<=4/\m.gen=0/\m.fresh=true)):OtOk w m/\WI s (B+1) (otherW w m):=by
 obtain⟨h1,h2,h4,h3⟩:=hand_ri h.d.rep hmo hm
 have ho:=h.out
 refine⟨⟨h3,by omega,by omega⟩,?_⟩
 have hr:=(h.rep h1).mono (Nat.le_succ B)
 have hl:(w.out++(handP w.d.rep m).2).length<=B+1:=by rw[List.length_append];omega
 unfold otherW
 cases !decide ((handP w.d.rep m).1.view.epoch=w.d.rep.view.epoch) || !headP (handP w.d.rep m).1 with
 | false=>exact hr.outs hl h4
 | true=>exact⟨hr.d.zero,hr.c,hl,fun x hx=>(List.mem_append.1 hx).elim (h.said x) (h4 x),hr.nor⟩
theorem flushed_ok{B:Nat}{w:Wrk}(m:Msg)(h:WI s B w):WI s (B+12) (setPm w (flushedP w.d.pump m).1):=by
 have k:=h.mono (show B<=B+12 by omega)
 have hp:I64 (flushedP w.d.pump m).1.num/\(flushedP w.d.pump m).1.out.length<=12/\(∀ e ∈ (flushedP w.d.pump m).1.out,VB 30 e.ver/\EntOk e)/\(flushedP w.d.pump m).1.done.length<=B+12 /\ ∀ x ∈ (flushedP w.d.pump m).1.done,VB 30 x.ver:=by
  unfold flushedP
  cases decide ((w.d.pump.out.length:Int)=0)with
  | true=>exact⟨k.d.pnum,k.d.pout.1,k.d.pout.2,k.d.pdone.1,k.d.pdone.2⟩
  | false=>
   cases decide (m.num=w.d.pump.num)with
   | false=>exact⟨k.d.pnum,k.d.pout.1,k.d.pout.2,k.d.pdone.1,k.d.pdone.2⟩
   | true=>
    cases decide (m.code=0)with
    | false=>exact⟨k.d.pnum,Nat.zero_le _,fun x hx=>(by cases hx),k.d.pdone.1,k.d.pdone.2⟩
    | true=>
     refine⟨k.d.pnum,Nat.zero_le _,fun x hx=>(by cases hx),?_,fun x hx=>?_⟩
     ·show(doneP w.d.pump).length<=B+12
      unfold doneP
      have h1:=h.d.pdone.1
      have h2:=h.d.pout.1
      have h3:=List.length_filter_le (fun x=>!memS x.key (w.d.pump.out.map fun e=>e.key)) w.d.pump.done
      rw[List.length_append,List.length_map]
      omega
     ·rcases List.mem_append.1 (show x ∈ doneP w.d.pump from hx)with hx | hx
      ·exact h.d.pdone.2 x (List.mem_filter.1 hx).1
      ·obtain⟨e,he,rfl⟩:=List.mem_map.1 hx
       exact(h.d.pout.2 e he).1
 exact⟨⟨k.d.rep,hp.1,⟨hp.2.1,hp.2.2.1⟩,⟨hp.2.2.2.1,hp.2.2.2.2⟩,k.d.clean,k.d.waits,k.d.asks,k.d.keys,k.d.calls,k.d.anum,k.d.next⟩,k.c,k.out,k.said,k.nor⟩
theorem riseGo_vb{M:MV}{u:Ver}:∀ {l:List Entry} {f:Ver},VB 30 f->(∀ e ∈ l,VB 30 e.ver)->VB 30 (riseGo M u f l)
 | [],_,h,_=>h
 | e::r,f,h,hl=>by
  unfold riseGo
  cases !settledP e M||vlt u e.ver with
  | true=>exact h
  | false=>exact riseGo_vb (hl e (by simp)) fun x hx=>hl x (List.mem_cons_of_mem _ hx)
theorem cleanGo_ok{v:Ver}{room:Int}{M:MC}:∀ {l:List Entry} {i:Nat} {C:List Itm},(∀ e ∈ l,tx e.key/\tx e.val/\VB 30 e.ver)->(∀ x ∈ C,ItmOk x/\VB 30 x.ver)->(cleanGo v room M l i C).length<=C.length+l.length /\ ∀ x ∈ cleanGo v room M l i C,ItmOk x/\VB 30 x.ver
 | [],_,C,_,hC=>⟨Nat.le_refl _,hC⟩
 | e::r,i,C,hl,hC=>by
  unfold cleanGo
  cases vlt v e.ver with
  | true=>exact⟨by simp,hC⟩
  | false=>
   rw[cond_false]
   have hS:(cleanS room M i e C).length<=C.length+1 /\ ∀ x ∈ cleanS room M i e C,ItmOk x/\VB 30 x.ver:=by
    unfold cleanS
    cases isLast M i e with
    | false=>exact⟨by simp,hC⟩
    | true=>
     refine⟨putP_len (C,itmC e,room),fun x hx=>?_⟩
     rcases putP_mem (C,itmC e,room) x hx with hx | rfl
     ·exact hC x hx
     ·obtain⟨h1,h2,h3⟩:=hl e (by simp)
      unfold tx at h1 h2
      refine⟨⟨by show e.key.length<=2000;omega,?_⟩,h3⟩
      show(bif !e.del then e.val else []).length<=2000
      cases e.del with
      | true=>exact Nat.zero_le _
      | false=>show e.val.length<=2000;omega
   have:=cleanGo_ok (v:=v) (room:=room) (M:=M) (l:=r) (i:=i+1) (C:=cleanS room M i e C) (fun x hx=>hl x (List.mem_cons_of_mem _ hx)) hS.2
   exact⟨by simp only[List.length_cons];omega,this.2⟩
theorem lift_ri{r:Rep}{v:Ver}(h:RI s r)(hv:VB 30 v):RI s (liftR r v):=
 ⟨h.shard,h.si,h.self,h.chain,h.ph,h.gen,h.ep,h.last.max hv,h.floor.max hv,h.got,fun e he=>h.log e (List.mem_filter.1 he).1,Nat.le_trans (List.length_filter_le _ _) h.len,h.seen,h.syn,
  vmax_le (h.le.trans (vmax_l _ _)) (vmax_r _ _)⟩
theorem batch_vb{p:BaA}(h:∀ e ∈ p.t.log,VB 30 e.ver/\EntOk e):∀ e ∈ batchP p,VB 30 e.ver/\EntOk e:=by
 intro e he
 unfold batchP resP at he
 obtain⟨i,_,rfl⟩:=List.mem_map.1 he
 by_cases hi:i.toNat<p.t.log.length
 ·exact h _ (getD_mem (z:=(default:Entry)) hi)
 ·have:p.t.log.getD i.toNat default=default:=by simp[List.getD,List.getElem?_eq_none (show p.t.log.length<=i.toNat by omega)]
  rw[this]
  exact⟨VB.zero 30,ent0⟩
theorem ansM_ok{w:Wrk}(h:RI s w.d.rep){y:Wait}(h2:I64 y.dst)(h3:I64 y.sess)(h4:I64 y.num):MsgOk (ansM w y):=by
 have hf:I64 (findP w.d.rep.seen y.sess).1.code/\tx (findP w.d.rep.seen y.sess).1.res/\VB 30 (findP w.d.rep.seen y.sess).1.ver:=by
  unfold findP
  cases hq:w.d.rep.seen.find? fun x=>decide (x.sess=y.sess)with
  | none=>exact⟨i64s (by decide) (by decide),Nat.zero_le _,VB.zero 30⟩
  | some z=>
   obtain⟨_,a,b,c⟩:=h.seen.2 z (List.mem_of_find?_eq_some hq)
   exact⟨b,c,a⟩
 refine msgOk_of (fun n hn=>?_) (Nat.zero_le _) hf.2.1 (vb30 hf.2.2).int vi0 rfl ent_nil rfl rfl rfl
 have e:msgN (ansM w y)=[6,w.d.rep.self.node,y.dst,0,0,w.d.rep.shard,0,0,y.sess,y.num,0,(findP w.d.rep.seen y.sess).1.code]:=rfl
 rw[e,h.self,h.shard]at hn
 simp only[List.mem_cons,List.not_mem_nil,or_false]at hn
 have hs:=h.si
 have hc:=hf.1
 rcases hn with rfl | rfl | rfl | rfl | rfl | rfl | rfl | rfl | rfl | rfl | rfl | rfl <;> first | assumption | exact i64s (by decide) (by decide)
theorem flushMP_ok{p:Pump}{r:Rep}(h:RI s r)(hn:I64 p.num)(hl:p.out.length<=12)(he:∀ e ∈ p.out,EntOk e):∀ x ∈ flushMP (p,r),MsgOk x:=by
 intro x hx
 unfold flushMP at hx
 cases hp:p.out.isEmpty with
 | true=>rw[hp]at hx;cases hx
 | false=>
  rw[hp]at hx
  rw[List.mem_singleton.1 (show x ∈ [flushM p r] from hx)]
  refine msgOk_of (fun n hn'=>?_) (Nat.zero_le _) (Nat.zero_le _) vi0 (vb30 h.floor).int rfl ⟨by show p.out.length<=1000;omega,he⟩ rfl rfl rfl
  have e:msgN (flushM p r)=[15,r.self.node,0,0,r.self.boot,r.shard,r.view.epoch,0,0,p.num,0,0]:=rfl
  rw[e,h.self,h.shard]at hn'
  simp only[List.mem_cons,List.not_mem_nil,or_false]at hn'
  have hs:=h.si
  have hep:I64 r.view.epoch:=i64s (by have:=h.ep;omega) (by have:=h.ep;omega)
  rcases hn' with rfl | rfl | rfl | rfl | rfl | rfl | rfl | rfl | rfl | rfl | rfl | rfl <;> first | assumption | exact i64s (by decide) (by decide)
theorem behind_ok{B:Nat}{w:Wrk}(m:Msg)(h:WI s B w)(hB:B+8<=8000):BhOk w m/\DI s (B+8) (behindW w m).d/\(behindW w m).out.length<=B+B+1 /\ ∀ x ∈ (behindW w m).out,MsgOk x:=by
 have hcom:VB 30 (comW w):=h.d.rep.com
 have hup:VB 30 (upW w):=riseGo_vb h.d.rep.floor fun e he=>(h.d.rep.log e he).ver
 have hlen:=h.d.rep.len
 have hcl:=h.d.clean.1
 have hout:=h.out
 have hwl:=h.d.waits.1
 have hpl:=h.d.pdone.1
 have hpo:=h.d.pout.1
 obtain⟨c1,c2⟩:=cleanGo_ok (v:=upW w) (room:=w.c.room) (M:=lastsC w.d.rep.tail.log 0 ([],fun _=>0)) (l:=w.d.rep.tail.log) (i:=0) (C:=w.d.clean) (fun e he=>⟨(h.d.rep.log e he).key,(h.d.rep.log e he).val,(h.d.rep.log e he).ver⟩) h.d.clean.2
 have h1:WI s (B+8) (cleanW w (upW w)):=(h.mono (show B<=B+8 by omega)).clean (by show(cleanGo _ _ _ _ _ _).length<=B+8;omega) c2
 have h2:WI s (B+8) (bhLift w):=h1.rep (lift_ri h1.d.rep hup)
 have hdone:∀ x ∈ (bhTrim w).d.pump.done,VB 30 x.ver:=fun x hx=>h.d.pdone.2 x (List.mem_filter.1 hx).1
 have hdl:(bhTrim w).d.pump.done.length<=B:=Nat.le_trans (List.length_filter_le _ _) hpl
 have h3:WI s (B+8) (bhTrim w):=⟨⟨h2.d.rep,h2.d.pnum,h2.d.pout,⟨by omega,hdone⟩,h2.d.clean,h2.d.waits,h2.d.asks,h2.d.keys,h2.d.calls,h2.d.anum,h2.d.next⟩,h2.c,h2.out,h2.said,h2.nor⟩
 have h4:=h3.mark
 have hwl4:(markW (bhTrim w)).d.waits.length<=B:=hwl
 have hsaid:(saidL (markW (bhTrim w)) (comW w) (markW (bhTrim w)).d.waits).length<=B:=by
  unfold saidL
  rw[List.length_map]
  exact Nat.le_trans (List.length_filter_le _ _) hwl4
 have hao:(bhAns w).out.length<=B+B:=by
  show((markW (bhTrim w)).out++saidL (markW (bhTrim w)) (comW w) (markW (bhTrim w)).d.waits).length<=B+B
  rw[List.length_append]
  have:(markW (bhTrim w)).out.length<=B:=hout
  omega
 have h5:DI s (B+8) (bhAns w).d:=⟨h4.d.rep,h4.d.pnum,h4.d.pout,h4.d.pdone,h4.d.clean,⟨Nat.le_trans (List.length_filter_le _ _) h4.d.waits.1,fun x hx=>h4.d.waits.2 x (List.mem_filter.1 hx).1⟩,h4.d.asks,h4.d.keys,h4.d.calls,h4.d.anum,h4.d.next⟩
 have hlog5:=h5.rep.len
 have hsay:∀ x ∈ (bhAns w).out,MsgOk x:=fun x hx=>by
  rcases List.mem_append.1 (show x ∈ (markW (bhTrim w)).out++saidL (markW (bhTrim w)) (comW w) (markW (bhTrim w)).d.waits from hx)with hx | hx
  ·exact h4.said x hx
  ·obtain⟨y,hy,rfl⟩:=List.mem_map.1 hx
   obtain⟨_,y2,y3,y4⟩:=h4.d.waits.2 y (List.mem_filter.1 hy).1
   exact ansM_ok h4.d.rep y2 y3 y4
 have hba:pBa (stA (bhAns w) (comW w)).ba:=⟨by show(bhAns w).d.rep.tail.log.length<=12;omega,by show(bhAns w).d.pump.done.length<=100000;have:=h5.pdone.1;omega,vb30 hcom,fun e he=>vb30 (h5.rep.log e he).ver,fun x hx=>vb30 (h5.pdone.2 x hx)⟩
 have hst:(startP (stA (bhAns w) (comW w))).1.out.length<=12/\(∀ e ∈ (startP (stA (bhAns w) (comW w))).1.out,VB 30 e.ver/\EntOk e)/\I64 (startP (stA (bhAns w) (comW w))).1.num/\(startP (stA (bhAns w) (comW w))).1.done=(bhAns w).d.pump.done:=by
  unfold startP
  cases (stA (bhAns w) (comW w)).p.out.isEmpty with
  | false=>exact⟨h5.pout.1,h5.pout.2,h5.pnum,rfl⟩
  | true=>
   cases (batchP (stA (bhAns w) (comW w)).ba).isEmpty with
   | true=>exact⟨h5.pout.1,h5.pout.2,h5.pnum,rfl⟩
   | false=>exact⟨batch_len hba,batch_vb fun e he=>⟨(h5.rep.log e he).ver,(h5.rep.log e he).ent⟩,i64_wrap _,rfl⟩
 have hcv:RiA.t ⟨w.d.rep.tail,comW w,w.d.pump.done⟩=w.d.rep.tail:=rfl
 refine⟨⟨⟨by show w.d.rep.tail.log.length<=100000;omega,by show w.d.pump.done.length<=100000;omega,vb30 hcom,fun e he=>vb30 (h.d.rep.log e he).ver,fun x hx=>vb30 (h.d.pdone.2 x hx)⟩,
  ⟨vb30 hup,fun e he=>⟨vb30 (h.d.rep.log e he).ver,(h.d.rep.log e he).key,(h.d.rep.log e he).val⟩,⟨by omega,fun x hx=>(h.d.clean.2 x hx).1⟩,by omega⟩,
  ⟨h1.d.rep.short,⟨by show w.d.rep.tail.log.length<=10000;omega,vb30 h.d.rep.floor,vb30 h.d.rep.last,vb30 hup,fun e he=>vb30 (h.d.rep.log e he).ver,h.d.rep.le⟩⟩,
  ⟨⟨by show w.d.pump.out.length<=100000;omega,by show w.d.pump.done.length<=100000;omega⟩,by show(bhLift w).d.rep.tail.log.length<=100000;have:=h2.d.rep.len;omega⟩,
  h3.d.rep.es,
  ⟨h4.d.rep.sok,vb30 hcom,vb30 h4.d.rep.floor,by omega,by show w.out.length<=1000000;omega,fun x hx=>vb30 (h.d.waits.2 x hx).1⟩,
  ⟨⟨by show w.d.pump.out.length<=100000;omega,by show(bhTrim w).d.pump.done.length<=100000;omega⟩,hba⟩,
  by omega,by omega⟩,?_⟩
 unfold behindW
 cases stopB (bhAns w) m with
 | true=>exact⟨h5,by rw[cond_true];omega,hsay⟩
 | false=>
  rw[cond_false]
  have hP:DI s (B+8) (setPm (bhAns w) (startP (stA (bhAns w) (comW w))).1).d:=⟨h5.rep,hst.2.2.1,⟨hst.1,hst.2.1⟩,by show(startP (stA (bhAns w) (comW w))).1.done.length<=B+8 /\ ∀ x ∈ (startP (stA (bhAns w) (comW w))).1.done,VB 30 x.ver;rw[hst.2.2.2];exact h5.pdone,h5.clean,h5.waits,h5.asks,h5.keys,h5.calls,h5.anum,h5.next⟩
  unfold bhGo
  cases (startP (stA (bhAns w) (comW w))).2 with
  | true=>
   have hfl:=flushMP_le ((startP (stA (bhAns w) (comW w))).1,(bhAns w).d.rep)
   refine⟨hP,?_,fun x hx=>?_⟩
   ·show((bhAns w).out++flushMP ((startP (stA (bhAns w) (comW w))).1,(bhAns w).d.rep)).length<=B+B+1
    rw[List.length_append];omega
   ·rcases List.mem_append.1 (show x ∈ (bhAns w).out++flushMP ((startP (stA (bhAns w) (comW w))).1,(bhAns w).d.rep) from hx)with hx | hx
    ·exact hsay x hx
    ·exact flushMP_ok h5.rep hst.2.2.1 hst.1 (fun e he=>(hst.2.1 e he).2) x hx
  | false=>exact⟨hP,by show(bhAns w).out.length<=B+B+1;omega,hsay⟩
end Go.Hd
end
noncomputable section
open Go Go.AM Go.Md
namespace Go.Hd
open Go.Wk
set_option maxRecDepth 100000
variable {s:Int}
theorem w0H_ok{B:Nat}{d:Md.Desk}(h:DI s B d):WI s B (w0H d K0):=⟨h,rfl,Nat.zero_le _,fun x hx=>(by cases hx),rfl⟩
theorem DI.dk{B:Nat}{d:Md.Desk}(h:DI s B d)(hB:B<=9000):DkOk d:=
 ⟨h.rep.rp,by have:=h.pout.1;omega,by have:=h.pdone.1;omega,by have:=h.clean.1;omega,by have:=h.waits.1;omega,by have:=h.asks;omega,fun a ha=>⟨by have:=(h.calls a ha).1;omega,fun q hq=>((h.calls a ha).2 q hq).1.ms⟩⟩
theorem ixA_of{w:Wrk}{k:Txt}(hp:w.d.asks.Pairwise fun a b=>a.key ≠ b.key){j:Nat}(hj:j<w.d.asks.length)(hk:(w.d.asks.getD j default).key=k):ixA w k=j:=by
 have hg:∀ i,(hi:i<w.d.asks.length)->w.d.asks.getD i default=w.d.asks[i]:=fun i hi=>by simp[List.getD,hi]
 rw[hg j hj]at hk
 refine(List.findIdx_eq hj).2 ⟨by show strBeq (w.d.asks[j]).key k=true;rw[strBeq_eq];simpa using hk,fun i hij=>?_⟩
 have hi:i<w.d.asks.length:=by omega
 have:=List.pairwise_iff_getElem.1 hp i j hi hj hij
 show strBeq (w.d.asks[i]).key k=false
 rw[strBeq_eq]
 rw[hk]at this
 simpa using this
theorem set_calls{B:Nat}{w:Wrk}(h:WI s B w){q:Msg}(hq:IsCall q){i:Nat}(hi:i<w.d.asks.length)(hk:(w.d.asks.getD i default).key=q.op.key)(hl:(w.d.asks.getD i default).calls.length<8):WI s B (askedW w i q):=by
 have hmem:w.d.asks.getD i default ∈ w.d.asks:=getD_mem (z:=(default:Md.Ask)) hi
 refine⟨⟨h.d.rep,h.d.pnum,h.d.pout,h.d.pdone,h.d.clean,h.d.waits,by show(addA w.d.asks i q).length<=B;unfold addA;rw[List.length_set];exact h.d.asks,?_,fun a ha=>?_,fun a ha=>?_,h.d.next⟩,h.c,h.out,h.said,h.nor⟩
 ·show(addA w.d.asks i q).Pairwise fun a b=>a.key ≠ b.key
  have hmap:(addA w.d.asks i q).map Md.Ask.key=w.d.asks.map Md.Ask.key:=by
   unfold addA
   rw[List.map_set]
   refine List.ext_getElem (by simp) fun n h1 h2=>?_
   rw[List.getElem_set]
   by_cases hn:i=n
   ·subst hn
    simp[List.getD,hi]
   ·rw[if_neg hn]
  have h1:(w.d.asks.map Md.Ask.key).Pairwise (· ≠ ·):=List.pairwise_map.2 h.d.keys
  rw[<- hmap]at h1
  exact List.pairwise_map.1 h1
 ·rcases List.mem_or_eq_of_mem_set (show a ∈ w.d.asks.set i {w.d.asks.getD i default with calls:=(w.d.asks.getD i default).calls++[q]} from ha)with ha | rfl
  ·exact h.d.calls a ha
  ·obtain⟨c1,c2⟩:=h.d.calls _ hmem
   refine⟨by show((w.d.asks.getD i default).calls++[q]).length<=8;rw[List.length_append,List.length_singleton];omega,fun x hx=>?_⟩
   rcases List.mem_append.1 (show x ∈ (w.d.asks.getD i default).calls++[q] from hx)with hx | hx
   ·exact c2 x hx
   ·rw[List.mem_singleton.1 hx];exact⟨hq,hk.symm⟩
 ·rcases List.mem_or_eq_of_mem_set (show a ∈ w.d.asks.set i {w.d.asks.getD i default with calls:=(w.d.asks.getD i default).calls++[q]} from ha)with ha | rfl
  ·exact h.d.anum a ha
  ·have t:I64 (w.d.asks.getD i default).num/\tx (w.d.asks.getD i default).key:=h.d.anum _ hmem
   exact t
def Lft(s:Int)(B:Nat)(w:Wrk):Prop:=DI s (B+30) w.d/\w.out.length<=B+B+100 /\ ∀ x ∈ w.out,MsgOk x
theorem handle_ok{B:Nat}{d:Md.Desk}{m:Msg}(hd:DI s B d)(hm:SM m)(hB:B+30<=8000):HandleOk (d,K0,m)/\Lft s B (handF (d,K0,m)):=by
 have hw:=w0H_ok hd
 have took:TookBy (d,K0,m)->TookOk (d,K0,m)/\Lft s B (endH (tookW (d,K0,m)) m):=by
  intro ht
  have hc:IsCall m:=by
   rcases hm.2 with ⟨_,h⟩ | h | ⟨h,_⟩ | ⟨h,_⟩
   ·exact h
   all_goals exact absurd (ht.kd.symm.trans h) (by decide)
  have hix:ixT (d,K0,m)<d.asks.length:=ht.ix
  have hmem:d.asks.getD (ixT (d,K0,m)) default ∈ d.asks:=getD_mem (z:=(default:Md.Ask)) hix
  have hroom:((d.asks.getD (ixT (d,K0,m)) default).calls.length:Int)<8:=ht.room
  have hkey:(d.asks.getD (ixT (d,K0,m)) default).key=m.op.key:=by
   have hg:d.asks.getD (ixT (d,K0,m)) default=d.asks[ixT (d,K0,m)]:=by simp[List.getD,hix]
   have:=List.findIdx_getElem (p:=hitA m.op.key) (xs:=d.asks) (w:=hix)
   rw[hg]
   have t:strBeq (d.asks[ixT (d,K0,m)]).key m.op.key=true:=this
   rw[strBeq_eq]at t
   simpa using t
  have hf:=hw.find m.op.key
  have ea:(findW (w0H d K0) m.op.key).2.2.d.asks=d.asks:=findW_asks _ _
  have hT:WI s (B+1) (tookW (d,K0,m)):=set_calls hf hc (by rw[ea];exact hix) (by rw[ea];exact hkey) (by rw[ea];omega)
  have hb:=behind_ok m hT (by omega)
  refine⟨⟨hd.dk (by omega),hd.rep.sok,vb30 hd.rep.last,hw.fi (by omega),by show(d.asks.getD (ixT (d,K0,m)) default).calls.length<=100000;omega,hc.ms,fun _=>hb.1⟩,?_⟩
  unfold endH
  cases headP (tookW (d,K0,m)).d.rep with
  | true=>exact⟨hb.2.1.mono (by omega),by rw[cond_true];have:=hb.2.2.1;omega,hb.2.2.2⟩
  | false=>exact⟨hT.d.mono (by omega),by rw[cond_false];have:=hT.out;omega,hT.said⟩
 have rest:¬ TookBy (d,K0,m)->HdlOk cF2 (d,K0,m)/\Lft s B (handH cF2 (d,K0,m)):=by
  intro hnt
  have fin:∀ {w:Wrk},WI s (B+12) w->mainW cF2 (w0H d K0) m=w->MainOk cF2 (w0H d K0) m->HdlOk cF2 (d,K0,m)/\Lft s B (handH cF2 (d,K0,m)):=by
   intro w h1 he hk
   have hb:=behind_ok m h1 (by omega)
   refine⟨⟨hd.dk (by omega),hk,fun _=>by show BhOk (mainW cF2 (w0H d K0) m) m;rw[he];exact hb.1⟩,?_⟩
   show Lft s B (endH (mainW cF2 (w0H d K0) m) m)
   rw[he]
   unfold endH
   cases headP w.d.rep with
   | true=>exact⟨hb.2.1.mono (by omega),by rw[cond_true];have:=hb.2.2.1;omega,hb.2.2.2⟩
   | false=>exact⟨h1.d.mono (by omega),by rw[cond_false];have:=h1.out;omega,h1.said⟩
  have h0:WI s (B+12) (w0H d K0):=hw.mono (by omega)
  obtain⟨hmo,hm⟩:=hm
  rcases hm with ⟨hk,hc⟩ | hk | hk | ⟨hk,hcode⟩
  ·
   have hcall:m.dst=d.rep.self.node->m.shard=d.rep.shard->headP d.rep=true->ClOk cF1 (w0H d K0) m/\WI s (B+10) (callW cF1 (w0H d K0) m):=by
    intro h1 h2 h3
    refine call0_ok hw hc (by omega) fun hg ha hn j hj hjk hjl=>?_
    have ea:(findW (w0H d K0) m.op.key).2.2.d.asks=d.asks:=findW_asks _ _
    have ec:(findW (w0H d K0) m.op.key).2.2.c=K0:=findW_conf _ _
    rw[ea]at hj hjk hjl
    rw[ec]at hjl
    have hix:ixT (d,K0,m)=j:=ixA_of (w:=w0H d K0) hd.keys hj hjk
    exact hnt ⟨hk,h1,h2,h3,hg,ha,hn,by rw[hix];exact hj,by rw[hix];exact hjl⟩
   have hmain:mainW cF2 (w0H d K0) m=bif decide (m.dst=d.rep.self.node)&&(decide (m.shard=d.rep.shard)&&headP d.rep)then callW cF1 (w0H d K0) m else w0H d K0:=by
    unfold mainW;rw[decide_eq_true hk];rfl
   have hmo:MainOk cF2 (w0H d K0) m:=⟨.inl hk,fun _ h1 h2 h3=>(hcall h1 h2 h3).1,fun h=>absurd (hk.symm.trans h) (by decide),fun h=>by rcases h with h | h <;> exact absurd (hk.symm.trans h) (by decide)⟩
   cases hcnd:decide (m.dst=d.rep.self.node)&&(decide (m.shard=d.rep.shard)&&headP d.rep)with
   | false=>exact fin h0 (by rw[hmain,hcnd];rfl) hmo
   | true=>
    obtain⟨a1,a2⟩:=and_true' hcnd
    obtain⟨a2,a3⟩:=and_true' a2
    exact fin ((hcall (of_decide_eq_true a1) (of_decide_eq_true a2) a3).2.mono (by omega)) (by rw[hmain,hcnd];rfl) hmo
  ·obtain⟨o1,o2⟩:=other_ok hw (by omega) hmo (.inl hk)
   refine fin (o2.mono (by omega)) ?_ ⟨.inr (.inl hk),fun h=>absurd (hk.symm.trans h) (by decide),fun h=>absurd (hk.symm.trans h) (by decide),fun _=>o1⟩
   unfold mainW;rw[decide_eq_false (show ¬ m.kind=5 by omega),decide_eq_false (show ¬ m.kind=16 by omega)];rfl
  ·have hk10:=hk.1
   obtain⟨o1,o2⟩:=other_ok hw (by omega) hmo (.inr hk)
   refine fin (o2.mono (by omega)) ?_ ⟨.inr (.inr (.inl hk10)),fun h=>absurd (hk10.symm.trans h) (by decide),fun h=>absurd (hk10.symm.trans h) (by decide),fun _=>o1⟩
   unfold mainW;rw[decide_eq_false (show ¬ m.kind=5 by omega),decide_eq_false (show ¬ m.kind=16 by omega)];rfl
  ·have hmo:MainOk cF2 (w0H d K0) m:=⟨.inr (.inr (.inr hk)),fun h=>absurd (hk.symm.trans h) (by decide),fun _=>⟨by show d.pump.out.length<=100000;have:=hd.pout.1;omega,by show d.pump.done.length<=100000;have:=hd.pdone.1;omega⟩,fun h=>by rcases h with h | h <;> exact absurd (hk.symm.trans h) (by decide)⟩
   have hmain:mainW cF2 (w0H d K0) m=bif fitsP (w0H d K0) m then setPm (w0H d K0) (flushedP d.pump m).1 else w0H d K0:=by
    unfold mainW;rw[decide_eq_false (show ¬ m.kind=5 by omega),decide_eq_true hk];rfl
   cases hf:fitsP (w0H d K0) m with
   | false=>exact fin h0 (by rw[hmain,hf];rfl) hmo
   | true=>exact fin (flushed_ok m hw) (by rw[hmain,hf];rfl) hmo
 refine⟨⟨fun h=>(took h).1,fun h=>(rest h).1⟩,?_⟩
 unfold handF
 by_cases ht:TookBy (d,K0,m)
 ·rw[if_pos ht];exact(took ht).2
 ·rw[if_neg ht];exact(rest ht).2
end Go.Hd
end
noncomputable section
open Go Go.AM Go.Md
namespace Go.Hd
open Go.Wk
set_option maxRecDepth 100000
set_option maxHeartbeats 400000
theorem hmB_in(N:Nat)(nd:Int)(bt:Int)(n:Nat)(f:Nat->List AV):callC 0 (eHm knHm) (N+1) F_twin_Home [AV.agg [AV.int IntKind.i64 nd,AV.int IntKind.i64 bt,AV.tr 23 n f]] [] =
 gC (dTr) (pTr) (eTr 23) ([AV.tr 23 n f]) fun y0=>LP (eHm knHm) N 0 F_twin_Home (cnK 0 0) 0 [] N (SHm nd bt y0.1 y0.2 0):=by kernel_rfl
theorem hmB_st(N:Nat)(m:Nat)(nd:Int)(bt:Int)(n:Nat)(G:Nat->Desk)(i:Int):LP (eHm knHm) N 0 F_twin_Home (cnK 0 0) 0 [] (m+1) (SHm nd bt n (fun i=>encDesk (G i)) i) =
 bif decide (i<(n:Int))then rg i n (bif i.toNat.blt n then
    gC (fun a=>decDesk (argC a 0)) (DkOk) (fun d=>[AV.agg (encDesk d)]) ([AV.agg (encDesk (G i.toNat))]) fun y1=>rg i n (bif i.toNat.blt n&&true then
      LP (eHm knHm) N 0 F_twin_Home (cnK 0 0) 0 [] m (SHm nd bt n (fun i'=>bif i'.beq i.toNat then encDesk y1 else encDesk (G i')) (IntKind.i64.wrap (i+1)))else none)
   else none)
 else some (.agg [.int .i64 nd,.int .i64 bt,.sn 23 0 n],[.seq true 23 n fun i=>encDesk (G i)]):=by kernel_rfl
def oHmB(h:Md.Home):AV × Heap:=(.agg [.int .i64 h.self.node,.int .i64 h.self.boot,.sn 23 0 h.desks.length],[sqL 23 encDesk default h.desks])
theorem homeB_con(h:Md.Home)(hh:HmOk h):Contract PG F_twin_Home [.agg (encHome h)] [] (oHmB h).1 (oHmB h).2:=by
 obtain⟨N,hN⟩:∃ N,N=200000:=⟨_,rfl⟩
 obtain⟨h1,h2⟩:=hh
 have run:∀ k i m,i+k=h.desks.length->k<m->LP (eHm knHm) N 0 F_twin_Home (cnK 0 0) 0 [] m (SHm h.self.node h.self.boot h.desks.length (fun i=>encDesk (h.desks.getD i default)) (i:Nat))=some (oHmB h):=by
  intro k
  induction k with
  | zero=>
   intro i m hi hm
   obtain⟨m,rfl⟩:∃ k,m=k+1:=⟨m - 1,by omega⟩
   rw[hmB_st N m h.self.node h.self.boot h.desks.length (fun i=>h.desks.getD i default) i,decide_eq_false (by omega),cond_false];rfl
  | succ k ih=>
   intro i m hi hm
   obtain⟨m,rfl⟩:∃ k,m=k+1:=⟨m - 1,by omega⟩
   have hil:i<h.desks.length:=by omega
   have hc:=h2 _ (getD_mem (z:=(default:Md.Desk)) hil)
   have e:=ih (i+1) m (by omega) (by omega)
   have hw:IntKind.i64.wrap ((i:Int)+1)=((i+1:Nat):Int):=wrapS (by omega)
   have hs:=set_same encDesk default h.desks i
   rw[hmB_st N m h.self.node h.self.boot h.desks.length (fun i=>h.desks.getD i default) i,decide_eq_true (show((i:Nat):Int)<(h.desks.length:Int) by omega),cond_true,rg_eq hil,Int.toNat_natCast,blt_true hil,cond_true,qDesk hc,rg_eq hil,Bool.and_true,cond_true,hw]
   rw[hs]
   exact e
 refine conB (n:=N+1) (ak (kCloB_ok cloN_Desk) (ak kDeskT_ok ank)) ((hmB_in N h.self.node h.self.boot h.desks.length (fun i=>encDesk (h.desks.getD i default))).trans ?_)
 refine(qTr (sz:=23) h1).trans ?_
 exact run h.desks.length 0 N (by omega) (by omega)
def kHomeB:Known:=.specB F_twin_Home (fun a=>decHome (argC a 0)) HmOk (fun h=>[.agg (encHome h)]) oHmB
theorem kHomeB_ok:kHomeB.Ok PG:=Known.specB_ok homeB_con
def eNh(l:List Known):Env:=envN [] [(F_node_Handle,0),(F_twin_Home,5),(F_head_Handle,0)] [] l
def knNh:List Known:=[kHomeB,kHeadHandle]
def finN(h:Md.Home):Option AV:=bif h.desks.length.ble h.desks.length&&true&&true then some (.tup [.agg (encHome h),.nils])else none
theorem nh_eq(h:Md.Home)(c:Conf)(m:Msg):callT (eNh knNh) 9 F_node_Handle [.agg (encHome h),.agg (encConf c),.agg (encMsg m)] =
 gC (fun a=>decHome (argC a 0)) HmOk (fun h=>[.agg (encHome h)]) [.agg (encHome h)] fun y=>
 bif decide (m.shard<0)then finN y else bif decide ((y.desks.length:Int)<=m.shard)then finN y else
 rg m.shard y.desks.length (bif m.shard.toNat.blt y.desks.length then
  gC dDCM HandleOk eDCM [.agg (encDesk (y.desks.getD m.shard.toNat default)),.agg (encConf c),.agg (encMsg m)] fun p=>
   bif m.shard.toNat.blt y.desks.length&&true then bif y.desks.length.ble y.desks.length&&true&&true then
    some (.tup [.agg [.int .i64 y.self.node,.int .i64 y.self.boot,.tr 23 y.desks.length fun i'=>bif Nat.beq i' m.shard.toNat then encDesk (handF p).d else encDesk (y.desks.getD i' default)],encMsgs (handF p).out])else none else none
  else none):=by kernel_rfl
theorem set_row{X:Type}(e:X->List AV)(z:X)(l:List X)(k:Nat)(x:X)(hk:k<l.length):(fun i=>bif Nat.beq i k then e x else e (l.getD i z))=fun i=>e ((l.set k x).getD i z):=by
 funext i
 by_cases hi:i=k
 ·subst hi
  rw[AM.beq_true rfl,cond_true]
  simp[List.getD,hk]
 ·rw[AM.beq_false hi,cond_false]
  simp[List.getD,List.getElem?_set,show ¬ k=i from fun e=>hi e.symm]
abbrev HCM:=Md.Home × Conf × Msg
def handN(p:HCM):Md.Home × List Msg:=
 if 0<=p.2.2.shard/\p.2.2.shard<(p.1.desks.length:Int)then({p.1 with desks:=p.1.desks.set p.2.2.shard.toNat (handF (p.1.desks.getD p.2.2.shard.toNat default,p.2.1,p.2.2)).d},(handF (p.1.desks.getD p.2.2.shard.toNat default,p.2.1,p.2.2)).out)else(p.1,[])
structure NhOk(p:HCM):Prop where
 hm:HmOk p.1
 hd:0<=p.2.2.shard->p.2.2.shard<(p.1.desks.length:Int)->HandleOk (p.1.desks.getD p.2.2.shard.toNat default,p.2.1,p.2.2)
def eHCM(p:HCM):List AV:=[.agg (encHome p.1),.agg (encConf p.2.1),.agg (encMsg p.2.2)]
def dHCM(a:List AV):HCM:=(decHome (argC a 0),decConf (argC a 1),decMsg (argC a 2))
theorem dHCM_eq(p:HCM):dHCM (eHCM p)=p:=Prod.ext (dec_encHome p.1) (Prod.ext (dec_encConf p.2.1) (dec_encMsg p.2.2))
def oHM(o:Md.Home × List Msg):AV:=.tup [.agg (encHome o.1),encMsgs o.2]
theorem nh_run(p:HCM)(hh:NhOk p):∃ v,callT (eNh knNh) 9 F_node_Handle (eHCM p)=some v/\SubV v (oHM (handN p)):=by
 obtain⟨h,c,m⟩:=p
 obtain⟨h1,h2⟩:=hh
 have e:=nh_eq h c m
 have q1:∀ {K:Md.Home->Option AV},gC (fun a=>decHome (argC a 0)) HmOk (fun h=>[.agg (encHome h)]) [.agg (encHome h)] K=K h:=fun {K}=>gC_eq h (dec_encHome h) h1 (.refl _)
 rw[q1]at e
 have hfin:finN h=some (.tup [.agg (encHome h),.nils]):=by unfold finN;rw[ble_le (Nat.le_refl _)];rfl
 have hsub:SubV (.tup [.agg (encHome h),.nils]) (oHM (h,[])):=.tup (.cons (.refl _) (.cons nilsL .nil))
 unfold handN
 dsimp only at h2 ⊢
 by_cases a1:m.shard<0
 ·rw[decide_eq_true a1,cond_true,hfin]at e
  rw[if_neg (by omega)]
  exact⟨_,e,hsub⟩
 ·rw[decide_eq_false a1,cond_false]at e
  by_cases a2:(h.desks.length:Int)<=m.shard
  ·rw[decide_eq_true a2,cond_true,hfin]at e
   rw[if_neg (by omega)]
   exact⟨_,e,hsub⟩
  ·obtain⟨k,hk⟩:∃ k:Nat,m.shard=(k:Int):=⟨m.shard.toNat,by omega⟩
   have hkl:k<h.desks.length:=by omega
   rw[decide_eq_false a2,cond_false,hk,rg_eq hkl,Int.toNat_natCast,blt_true hkl,cond_true]at e
   have hok:=h2 (by omega) (by omega)
   rw[hk,Int.toNat_natCast]at hok
   have q2:∀ {K:DCM->Option AV},gC dDCM HandleOk eDCM [.agg (encDesk (h.desks.getD k default)),.agg (encConf c),.agg (encMsg m)] K=K (h.desks.getD k default,c,m):=fun {K}=>gC_eq (h.desks.getD k default,c,m) (dDCM_eq (h.desks.getD k default,c,m)) hok (.refl _)
   rw[q2]at e
   simp only[Bool.and_true,cond_true,ble_le (Nat.le_refl _)]at e
   rw[set_row encDesk default h.desks k _ hkl]at e
   rw[if_pos (by omega),hk,Int.toNat_natCast]
   refine⟨_,e,?_⟩
   have hl:∀ x:Md.Desk,(h.desks.set k x).length=h.desks.length:=fun x=>by simp
   show SubV _ (.tup [.agg [.int .i64 h.self.node,.int .i64 h.self.boot,.tr 23 (h.desks.set k _).length _],encMsgs _])
   rw[hl]
   exact .refl _
theorem nh_con(p:HCM)(h:NhOk p):Contract PG F_node_Handle (eHCM p) [] (oHM (handN p)) []:=by
 obtain⟨v,e,hs⟩:=nh_run p h
 exact(conN (ak kHomeB_ok (ak kHeadHandle_ok ank)) e).res hs
def kNodeHandle:Known:=.spec F_node_Handle dHCM NhOk eHCM (fun p=>oHM (handN p))
theorem kNodeHandle_ok:kNodeHandle.Ok PG:=Known.spec_ok nh_con
def eNn(l:List Known):Env:=envN [] [(F_node_New,0),(F_head_New,0)] [] l
def home0:Md.Home:=⟨⟨2,1⟩,[newD (0,⟨2,1⟩),newD (1,⟨2,1⟩)]⟩
theorem nn_eq:callT (eNn [kHNew]) 9 F_node_New [.agg (encMember ⟨2,1⟩),.agg (encConf K0)] =
 gC (fun a=>(getI a 0,decMember (argC a 1))) (fun _=>True) eNw [.int .i64 0,.agg (encMember ⟨2,1⟩)] fun y=>gC (fun a=>(getI a 0,decMember (argC a 1))) (fun _=>True) eNw [.int .i64 1,.agg (encMember ⟨2,1⟩)] fun z=>
 some (.agg [.int .i64 2,.int .i64 1,.trl 23 [encDesk (newD y),encDesk (newD z)]]):=by kernel_rfl
theorem nn_con:Contract PG F_node_New [.agg (encMember ⟨2,1⟩),.agg (encConf K0)] [] (.agg (encHome home0)) []:=by
 have e:=nn_eq
 have q:∀ (i:Int) {K:Int × Member->Option AV},gC (fun a=>(getI a 0,decMember (argC a 1))) (fun _=>True) eNw [.int .i64 i,.agg (encMember ⟨2,1⟩)] K=K (i,(⟨2,1⟩:Member)):=fun i {K}=>gC_eq ((i,⟨2,1⟩):Int × Member) rfl trivial (.refl _)
 rw[q,q]at e
 refine(conN (ak kHNew_ok ank) e).res (.agg (.cons (.refl _) (.cons (.refl _) (.cons ?_ .nil))))
 exact SubV.trl_of (e:=encDesk) [newD (0,⟨2,1⟩),newD (1,⟨2,1⟩)] rfl
def kNodeNew:Known:=.one F_node_New [.agg (encMember ⟨2,1⟩),.agg (encConf K0)] (.agg (encHome home0))
theorem kNodeNew_ok:kNodeNew.Ok PG:=Known.one_ok nn_con
def homeP(a b:Md.Desk):Md.Home:=⟨⟨2,1⟩,[a,b]⟩
def dirtP(a b:Md.Desk):Int:=IntKind.i64.wrap (IntKind.i64.wrap (0+(a.rep.tail.log.length:Int))+(b.rep.tail.log.length:Int))
def eNd(l:List Known):Env:=envN [] [(F_node_Dirty,0),(F_lockgateref23_Dirty,0)] [] l
theorem di_eq(a b:Md.Desk):callT (eNd []) 9 F_node_Dirty [.agg (encHome (homeP a b))]=some (.int .i64 (dirtP a b)):=by kernel_rfl
theorem rdi_eq(a b:Md.Desk):callT (eNd []) 9 F_lockgateref23_Dirty [.agg (encHome (homeP a b))]=some (.int .i64 (dirtP a b)):=by kernel_rfl
def eNt(l:List Known):Env:=envN [] [(F_node_Tick,0),(F_head_Tick,0),(F_lockgateref23_Beat,0),(F_lockgateref18_Live,0),(F_view_Live,0)] [] l
theorem vl_eq(r:Rep):callT (eNt []) 9 F_view_Live [.agg (encRep r)]=bif !decide (r.view.phase=0)then some (.bool (decide (r.frozen<=r.view.epoch)))else some (.bool false):=by kernel_rfl
theorem vl_con(r:Rep)(_:pRep1 r):Contract PG F_view_Live [.agg (encRep r)] [] (.bool (liveP r)) []:=by
 refine conN (fun k hk=>by cases hk) ((vl_eq r).trans ?_)
 unfold liveP
 cases decide (r.view.phase=0) <;> rfl
def kVLive:Known:=.spec F_view_Live dRep1 pRep1 eRep1 (fun r=>.bool (liveP r))
theorem kVLive_ok:kVLive.Ok PG:=Known.spec_ok vl_con
def btC(v:AV):List AV:=[.int .i64 7,.int .i64 2,.int .i64 1,.int .i64 0,.int .i64 1,.int .i64 0,.int .i64 0,.int .i64 0,.int .i64 0,.int .i64 0,.int .i64 0,.int .i64 0,.bool false,.bool false,.str [],.str [],.cplx .f64 0 0,.cplx .f64 0 0,.int .i64 0,.str [],.str [],.str [],.bool false,.nils,.nils,v,.cplx .f64 0 0,.cplx .f64 0 0,.int .i64 0,.nils,.nils]
def vwC(s:Int)(r:Rep):List AV:=[.int .i64 s,.int .i64 r.view.epoch,.int .i64 0,.int .i64 r.view.phase,.nils]
def gLv{R:Type}(r:Rep)(K:Rep->Option R):Option R:=gC dRep1 pRep1 eRep1 [.agg (encRep r)] K
theorem bt_eq(a b:Md.Desk):callT (eNt [kRLive]) 9 F_lockgateref23_Beat [.agg (encHome (homeP a b))] =
 gLv a.rep fun x=>bif liveP x then gLv b.rep fun y=>bif liveP y then some (.agg (btC (.trl 5 [vwC 0 a.rep,vwC 1 b.rep])))else some (.agg (btC (.trl 5 [vwC 0 a.rep])))
  else gLv b.rep fun y=>bif liveP y then some (.agg (btC (.trl 5 [vwC 1 b.rep])))else some (.agg (btC .nils)):=by kernel_rfl
def beatV(s:Int)(r:Rep):List Md.View:=bif liveP r then [⟨s,r.view.epoch,0,r.view.phase,[]⟩]else []
def beatM(a b:Md.Desk):Msg:=⟨7,2,1,0,1,0,0,0,0,0,0,0,false,false,[],[],⟨0,0⟩,⟨0,0⟩,⟨0,[],[],[],false⟩,[],[],beatV 0 a.rep++beatV 1 b.rep,⟨⟨0,0⟩,⟨0,0⟩,0,[],[]⟩⟩
theorem vw_sub(s:Int)(r:Rep):SubC (vwC s r) (encView ⟨s,r.view.epoch,0,r.view.phase,[]⟩):=subC_all (by repeat' (first | exact trivial | exact nilsL | exact SubV.refl _ | refine⟨?_,?_⟩))
theorem btC_sub{v:AV}{a b:Md.Desk}(h:SubV v (encViews (beatV 0 a.rep++beatV 1 b.rep))):SubC (btC v) (encMsg (beatM a b)):=subC_all (by repeat' (first | exact trivial | exact h | exact nilsL | exact SubV.refl _ | refine⟨?_,?_⟩))
theorem vws_sub{a b:Md.Desk}:(liveP a.rep=true->liveP b.rep=true->SubV (.trl 5 [vwC 0 a.rep,vwC 1 b.rep]) (encViews (beatV 0 a.rep++beatV 1 b.rep)))/\(liveP a.rep=true->liveP b.rep=false->SubV (.trl 5 [vwC 0 a.rep]) (encViews (beatV 0 a.rep++beatV 1 b.rep)))
  /\ (liveP a.rep=false->liveP b.rep=true->SubV (.trl 5 [vwC 1 b.rep]) (encViews (beatV 0 a.rep++beatV 1 b.rep)))/\(liveP a.rep=false->liveP b.rep=false->SubV .nils (encViews (beatV 0 a.rep++beatV 1 b.rep))):=by
 refine⟨fun h1 h2=>?_,fun h1 h2=>?_,fun h1 h2=>?_,fun h1 h2=>?_⟩
 all_goals
  unfold beatV
  rw[h1,h2]
 ·refine SubV.trans ?_ (SubV.trl_of (e:=encView) [⟨0,a.rep.view.epoch,0,a.rep.view.phase,[]⟩,⟨1,b.rep.view.epoch,0,b.rep.view.phase,[]⟩] rfl)
  exact trl_map (f:=fun p:Int × Rep=>vwC p.1 p.2) (g:=fun p=>encView ⟨p.1,p.2.view.epoch,0,p.2.view.phase,[]⟩) (fun p=>vw_sub p.1 p.2) [(0,a.rep),(1,b.rep)]
 ·refine SubV.trans ?_ (SubV.trl_of (e:=encView) [⟨0,a.rep.view.epoch,0,a.rep.view.phase,[]⟩] rfl)
  exact trl_map (f:=fun p:Int × Rep=>vwC p.1 p.2) (g:=fun p=>encView ⟨p.1,p.2.view.epoch,0,p.2.view.phase,[]⟩) (fun p=>vw_sub p.1 p.2) [(0,a.rep)]
 ·refine SubV.trans ?_ (SubV.trl_of (e:=encView) [⟨1,b.rep.view.epoch,0,b.rep.view.phase,[]⟩] rfl)
  exact trl_map (f:=fun p:Int × Rep=>vwC p.1 p.2) (g:=fun p=>encView ⟨p.1,p.2.view.epoch,0,p.2.view.phase,[]⟩) (fun p=>vw_sub p.1 p.2) [(1,b.rep)]
 ·exact nilsL
theorem qLv{R:Type}{r:Rep}{K:Rep->Option R}:gLv r K=K r:=gC_eq r (dec_encRep r) trivial (.refl _)
theorem beat_con(a b:Md.Desk):Contract PG F_lockgateref23_Beat [.agg (encHome (homeP a b))] [] (.agg (encMsg (beatM a b))) []:=by
 have e:=bt_eq a b
 have t:=vws_sub (a:=a) (b:=b)
 rw[qLv,qLv,qLv]at e
 have c:∀ {v:AV},callT (eNt [kRLive]) 9 F_lockgateref23_Beat [.agg (encHome (homeP a b))]=some (.agg (btC v))->SubV v (encViews (beatV 0 a.rep++beatV 1 b.rep))->Contract PG F_lockgateref23_Beat [.agg (encHome (homeP a b))] [] (.agg (encMsg (beatM a b))) []:=fun {v} h hs=>
  (conN (ak kRLive_ok ank) h).res (.agg (btC_sub hs))
 cases h1:liveP a.rep with
 | true=>
  cases h2:liveP b.rep with
  | true=>rw[h1,h2]at e;exact c e (t.1 h1 h2)
  | false=>rw[h1,h2]at e;exact c e (t.2.1 h1 h2)
 | false=>
  cases h2:liveP b.rep with
  | true=>rw[h1,h2]at e;exact c e (t.2.2.1 h1 h2)
  | false=>rw[h1,h2]at e;exact c e (t.2.2.2 h1 h2)
def kTick0:Known:=.spec F_head_Tick (fun a=>decDesk (argC a 0)) (fun d=>TkOk d/\tickP d=[]) (fun d=>[.agg (encDesk d)]) (fun _=>.tr 31 0 fun _=>[])
theorem kTick0_ok:kTick0.Ok PG:=Known.spec_ok fun d h=>by
 have c:=tick_con d h.1
 rw[h.2]at c
 exact c.res (.trs fun i hi=>absurd hi (Nat.not_lt_zero i))
def gTk0(d:Md.Desk)(K:Option AV):Option AV:=gC (fun a=>decDesk (argC a 0)) (fun d=>TkOk d/\tickP d=[]) (fun d=>[.agg (encDesk d)]) [.agg (encDesk d)] fun _=>K
theorem tk0_eq(a b:Md.Desk):callT (eNt [kTick0,kVLive]) 9 F_node_Tick [.agg (encHome (homeP a b))] =
 gLv a.rep fun x=>bif liveP x then gLv b.rep fun y=>bif liveP y then gTk0 a (gTk0 b (some (.trl 31 [btC (.trl 5 [vwC a.rep.shard a.rep,vwC b.rep.shard b.rep])])))else gTk0 a (gTk0 b (some (.trl 31 [btC (.trl 5 [vwC a.rep.shard a.rep])])))
  else gLv b.rep fun y=>bif liveP y then gTk0 a (gTk0 b (some (.trl 31 [btC (.trl 5 [vwC b.rep.shard b.rep])])))else gTk0 a (gTk0 b (some (.trl 31 [btC .nils]))):=by kernel_rfl
theorem qTk0{d:Md.Desk}(h:TkOk d/\tickP d=[]){K:Option AV}:gTk0 d K=K:=gC_eq d (dec_encDesk d) h (.refl _)
theorem tick0_con(a b:Md.Desk)(ha:TkOk a/\tickP a=[])(hb:TkOk b/\tickP b=[])(h1:a.rep.shard=0)(h2:b.rep.shard=1):Contract PG F_node_Tick [.agg (encHome (homeP a b))] [] (encMsgs [beatM a b]) []:=by
 have e:=tk0_eq a b
 have t:=vws_sub (a:=a) (b:=b)
 rw[qLv,qLv,qLv,qTk0 ha,qTk0 ha,qTk0 ha,qTk0 ha,qTk0 hb,qTk0 hb,qTk0 hb,qTk0 hb,h1,h2]at e
 have c:∀ {v:AV},callT (eNt [kTick0,kVLive]) 9 F_node_Tick [.agg (encHome (homeP a b))]=some (.trl 31 [btC v])->SubV v (encViews (beatV 0 a.rep++beatV 1 b.rep))->Contract PG F_node_Tick [.agg (encHome (homeP a b))] [] (encMsgs [beatM a b]) []:=fun {v} h hs=>
  (conN (ak kTick0_ok (ak kVLive_ok ank)) h).res ((trl_map (X:=Unit) (f:=fun _=>btC v) (g:=fun _=>encMsg (beatM a b)) (fun _=>btC_sub hs) [()]).trans (SubV.trl_of [beatM a b] rfl))
 cases h1:liveP a.rep with
 | true=>
  cases h2:liveP b.rep with
  | true=>rw[h1,h2]at e;exact c e (t.1 h1 h2)
  | false=>rw[h1,h2]at e;exact c e (t.2.1 h1 h2)
 | false=>
  cases h2:liveP b.rep with
  | true=>rw[h1,h2]at e;exact c e (t.2.2.1 h1 h2)
  | false=>rw[h1,h2]at e;exact c e (t.2.2.2 h1 h2)
def eMs(l:List Known):Env:=envN [] [(F_lockgateref23_Msg,0)] [] l
structure NStp where
 k:Int
 sh:Int
 n:Int
 o:Md.Op
deriving Inhabited
def encNStp(s:NStp):List AV:=[.int .u8 s.k,.int .u8 s.sh,.int .u8 s.n]++encOp s.o
def decNStp(cs:List AV):NStp:=⟨getI cs 0,getI cs 1,getI cs 2,decOp (cs.drop 3)⟩
def msC(kd src bt sh ep ss nm:Int)(fr:Bool)(o:Md.Op)(ch:AV):List AV:=[.int .i64 kd,.int .i64 src,.int .i64 2,.int .i64 bt,.int .i64 0,.int .i64 sh,.int .i64 ep,.int .i64 0,.int .i64 ss,.int .i64 nm,.int .i64 0,.int .i64 0,.bool false,.bool fr,.str [],.str [],.cplx .f64 0 0,.cplx .f64 0 0]++encOp o++[.nils,ch,.nils,.cplx .f64 0 0,.cplx .f64 0 0,.int .i64 0,.nils,.nils]
def op0:Md.Op:=⟨0,[],[],[],false⟩
def shS(s:NStp):Int:=IntKind.i64.wrap (s.sh.tmod 3)
def epS(s:NStp):Int:=IntKind.i64.wrap (s.n.tmod 5)
def ms3(s:NStp)(kd src bt ep ss nm:Int)(fr:Bool)(o:Md.Op)(ch:AV):Option AV:=bif decide (s.k.tmod 6=5)then some (.agg (msC 16 src bt (shS s) ep ss (IntKind.i64.wrap (IntKind.u8.wrap (s.n.tdiv 5))) fr o ch))else some (.agg (msC kd src bt (shS s) ep ss nm fr o ch))
def ms2(s:NStp)(kd:Int)(fr:Bool)(ch:AV):Option AV:=bif decide (2<=s.k.tmod 6)then bif decide (s.k.tmod 6<=4)then ms3 s 5 101 0 0 1 (IntKind.i64.wrap (s.n.tmod 16)) false s.o .nils else ms3 s kd 1 1 (epS s) 0 0 fr op0 ch else ms3 s kd 1 1 (epS s) 0 0 fr op0 ch
def ms1(s:NStp)(kd:Int)(fr:Bool)(ch:AV):Option AV:=bif decide (s.k.tmod 6=1)then ms2 s 8 fr ch else ms2 s kd fr ch
theorem rms_eq(s:NStp):callT (eMs []) 9 F_lockgateref23_Msg [.agg (encNStp s)]=bif decide (s.k.tmod 6=0)then ms1 s 10 true (.trl 2 [[.int .i64 2,.int .i64 1]])else ms1 s 0 false .nils:=by kernel_rfl
def msM(kd src bt sh ep ss nm:Int)(fr:Bool)(o:Md.Op)(ch:List Member):Msg:=⟨kd,src,2,bt,0,sh,ep,0,ss,nm,0,0,false,fr,[],[],⟨0,0⟩,⟨0,0⟩,o,[],ch,[],⟨⟨0,0⟩,⟨0,0⟩,0,[],[]⟩⟩
def msgP(s:NStp):Msg:=
 if s.k.tmod 6=0 then msM 10 1 1 (shS s) (epS s) 0 0 true op0 [⟨2,1⟩]else if s.k.tmod 6=1 then msM 8 1 1 (shS s) (epS s) 0 0 false op0 []
 else if s.k.tmod 6=5 then msM 16 1 1 (shS s) (epS s) 0 (IntKind.i64.wrap (IntKind.u8.wrap (s.n.tdiv 5))) false op0 []else msM 5 101 0 (shS s) 0 1 (IntKind.i64.wrap (s.n.tmod 16)) false s.o []
theorem msC_sub{kd src bt sh ep ss nm:Int}{fr:Bool}{o:Md.Op}{ch:AV}{l:List Member}(h:SubV ch (encMembers l)):SubC (msC kd src bt sh ep ss nm fr o ch) (encMsg (msM kd src bt sh ep ss nm fr o l)):=subC_all (by repeat' (first | exact trivial | exact h | exact nilsL | exact SubV.refl _ | refine⟨?_,?_⟩))
structure NsOk(s:NStp):Prop where
 k:0<=s.k/\s.k<=255
 sh:0<=s.sh/\s.sh<=255
 n:0<=s.n/\s.n<=255
theorem rmsg_con(s:NStp)(h:NsOk s):Contract PG F_lockgateref23_Msg [.agg (encNStp s)] [] (.agg (encMsg (msgP s))) []:=by
 have e:=rms_eq s
 have hk:=h.k
 have hmod:0<=s.k.tmod 6/\s.k.tmod 6<6:=⟨Int.tmod_nonneg 6 hk.1,Int.tmod_lt_of_pos s.k (by decide)⟩
 have c:∀ {cs:List AV},callT (eMs []) 9 F_lockgateref23_Msg [.agg (encNStp s)]=some (.agg cs)->SubC cs (encMsg (msgP s))->Contract PG F_lockgateref23_Msg [.agg (encNStp s)] [] (.agg (encMsg (msgP s))) []:=fun {cs} h hs=>
  (conN (fun k hk=>by cases hk) h).res (.agg hs)
 unfold ms1 ms2 ms3 at e
 unfold msgP at c ⊢
 by_cases h0:s.k.tmod 6=0
 ·rw[decide_eq_true h0,decide_eq_false (show ¬ s.k.tmod 6=1 by omega),decide_eq_false (show ¬ 2<=s.k.tmod 6 by omega),decide_eq_false (show ¬ s.k.tmod 6=5 by omega)]at e
  rw[if_pos h0]at c ⊢
  exact c e (msC_sub (SubV.trl_of (e:=encMember) [⟨2,1⟩] rfl))
 ·rw[decide_eq_false h0]at e
  rw[if_neg h0]at c ⊢
  by_cases h1:s.k.tmod 6=1
  ·rw[decide_eq_true h1,decide_eq_false (show ¬ 2<=s.k.tmod 6 by omega),decide_eq_false (show ¬ s.k.tmod 6=5 by omega)]at e
   rw[if_pos h1]at c ⊢
   exact c e (msC_sub nilsL)
  ·rw[decide_eq_false h1,decide_eq_true (show 2<=s.k.tmod 6 by omega)]at e
   rw[if_neg h1]at c ⊢
   by_cases h5:s.k.tmod 6=5
   ·rw[decide_eq_true h5,decide_eq_false (show ¬ s.k.tmod 6<=4 by omega)]at e
    rw[if_pos h5]at c ⊢
    exact c e (msC_sub nilsL)
   ·rw[decide_eq_false h5,decide_eq_true (show s.k.tmod 6<=4 by omega)]at e
    rw[if_neg h5]at c ⊢
    exact c e (msC_sub nilsL)
def kRMsg:Known:=.spec F_lockgateref23_Msg (fun a=>decNStp (argC a 0)) NsOk (fun s=>[.agg (encNStp s)]) (fun s=>.agg (encMsg (msgP s)))
theorem kRMsg_ok:kRMsg.Ok PG:=Known.spec_ok rmsg_con
end Go.Hd
end
noncomputable section
open Go Go.AM Go.Md
namespace Go.Hd
open Go.Wk
set_option maxRecDepth 100000
variable {s:Int}
theorem i64u{n:Int}(h0:0<=n)(h1:n<=1000):I64 n:=i64s (by omega) h1
theorem wr64{n:Int}(h0:0<=n)(h1:n<=1000):IntKind.i64.wrap n=n:=by rw[IntKind.wrap_i64];omega
theorem i640:I64 0:=i64s (by decide) (by decide)
theorem msM_ok{kd src bt sh ep ss nm:Int}{fr:Bool}{o:Md.Op}{l:List Member}(h:∀ n ∈ [kd,src,bt,sh,ep,ss,nm],0<=n/\n<=1000)(ho:OpOk' o)(hl:MemsOk l):MsgOk (msM kd src bt sh ep ss nm fr o l):=by
 have z:VInt ⟨0,0⟩:=vi0
 simp only[List.mem_cons,List.not_mem_nil,or_false,forall_eq_or_imp,forall_eq]at h
 obtain⟨a1,a2,a3,a4,a5,a6,a7⟩:=h
 refine⟨fun n hn=>?_,Nat.zero_le _,Nat.zero_le _,z,z,ho,ent_nil,hl,⟨Nat.zero_le _,fun x hx=>by cases hx⟩,⟨z,z,i640,ent_nil,⟨Nat.zero_le _,fun x hx=>by cases hx⟩⟩⟩
 have e:msgN (msM kd src bt sh ep ss nm fr o l)=[kd,src,2,bt,0,sh,ep,0,ss,nm,0,0]:=rfl
 rw[e]at hn
 simp only[List.mem_cons,List.not_mem_nil,or_false]at hn
 rcases hn with rfl | rfl | rfl | rfl | rfl | rfl | rfl | rfl | rfl | rfl | rfl | rfl <;> first | exact i64u (by omega) (by omega)
theorem mems0:MemsOk []:=⟨Nat.zero_le _,fun x hx=>by cases hx⟩
theorem mems1:MemsOk [⟨2,1⟩]:=⟨by simp,fun x hx=>by rw[List.mem_singleton.1 hx];exact⟨i64s (by decide) (by decide),i64s (by decide) (by decide)⟩⟩
theorem op0_ok:OpOk' op0:=⟨i64s (by decide) (by decide),Nat.zero_le _,Nat.zero_le _,Nat.zero_le _⟩
theorem tm{n m:Int}(h0:0<=n)(hm:0<m):0<=n.tmod m/\n.tmod m<m:=⟨Int.tmod_nonneg m h0,Int.tmod_lt_of_pos n hm⟩
theorem shS_is{s:NStp}(h:NsOk s):0<=shS s/\shS s<=2:=by
 have:=tm (m:=3) h.sh.1 (by decide)
 unfold shS
 rw[wr64 (by omega) (by omega)];omega
theorem epS_is{s:NStp}(h:NsOk s):0<=epS s/\epS s<=4:=by
 have:=tm (m:=5) h.n.1 (by decide)
 unfold epS
 rw[wr64 (by omega) (by omega)];omega
theorem num_is{s:NStp}(h:NsOk s):0<=IntKind.i64.wrap (s.n.tmod 16)/\IntKind.i64.wrap (s.n.tmod 16)<=15:=by
 have:=tm (m:=16) h.n.1 (by decide)
 rw[wr64 (by omega) (by omega)];omega
theorem quo_is{s:NStp}(h:NsOk s):0<=IntKind.i64.wrap (IntKind.u8.wrap (s.n.tdiv 5))/\IntKind.i64.wrap (IntKind.u8.wrap (s.n.tdiv 5))<=255:=by
 have h1:0<=IntKind.u8.wrap (s.n.tdiv 5)/\IntKind.u8.wrap (s.n.tdiv 5)<=255:=by
  have e:IntKind.u8.wrap (s.n.tdiv 5)=(s.n.tdiv 5) % 256:=rfl
  rw[e];omega
 rw[wr64 (by omega) (by omega)];exact h1
theorem msgP_sm{s:NStp}(h:NsOk s)(ho:OpOk' s.o):SM (msgP s)/\(msgP s).shard=shS s:=by
 have h1:=shS_is h
 have h2:=epS_is h
 have h3:=num_is h
 have h4:=quo_is h
 have lst:∀ {a b c d e f g:Int},(0<=a/\a<=1000)->(0<=b/\b<=1000)->(0<=c/\c<=1000)->(0<=d/\d<=1000)->(0<=e/\e<=1000)->(0<=f/\f<=1000)->(0<=g/\g<=1000) -> ∀ n ∈ [a,b,c,d,e,f,g],0<=n/\n<=1000:=fun h1 h2 h3 h4 h5 h6 h7 n hn=>by
  simp only[List.mem_cons,List.not_mem_nil,or_false]at hn
  rcases hn with rfl | rfl | rfl | rfl | rfl | rfl | rfl <;> assumption
 unfold msgP
 by_cases c0:s.k.tmod 6=0
 ·rw[if_pos c0]
  exact⟨⟨msM_ok (lst (by omega) (by omega) (by omega) (by omega) (by omega) (by omega) (by omega)) op0_ok mems1,.inr (.inr (.inl ⟨rfl,rfl,h2.1,h2.2,rfl,rfl⟩))⟩,rfl⟩
 rw[if_neg c0]
 by_cases c1:s.k.tmod 6=1
 ·rw[if_pos c1]
  exact⟨⟨msM_ok (lst (by omega) (by omega) (by omega) (by omega) (by omega) (by omega) (by omega)) op0_ok mems0,.inr (.inl rfl)⟩,rfl⟩
 rw[if_neg c1]
 by_cases c5:s.k.tmod 6=5
 ·rw[if_pos c5]
  exact⟨⟨msM_ok (lst (by omega) (by omega) (by omega) (by omega) (by omega) (by omega) (by omega)) op0_ok mems0,.inr (.inr (.inr ⟨rfl,rfl⟩))⟩,rfl⟩
 rw[if_neg c5]
 have hm:MsgOk (msM 5 101 0 (shS s) 0 1 (IntKind.i64.wrap (s.n.tmod 16)) false s.o []):=msM_ok (lst (by omega) (by omega) (by omega) (by omega) (by omega) (by omega) (by omega)) ho mems0
 exact⟨⟨hm,.inl ⟨rfl,⟨⟨Nat.zero_le _,Nat.zero_le _,⟨Nat.zero_le _,fun v hv=>by cases hv⟩,Nat.zero_le _,Nat.zero_le _⟩,rfl,rfl,hm⟩⟩⟩,rfl⟩
theorem newD_di{s:Int}(hs:I64 s):DI s 0 (newD (s,⟨2,1⟩)):=by
 have z:VB 30 ⟨0,0⟩:=VB.zero 30
 have r:RI s (newD (s,⟨2,1⟩)).rep:=⟨rfl,hs,rfl,.inl rfl,.inl rfl,rfl,⟨by show(0:Int)<=0;omega,by show(0:Int)<=4;omega⟩,z,z,z,fun e he=>(by cases he),Nat.zero_le _,⟨Nat.zero_le _,fun a ha=>(by cases ha)⟩,Nat.zero_le _,vle.refl _⟩
 exact⟨r,i640,⟨Nat.zero_le _,fun e he=>(by cases he)⟩,⟨Nat.zero_le _,fun e he=>(by cases he)⟩,⟨Nat.zero_le _,fun e he=>(by cases he)⟩,⟨Nat.zero_le _,fun e he=>(by cases he)⟩,Nat.zero_le _,.nil,fun a ha=>(by cases ha),fun a ha=>(by cases ha),by show(0:Int)<=0;omega,by show(0:Int)<=0;omega⟩
end Go.Hd
end
noncomputable section
open Go Go.AM Go.Md
namespace Go.Hd
open Go.Wk
set_option maxRecDepth 100000
set_option maxHeartbeats 400000
def d0(h:Md.Home):Md.Desk:=h.desks.getD 0 default
def d1(h:Md.Home):Md.Desk:=h.desks.getD 1 default
def Two(h:Md.Home):Prop:=h.self=⟨2,1⟩/\h.desks.length=2
theorem two_is{h:Md.Home}(t:Two h):h=homeP (d0 h) (d1 h):=by
 obtain⟨hs,l⟩:=h
 obtain⟨t1,t2⟩:=t
 dsimp only at t1 t2
 match l,t2 with
 | [a,b],_=>subst t1;rfl
def Quiet(h:Md.Home):Prop:=Two h/\(TkOk (d0 h)/\tickP (d0 h)=[])/\(TkOk (d1 h)/\tickP (d1 h)=[])/\(d0 h).rep.shard=0/\(d1 h).rep.shard=1
def dHm(a:List AV):Md.Home:=decHome (argC a 0)
def eHm1(h:Md.Home):List AV:=[.agg (encHome h)]
def kTick2:Known:=.spec F_node_Tick dHm Quiet eHm1 (fun h=>encMsgs [beatM (d0 h) (d1 h)])
theorem kTick2_ok:kTick2.Ok PG:=Known.spec_ok fun h q=>by
 have c:=tick0_con (d0 h) (d1 h) q.2.1 q.2.2.1 q.2.2.2.1 q.2.2.2.2
 rw[<- two_is q.1]at c
 exact c
def kDirty2:Known:=.spec F_node_Dirty dHm Two eHm1 (fun h=>.int .i64 (dirtP (d0 h) (d1 h)))
theorem kDirty2_ok:kDirty2.Ok PG:=Known.spec_ok fun h t=>by
 have e:=di_eq (d0 h) (d1 h)
 rw[<- two_is t]at e
 exact conN (fun k hk=>by cases hk) e
def kRDirty2:Known:=.spec F_lockgateref23_Dirty dHm Two eHm1 (fun h=>.int .i64 (dirtP (d0 h) (d1 h)))
theorem kRDirty2_ok:kRDirty2.Ok PG:=Known.spec_ok fun h t=>by
 have e:=rdi_eq (d0 h) (d1 h)
 rw[<- two_is t]at e
 exact conN (fun k hk=>by cases hk) e
def eAw(l:List Known):Env:=envN [] [(F_lockgatelaw23_awake,0),(F_node_New,0),(F_node_Tick,0),(F_node_Handle,0),(F_node_Dirty,0),(F_lockgateref23_Msg,0),(F_lockgateref23_Conf,0),(F_lockgatelaw23_self,0)] [] l
def knAw:List Known:=[kNodeNew,kTick2,kDirty2,kRMsg,kNodeHandle]
def s1:NStp:=⟨0,1,1,op0⟩
def vwsH(h:Md.Home):List Md.View:=beatV 0 (d0 h).rep++beatV 1 (d1 h).rep
theorem aw_eq:callT (eAw knAw) 9 F_lockgatelaw23_awake [] =
 gC (fun _=>()) (fun _=>True) (fun _=>[.agg (encMember ⟨2,1⟩),.agg (encConf K0)]) [.agg (encMember ⟨2,1⟩),.agg (encConf K0)] fun _=>
 gC dHm Quiet eHm1 [.agg (encHome home0)] fun h=>bif !decide (((vwsH h).length:Int)=0)then some (.bool false)else
 gC (fun a=>decNStp (argC a 0)) NsOk (fun s=>[.agg (encNStp s)]) [.agg (encNStp s1)] fun s=>
 gC dHCM NhOk eHCM [.agg (encHome home0),.agg (encConf K0),.agg (encMsg (msgP s))] fun p=>
 gC dHm Quiet eHm1 [.agg (encHome (handN p).1)] fun g=>bif decide (((vwsH g).length:Int)=1)then
  rg 0 (vwsH g).length (bif decide (((vwsH g).getD 0 default).shard=1)then rg 0 (vwsH g).length (bif decide (((vwsH g).getD 0 default).phase=3)then
   gC dHm Two eHm1 [.agg (encHome (handN p).1)] fun t=>some (.bool (decide (dirtP (d0 t) (d1 t)=0)))else some (.bool false))else some (.bool false))else some (.bool false):=by kernel_rfl
def dd0:Md.Desk:=newD (0,⟨2,1⟩)
def dd1:Md.Desk:=newD (1,⟨2,1⟩)
def p1:DCM:=(dd1,K0,msgP s1)
theorem m1_kind:(msgP s1).kind=10:=by kernel_rfl
theorem p1_not:¬ TookBy p1:=fun h=>by
 have:=h.kd.symm.trans m1_kind
 exact absurd this (by decide)
theorem p1_out:(handH cF2 p1).d.pump.out=[]:=by kernel_rfl
theorem p1_asks:(handH cF2 p1).d.asks=[]:=by kernel_rfl
theorem p1_log:(handH cF2 p1).d.rep.tail.log=[]:=by kernel_rfl
theorem p1_live:liveP (handH cF2 p1).d.rep=true:=by kernel_rfl
theorem p1_ph:(handH cF2 p1).d.rep.view.phase=3:=by kernel_rfl
theorem hf1:handF p1=handH cF2 p1:=by unfold handF;rw[if_neg p1_not]
theorem s1_ok:NsOk s1:=⟨by decide,by decide,by decide⟩
theorem sm1:SM (msgP s1)/\(msgP s1).shard=shS s1:=msgP_sm s1_ok op0_ok
theorem sh1:(msgP s1).shard=1:=by kernel_rfl
theorem dd0_di:DI 0 0 dd0:=newD_di (i64s (by decide) (by decide))
theorem dd1_di:DI 1 0 dd1:=newD_di (i64s (by decide) (by decide))
theorem h1_ok:HandleOk p1/\Lft 1 0 (handF p1):=handle_ok dd1_di sm1.1 (by omega)
theorem hm0:HmOk home0:=⟨by show 2<=100000;omega,fun d hd=>by
 have:d=dd0\/d=dd1:=by simpa [home0,dd0,dd1] using hd
 rcases this with rfl | rfl
 ·exact dd0_di.dk (by omega)
 ·exact dd1_di.dk (by omega)⟩
theorem nh1:NhOk (home0,K0,msgP s1):=⟨hm0,fun _ _=>by
 have:(msgP s1).shard.toNat=1:=by rw[sh1];rfl
 rw[this];exact h1_ok.1⟩
theorem g1_is:(handN (home0,K0,msgP s1)).1=homeP dd0 (handF p1).d:=by
 unfold handN
 have:(msgP s1).shard.toNat=1:=by rw[sh1];rfl
 rw[if_pos ⟨by show 0<=(msgP s1).shard;rw[sh1];decide,by show(msgP s1).shard<2;rw[sh1];decide⟩,this]
 rfl
theorem quiet_tick{s:Int}{B:Nat}{d:Md.Desk}(h:DI s B d)(hB:B<=8000)(h1:d.pump.out=[])(h2:d.asks=[]):TkOk d/\tickP d=[]:=by
 refine⟨⟨h.rep.ag,by rw[h1];exact Nat.zero_le _,by rw[h2];exact Nat.zero_le _,by rw[h.rep.again];exact Nat.zero_le _⟩,?_⟩
 unfold tickP flushMP
 rw[h.rep.again,h2]
 dsimp only
 rw[h1];rfl
theorem quiet0:Quiet home0:=⟨⟨rfl,rfl⟩,quiet_tick dd0_di (by omega) rfl rfl,quiet_tick dd1_di (by omega) rfl rfl,rfl,rfl⟩
theorem quiet1:Quiet (homeP dd0 (handF p1).d):=⟨⟨rfl,rfl⟩,quiet_tick dd0_di (by omega) rfl rfl,quiet_tick h1_ok.2.1 (by omega) (by show(handF p1).d.pump.out=[];rw[hf1];exact p1_out) (by show(handF p1).d.asks=[];rw[hf1];exact p1_asks),rfl,h1_ok.2.1.rep.shard⟩
theorem vws1:vwsH (homeP dd0 (handF p1).d)=[⟨1,(handF p1).d.rep.view.epoch,0,3,[]⟩]:=by
 have e:vwsH (homeP dd0 (handF p1).d)=beatV 0 dd0.rep++beatV 1 (handF p1).d.rep:=rfl
 have a:beatV 0 dd0.rep=[]:=rfl
 rw[e,a]
 unfold beatV
 rw[hf1,p1_live,p1_ph];rfl
theorem awake_con:Contract PG F_lockgatelaw23_awake [] [] (.bool true) []:=by
 have e:=aw_eq
 have q1:∀ {K:Unit->Option AV},gC (fun _=>()) (fun _=>True) (fun _=>[.agg (encMember ⟨2,1⟩),.agg (encConf K0)]) [.agg (encMember ⟨2,1⟩),.agg (encConf K0)] K=K ():=fun {K}=>gC_eq () rfl trivial (.refl _)
 have q2:∀ {h:Md.Home} (_:Quiet h) {K:Md.Home->Option AV},gC dHm Quiet eHm1 [.agg (encHome h)] K=K h:=fun {h} hq {K}=>gC_eq h (dec_encHome h) hq (.refl _)
 have q3:∀ {K:NStp->Option AV},gC (fun a=>decNStp (argC a 0)) NsOk (fun s=>[.agg (encNStp s)]) [.agg (encNStp s1)] K=K s1:=fun {K}=>gC_eq s1 rfl s1_ok (.refl _)
 have q4:∀ {K:HCM->Option AV},gC dHCM NhOk eHCM [.agg (encHome home0),.agg (encConf K0),.agg (encMsg (msgP s1))] K=K (home0,K0,msgP s1):=fun {K}=>gC_eq (home0,K0,msgP s1) (dHCM_eq (home0,K0,msgP s1)) nh1 (.refl _)
 have q5:∀ {h:Md.Home} (_:Two h) {K:Md.Home->Option AV},gC dHm Two eHm1 [.agg (encHome h)] K=K h:=fun {h} hq {K}=>gC_eq h (dec_encHome h) hq (.refl _)
 have v0:vwsH home0=[]:=rfl
 have hd:dirtP (d0 (homeP dd0 (handF p1).d)) (d1 (homeP dd0 (handF p1).d))=0:=by
  show dirtP dd0 (handF p1).d=0
  unfold dirtP
  rw[hf1,p1_log];rfl
 rw[q1,q2 quiet0,v0,q3,q4,g1_is,q2 quiet1,vws1,q5 quiet1.1,hd]at e
 have e2:callT (eAw knAw) 9 F_lockgatelaw23_awake []=some (.bool true):=e.trans (by rfl)
 exact conN (ak kNodeNew_ok (ak kTick2_ok (ak kDirty2_ok (ak kRMsg_ok (ak kNodeHandle_ok ank))))) e2
def kAwake:Known:=.one F_lockgatelaw23_awake [] (.bool true)
theorem kAwake_ok:kAwake.Ok PG:=Known.one_ok awake_con
def eNp(l:List Known):Env:=envN [(F_lockgatelaw23_NodeParts,0,[0,3,4,5,6,1002])] [(F_lockgatelaw23_NodeParts,0),(F_lockgatelaw23_awake,0),(F_node_New,0),(F_head_New,0),(F_node_Handle,0),(F_head_Handle,0),(F_lockgateref23_Msg,0),(F_lockgateref23_Conf,0),(F_lockgatelaw23_self,0),(F_lockgateref06_SameAll,0),(F_lockgatelaw23_same,0)] [] l
theorem cf_eq:callT (eNp []) 9 F_lockgateref23_Conf []=some (.agg (encConf K0)):=by kernel_rfl
theorem sf_eq:callT (eNp []) 9 F_lockgatelaw23_self []=some (.agg (encMember ⟨2,1⟩)):=by kernel_rfl
def kConf0:Known:=.one F_lockgateref23_Conf [] (.agg (encConf K0))
def kSelf0:Known:=.one F_lockgatelaw23_self [] (.agg (encMember ⟨2,1⟩))
theorem kConf0_ok:kConf0.Ok PG:=Known.one_ok (conN (fun k hk=>by cases hk) cf_eq)
theorem kSelf0_ok:kSelf0.Ok PG:=Known.one_ok (conN (fun k hk=>by cases hk) sf_eq)
def encNS(l:List NStp):AV:=encL 8 encNStp default l
end Go.Hd
end
noncomputable section
namespace Go.AM
theorem Leads.block_n{P:Program}{nt base:Nat}{x:Code}{id:Nat}{s s1:St}(h:Leads (fun Q=>x.wp P Q) nt base s .normal s1):Leads (fun Q=>(Code.block id x).wp P Q) nt base s .normal s1:=by
 intro hb
 obtain⟨b1,g1⟩:=h hb
 exact⟨b1,fun w I φ a hs ha Q hQ=>wp_block (g1 w I φ a hs ha _ hQ)⟩
end Go.AM
end
noncomputable section
open Go Go.AM Go.Md
namespace Go.Hd
open Go.Wk
set_option maxRecDepth 100000
variable {t:Int}
structure BigC(m:Msg):Prop where
 kd:m.kind=5
 gen:m.gen=0
 n:I64 m.src/\I64 m.sess/\I64 m.num
 chk:checkP m.op K0 ≠ 0
theorem WI.refuse'{B:Nat}{w:Wrk}(h:WI t B w){m:Msg}(hm:I64 m.src/\I64 m.sess/\I64 m.num){k:Int}(hk:I64 k):WI t (B+1) (refuseW w m k):=(h.mono (Nat.le_succ B)).outs (by have:=h.out;simp;omega) fun x hx=>by
 rw[List.mem_singleton.1 hx]
 obtain⟨a,b,c⟩:=hm
 exact answM_ok h.d.rep a b c hk
theorem big_not{w:Wrk}{m:Msg}(hc:w.c=K0)(h:BigC m):goesW w m=false:=by
 unfold goesW
 rw[hc,decide_eq_false h.chk]
 simp
theorem handle_big{B:Nat}{d:Md.Desk}{m:Msg}(hd:DI t B d)(hm:BigC m)(hB:B+30<=8000):HandleOk (d,K0,m)/\Lft t B (handF (d,K0,m)):=by
 have hw:=w0H_ok hd
 have hng:goesW (w0H d K0) m=false:=big_not rfl hm
 have hnt:¬ TookBy (d,K0,m):=fun h=>by
  have:=h.goes
  dsimp only at this
  rw[hng]at this;cases this
 have hkd:=hm.kd
 have fin:∀ {w:Wrk},WI t (B+1) w->mainW cF2 (w0H d K0) m=w->MainOk cF2 (w0H d K0) m->HdlOk cF2 (d,K0,m)/\Lft t B (handH cF2 (d,K0,m)):=by
  intro w h1 he hk
  have hb:=behind_ok m h1 (by omega)
  refine⟨⟨hd.dk (by omega),hk,fun _=>by show BhOk (mainW cF2 (w0H d K0) m) m;rw[he];exact hb.1⟩,?_⟩
  show Lft t B (endH (mainW cF2 (w0H d K0) m) m)
  rw[he]
  unfold endH
  cases headP w.d.rep with
  | true=>exact⟨hb.2.1.mono (by omega),by rw[cond_true];have:=hb.2.2.1;omega,hb.2.2.2⟩
  | false=>exact⟨h1.d.mono (by omega),by rw[cond_false];have:=h1.out;omega,h1.said⟩
 have hcl:ClOk cF1 (w0H d K0) m:=⟨by have:=hw.out;omega,by have:=hw.d.waits.1;omega,hw.d.rep.sok,vb30 hw.d.rep.last,vb30 hw.d.rep.com,fun h=>by rw[hng]at h;cases h⟩
 have hcw:WI t (B+1) (callW cF1 (w0H d K0) m):=by
  unfold callW
  cases decide (m.gen<(w0H d K0).d.rep.view.gen)with
  | true=>exact hw.refuse' hm.n (i64s (by decide) (by decide))
  | false=>
   have hc:decide (checkP m.op (w0H d K0).c=0)=false:=decide_eq_false hm.chk
   rw[cond_false,hc]
   exact hw.refuse' hm.n (check_i64 _ _)
 have hmain:mainW cF2 (w0H d K0) m=bif decide (m.dst=d.rep.self.node)&&(decide (m.shard=d.rep.shard)&&headP d.rep)then callW cF1 (w0H d K0) m else w0H d K0:=by
  unfold mainW;rw[decide_eq_true hkd];rfl
 have hmo:MainOk cF2 (w0H d K0) m:=⟨.inl hkd,fun _ _ _ _=>hcl,fun h=>absurd (hkd.symm.trans h) (by decide),fun h=>by rcases h with h | h <;> exact absurd (hkd.symm.trans h) (by decide)⟩
 have rest:HdlOk cF2 (d,K0,m)/\Lft t B (handH cF2 (d,K0,m)):=by
  cases hcnd:decide (m.dst=d.rep.self.node)&&(decide (m.shard=d.rep.shard)&&headP d.rep)with
  | false=>exact fin (hw.mono (by omega)) (by rw[hmain,hcnd];rfl) hmo
  | true=>exact fin hcw (by rw[hmain,hcnd];rfl) hmo
 refine⟨⟨fun h=>absurd h hnt,fun _=>rest.1⟩,?_⟩
 unfold handF
 rw[if_neg hnt];exact rest.2
theorem stp_is{s:NStp}(h:NsOk s)(hk:I64 s.o.kind):(SM (msgP s)\/BigC (msgP s))/\(msgP s).shard=shS s:=by
 by_cases ho:OpOk' s.o
 ·exact⟨.inl (msgP_sm h ho).1,(msgP_sm h ho).2⟩
 have big:checkP s.o K0 ≠ 0:=by
  intro e
  unfold checkP at e
  cases h1:decide (s.o.kind<1)||decide (5<s.o.kind)with
  | true=>rw[h1,cond_true]at e;exact absurd e (by decide)
  | false=>
   cases h2:!decide (s.o.kind=5)&&strBeq s.o.key []with
   | true=>rw[h1,h2,cond_false,cond_true]at e;exact absurd e (by decide)
   | false=>
    cases h3:decide (K0.maxKey<(s.o.key.length:Int))||(decide (K0.maxVal<(s.o.val.length:Int))||decide (K0.maxVal<(s.o.old.length:Int)))with
    | true=>rw[h1,h2,h3,cond_false,cond_false,cond_true]at e;exact absurd e (by decide)
    | false=>
     rw[Bool.or_eq_false_iff,Bool.or_eq_false_iff]at h3
     have a:=of_decide_eq_false h3.1
     have b:=of_decide_eq_false h3.2.1
     have c:=of_decide_eq_false h3.2.2
     have a:¬ ((4:Int)<(s.o.key.length:Int)):=a
     have b:¬ ((8:Int)<(s.o.val.length:Int)):=b
     have c:¬ ((8:Int)<(s.o.old.length:Int)):=c
     exact ho ⟨hk,by omega,by omega,by omega⟩
 have h0:NsOk {s with o:=op0}:=⟨h.k,h.sh,h.n⟩
 have e0:=msgP_sm h0 op0_ok
 have hnum:=num_is h
 unfold msgP at e0 ⊢
 dsimp only at e0
 by_cases c0:s.k.tmod 6=0
 ·rw[if_pos c0]at e0 ⊢;exact⟨.inl e0.1,e0.2⟩
 rw[if_neg c0]at e0 ⊢
 by_cases c1:s.k.tmod 6=1
 ·rw[if_pos c1]at e0 ⊢;exact⟨.inl e0.1,e0.2⟩
 rw[if_neg c1]at e0 ⊢
 by_cases c5:s.k.tmod 6=5
 ·rw[if_pos c5]at e0 ⊢;exact⟨.inl e0.1,e0.2⟩
 rw[if_neg c5]
 exact⟨.inr ⟨rfl,rfl,⟨(i64u (by decide) (by decide):I64 101),(i64u (by decide) (by decide):I64 1),i64u (n:=IntKind.i64.wrap (s.n.tmod 16)) (by omega) (by omega)⟩,big⟩,rfl⟩
theorem stp_handle{B:Nat}{d:Md.Desk}{m:Msg}(hd:DI t B d)(hm:SM m\/BigC m)(hB:B+30<=8000):HandleOk (d,K0,m)/\Lft t B (handF (d,K0,m)):=by
 rcases hm with h | h
 ·exact handle_ok hd h hB
 ·exact handle_big hd h hB
end Go.Hd
end
noncomputable section
open Go Go.AM Go.Md
namespace Go.Hd
open Go.Wk
set_option maxRecDepth 100000
set_option maxHeartbeats 400000
def SQ0(l:List NStp):St:={fr:=[(0,encNS l)],hp:=[]}
def SQ3(l:List NStp):St:={fr:=[(0,encNS l),(3,.ptr 0 0 0)],hp:=[.arr true 15 [encConf K0]]}
def SQ4(l:List NStp):St:={fr:=[(0,encNS l),(3,.ptr 0 0 0),(4,.ptr 1 0 0)],hp:=[.arr true 15 [encConf K0],.arr true 3 [encHome home0]]}
def gUs(K:Option St):Option St:=gC (fun _=>()) (fun _=>True) (fun _=>[]) [] fun _=>K
def ST:St:={fr:=[(2,.bool true)],hp:=[]}
end Go.Hd
end
noncomputable section
namespace Go.AM
theorem Leads.seq_exit{P:Program}{nt base:Nat}{x y:Code}{id:Nat}{s s1:St}(h:Leads (fun Q=>x.wp P Q) nt base s (.exit id) s1):Leads (fun Q=>(Code.seq x y).wp P Q) nt base s (.exit id) s1:=by
 intro hb
 obtain⟨b1,g1⟩:=h hb
 exact⟨b1,fun w I φ a hs ha Q hQ=>wp_seq (g1 w I φ a hs ha _ hQ)⟩
end Go.AM
end
noncomputable section
open Go Go.AM Go.Md
namespace Go.Hd
open Go.Wk
set_option maxRecDepth 100000
set_option maxHeartbeats 400000
def StpOk(s:NStp):Prop:=NsOk s/\I64 s.o.kind
def lenS(s:NStp):Int:=IntKind.i64.wrap (IntKind.i64.wrap ((s.o.key.length:Int)+(s.o.val.length:Int))+(s.o.old.length:Int))
def nxD(ds:Nat->Md.Desk)(s:NStp):Nat->Md.Desk:=if shS s=2 then ds else fun j=>bif Nat.beq j (shS s).toNat then(handF (ds (shS s).toNat,K0,msgP s)).d else ds j
def dsAt(l:List NStp):Nat->Nat->Md.Desk
 | 0=>fun j=>[dd0,dd1].getD j dd0
 | i+1=>nxD (dsAt l i) (l.getD i default)
def DsOk(B:Nat)(ds:Nat->Md.Desk):Prop:=DI 0 B (ds 0)/\DI 1 B (ds 1)
def homeD(ds:Nat->Md.Desk):Md.Home:=homeP (ds 0) (ds 1)
theorem nxD_ok{B:Nat}{ds:Nat->Md.Desk}{s:NStp}(h:DsOk B ds)(hs:StpOk s)(hB:B+30<=8000):DsOk (B+30) (nxD ds s):=by
 obtain⟨hm,_⟩:=stp_is hs.1 hs.2
 unfold nxD
 by_cases h2:shS s=2
 ·rw[if_pos h2];exact⟨h.1.mono (by omega),h.2.mono (by omega)⟩
 rw[if_neg h2]
 refine⟨?_,?_⟩
 all_goals
  dsimp only
  cases hc:Nat.beq _ (shS s).toNat with
  | false=>exact(by first | exact h.1.mono (by omega) | exact h.2.mono (by omega))
  | true=>
   rw[cond_true,<- Nat.eq_of_beq_eq_true hc]
   first | exact(stp_handle h.1 hm hB).2.1 | exact(stp_handle h.2 hm hB).2.1
theorem homeD_hm{B:Nat}{ds:Nat->Md.Desk}(h:DsOk B ds)(hB:B<=8000):HmOk (homeD ds):=⟨by show 2<=100000;omega,fun d hd=>by
 have:d=ds 0\/d=ds 1:=by simpa [homeD,homeP] using hd
 rcases this with rfl | rfl
 ·exact h.1.dk (by omega)
 ·exact h.2.dk (by omega)⟩
theorem homeD_nh{B:Nat}{ds:Nat->Md.Desk}{s:NStp}(h:DsOk B ds)(hs:StpOk s)(hB:B+30<=8000):NhOk (homeD ds,K0,msgP s):=by
 obtain⟨hm,hsh⟩:=stp_is hs.1 hs.2
 refine⟨homeD_hm h (by omega),fun h0 h2=>?_⟩
 have h2:(msgP s).shard<2:=h2
 dsimp only at h0 h2 ⊢
 have:(msgP s).shard=0\/(msgP s).shard=1:=by omega
 rcases this with e | e
 ·rw[e];exact(stp_handle h.1 hm hB).1
 ·rw[e];exact(stp_handle h.2 hm hB).1
theorem handN_is{ds:Nat->Md.Desk}{s:NStp}(hs:StpOk s):(shS s=2/\handN (homeD ds,K0,msgP s)=(homeD ds,[])/\nxD ds s=ds) \/
  ((shS s=0\/shS s=1)/\handN (homeD ds,K0,msgP s)=(homeD (nxD ds s),(handF (ds (shS s).toNat,K0,msgP s)).out)):=by
 obtain⟨_,hsh⟩:=stp_is hs.1 hs.2
 have h3:=shS_is hs.1
 have:shS s=2\/shS s=0\/shS s=1:=by omega
 unfold handN
 dsimp only
 rw[hsh]
 rcases this with e | e | e
 ·refine .inl ⟨e,?_,?_⟩
  ·rw[if_neg (by rw[e];show ¬ (0<=(2:Int)/\(2:Int)<2);omega)]
  ·unfold nxD;rw[if_pos e]
 ·refine .inr ⟨.inl e,?_⟩
  rw[if_pos (by rw[e];show(0<=(0:Int)/\(0:Int)<2);omega)]
  unfold nxD
  rw[if_neg (by omega),e];rfl
 ·refine .inr ⟨.inr e,?_⟩
  rw[if_pos (by rw[e];show(0<=(1:Int)/\(1:Int)<2);omega)]
  unfold nxD
  rw[if_neg (by omega),e];rfl
theorem dsAt_ok{l:List NStp}(hs:∀ s ∈ l,StpOk s)(hl:l.length<=60):∀ i,i<=l.length->DsOk (30*i) (dsAt l i)
 | 0,_=>⟨dd0_di,dd1_di⟩
 | i+1,hi=>nxD_ok (B:=30*i) (dsAt_ok hs hl i (by omega)) (hs _ (getD_mem (z:=(default:NStp)) (by omega))) (by omega)
theorem first_long(l:List NStp):(∀ i,i<l.length -> ¬ 60<lenS (l.getD i default)) \/ ∃ n,n<l.length/\60<lenS (l.getD n default) /\ ∀ i,i<n -> ¬ 60<lenS (l.getD i default):=by
 by_cases h:∃ n,n<l.length/\60<lenS (l.getD n default)
 ·right
  have key:∀ n,(n<l.length/\60<lenS (l.getD n default)) -> ∃ n,n<l.length/\60<lenS (l.getD n default) /\ ∀ i,i<n -> ¬ 60<lenS (l.getD i default):=by
   intro n
   induction n using Nat.strongRecOn with
   | ind n ih=>
    intro hn
    by_cases hx:∃ i,i<n/\60<lenS (l.getD i default)
    ·obtain⟨i,hi,hi2⟩:=hx
     exact ih i hi ⟨by omega,hi2⟩
    ·exact⟨n,hn.1,hn.2,fun i hi hi2=>hx ⟨i,hi,hi2⟩⟩
  obtain⟨n,hn⟩:=h
  exact key n hn
 ·exact .inl fun i hi h2=>h ⟨i,hi,h2⟩
end Go.Hd
end
noncomputable section
open Go Go.AM Go.Md
namespace Go.Hd
open Go.Wk
set_option maxRecDepth 100000
def ShapeTs(S:TypeId->List AV->Prop):List TypeId->List AV->Prop
 | [],cs=>cs=[]
 | t::r,cs=>∃ a b,cs=a++b/\S t a/\ShapeTs S r b
theorem fs_ts{S:TypeId->List AV->Prop}:∀ {l:List Field} {cs:List AV},ShapeFs S l cs->ShapeTs S (l.map (·.type)) cs
 | [],_,h=>h
 | f::r,_,⟨a,b,h1,h2,h3⟩=>⟨a,b,h1,h2,fs_ts h3⟩
def sFs:Option TypeDesc->Option (List TypeId)
 | some (.struct fs)=>some (fs.toList.map (·.type))
 | _=>none
theorem shape_s{n:Nat}{t:TypeId}{ts:List TypeId}{cs:List AV}(hu:sFs (PG.underlying t)=some ts)(h:Shape PG (n+1) t cs):ShapeTs (Shape PG n) ts cs:=by
 unfold Shape at h
 unfold sFs at hu
 split at hu
 ·rename_i fs e
  rw[e]at h
  injection hu with hu
  rw[<- hu]
  exact fs_ts h
 ·cases hu
theorem shape_i{n:Nat}{cs:List AV}(h:Shape PG (n+1) 3 cs):∃ i,cs=[.int .i64 i]/\I64 i:=by
 have hu:PG.underlying 3=some (.int .i64):=by kernel_rfl
 unfold Shape at h
 rw[hu]at h
 obtain⟨i,h1,h2,h3⟩:=h
 have e1:IntKind.i64.min = -9223372036854775808:=by decide
 have e2:IntKind.i64.max=9223372036854775807:=by decide
 rw[e1]at h2;rw[e2]at h3
 exact⟨i,h1,h2,h3⟩
theorem shape_u{n:Nat}{cs:List AV}(h:Shape PG (n+1) 5 cs):∃ i,cs=[.int .u8 i]/\0<=i/\i<=255:=by
 have hu:PG.underlying 5=some (.int .u8):=by kernel_rfl
 unfold Shape at h
 rw[hu]at h
 obtain⟨i,h1,h2,h3⟩:=h
 have e1:IntKind.u8.min=0:=by decide
 have e2:IntKind.u8.max=255:=by decide
 rw[e1]at h2;rw[e2]at h3
 exact⟨i,h1,h2,h3⟩
theorem shape_b{n:Nat}{cs:List AV}(h:Shape PG (n+1) 4 cs):∃ b,cs=[.bool b]:=by
 have hu:PG.underlying 4=some .bool:=by kernel_rfl
 unfold Shape at h
 rw[hu]at h
 exact h
theorem shape_t{n:Nat}{cs:List AV}(h:Shape PG (n+1) 9 cs):∃ s,cs=[.str s]:=by
 have hu:PG.underlying 9=some .string:=by kernel_rfl
 unfold Shape at h
 rw[hu]at h
 obtain⟨s,h1,_⟩:=h
 exact⟨s,h1⟩
theorem pick_list{X:Type}{z:X}{e:X->List AV}{Q:X->Prop}{m:Nat}{f:Nat->List AV}(h:∀ i,i<m -> ∃ x,SubC (f i) (e x)/\Q x):∃ l:List X,l.length=m/\(∀ i,i<m->SubC (f i) (e (l.getD i z))) /\ ∀ x ∈ l,Q x:=by
 induction m with
 | zero=>exact⟨[],rfl,fun i hi=>by omega,fun x hx=>by cases hx⟩
 | succ m ih=>
  obtain⟨l,h1,h2,h3⟩:=ih fun i hi=>h i (by omega)
  obtain⟨x,hx,hq⟩:=h m (by omega)
  refine⟨l++[x],by simp[h1],fun i hi=>?_,fun y hy=>?_⟩
  ·by_cases hm:i<m
   ·have:(l++[x]).getD i z=l.getD i z:=by simp[List.getD,List.getElem?_append_left (by omega:i<l.length)]
    rw[this];exact h2 i hm
   ·have:i=m:=by omega
    subst this
    have:(l++[x]).getD i z=x:=by subst h1;simp[List.getD]
    rw[this];exact hx
  ·rcases List.mem_append.1 hy with hy | hy
   ·exact h3 y hy
   ·rw[List.mem_singleton.1 hy];exact hq
theorem shape_l{X:Type}{n sz:Nat}{t e:TypeId}{E:X->List AV}{z:X}{Q:X->Prop}{cs:List AV}(hu:PG.underlying t=some (.slice e))(hc:PG.cellsOf e=sz)(hx:∀ c,Shape PG n e c -> ∃ x,SubC c (E x)/\Q x)(h:Shape PG (n+1) t cs) :
  ∃ (c:AV) (l:List X),cs=[c]/\SubV c (encL sz E z l) /\ ∀ x ∈ l,Q x:=by
 obtain⟨c,m,f,rfl,h1,h2,h3⟩:=Shape.list hu h
 obtain⟨l,g1,g2,g3⟩:=pick_list (z:=z) fun i hi=>hx _ (h3 i hi)
 refine⟨c,l,rfl,h1.trans ?_,g3⟩
 rw[hc]
 subst g1
 exact .trs g2
theorem shape_op{n:Nat}{cs:List AV}(h:Shape PG (n+2) 53 cs):∃ o:Md.Op,cs=encOp o/\I64 o.kind:=by
 obtain⟨c1,d1,rfl,h1,c2,d2,rfl,h2,c3,d3,rfl,h3,c4,d4,rfl,h4,c5,d5,rfl,h5,rfl⟩:=shape_s (ts:=[3,9,9,9,4]) (by kernel_rfl) h
 obtain⟨i,rfl,hi⟩:=shape_i h1
 obtain⟨a,rfl⟩:=shape_t h2
 obtain⟨b,rfl⟩:=shape_t h3
 obtain⟨c,rfl⟩:=shape_t h4
 obtain⟨e,rfl⟩:=shape_b h5
 exact⟨⟨i,a,b,c,e⟩,rfl,hi⟩
theorem shape_stp{n:Nat}{cs:List AV}(h:Shape PG (n+3) 95 cs):∃ s:NStp,SubC cs (encNStp s)/\StpOk s:=by
 obtain⟨c1,d1,rfl,h1,c2,d2,rfl,h2,c3,d3,rfl,h3,c4,d4,rfl,h4,rfl⟩:=shape_s (ts:=[5,5,5,53]) (by kernel_rfl) h
 obtain⟨a,rfl,ha⟩:=shape_u h1
 obtain⟨b,rfl,hb⟩:=shape_u h2
 obtain⟨c,rfl,hc⟩:=shape_u h3
 obtain⟨o,rfl,ho⟩:=shape_op h4
 refine⟨⟨a,b,c,o⟩,?_,⟨ha,hb,hc⟩,ho⟩
 rw[List.append_nil];exact .refl _
theorem steps_args{avs:List AV}(h:Args PG 9 [87] avs):∃ l:List NStp,(∀ s ∈ l,StpOk s)/\SubC avs [encNS l]:=by
 obtain⟨av,r,hs,rfl,rfl⟩:=h
 obtain⟨c,l,rfl,h1,h2⟩:=shape_l (n:=8) (sz:=8) (t:=87) (e:=95) (E:=encNStp) (z:=default) (Q:=StpOk) (by kernel_rfl) (by kernel_rfl) (fun c h=>shape_stp (n:=5) h) hs
 have u:PG.underlying 87=some (.slice 95):=by kernel_rfl
 have e2:argOf PG 87 [c]=c:=by unfold argOf;rw[u];rfl
 rw[e2]
 exact⟨l,h2,.cons h1 .nil⟩
end Go.Hd
end
noncomputable section
set_option linter.unusedVariables false
set_option linter.unusedSimpArgs false
namespace Go.AM
def frzHp(s:St)(l:List Nat):Heap:=hputs s.hp (l.map fun b=>(b,frozen (hget s.hp b)))
theorem frzC_ok{w:World}{I:Nat->Prop}{φ:Phi}{s:St}{a:Act}{b j sz:Nat}{cs:List AV}{m:Bool}{c v:AV}{l:List Nat}(hs:StOk w I φ s a)(hb:hget s.hp b=.arr m sz [cs])(hc:cs[j]? = some c)
  (h:snapG depth (hget s.hp) c=some (v,l,true)) (hb2:hget (frzHp s l) b=.arr m sz [cs]) :
  ∃ I' φ',StOk w I' φ' {fr:=s.fr,hp:=hput (frzHp s l) b (.arr m sz [cs.set j v])} a /\
   ∀ base,base<=s.hp.length->Step base (hget s.hp) φ I w (hget (hput (frzHp s l) b (.arr m sz [cs.set j v]))) φ' I' w:=by
 obtain⟨hl,hv⟩:=(snapG_ok hs.hh depth).1 _ _ _ h fun _ _=>rfl
 have hlt:∀ B,(I B\/InL φ l B)->B<w.heap.size:=fun B hB=>hB.elim (hs.hh.lt B) (inL_lt hs.hh hl)
 obtain⟨φ2,_,le,hh2,st⟩:=hs.hh.merge (w':=w) (I2:=fun B=>I B\/InL φ l B) (φ':=Phi.no) (bs:=[]) (nx:=s.hp.length) (t:=true) (rch:=l) hl (fun i hi=>by simp at hi) (Ext.refl _ _)
  (fun B hB=>.inl hB) (fun B hB=>hB.elim .inl fun h=>.inr (.inl ⟨rfl,h⟩)) (fun _ B hB=>.inr hB) (RH.empty w _ hlt) (fun B hB=>(not_mut_nil hB).elim) (hget s.hp) (fun _ _=>rfl)
 have e:rdputs (hget s.hp) ((bif true then l.map fun b=>(b,frozen (hget s.hp b))else [])++imports s.hp.length 0 (([]:Heap).map (renB (shift s.hp.length ([]:Heap).length))))=hget (frzHp s l):=by
  unfold frzHp
  rw[hget_hputs]
  show rdputs (hget s.hp) ((l.map fun b=>(b,frozen (hget s.hp b)))++[])=_
  rw[List.append_nil]
 rw[e]at hh2
 have hstep:=st 0 (Nat.zero_le _)
 rw[e]at hstep
 have old:FrOk w (fun B=>I B\/InL φ l B) φ2 (fget s.fr) a:=hs.fr.step hs.hh hstep le
 have hlive:live (hget s.hp b)=true:=by rw[hb];rfl
 obtain⟨B1,o1,s1,e1,r1⟩:∃ B o z,φ b=some (B,o,z)/\RB w I φ B o z (.arr m sz [cs]):=by
  rcases hs.hh.blk b hlive with ⟨B,o,z,e,r⟩ | ⟨_,hp⟩
  ·rw[hb]at r;exact⟨B,o,z,e,r⟩
  ·rw[hb]at hp;exact hp.elim
 obtain⟨_,_,_,q4⟩:=r1
 obtain⟨u0,u1,u2,u3⟩:=q4 0 cs j c rfl hc
 have hu:=hv (fun B=>I B\/InL φ l B) (fun B hB=>.inl hB) (fun B hB=>.inr hB) _ u3
 have e2:=le _ _ e1
 have one:∀ {c':List AV} {i:Nat} {cs':List AV},[c'][i]? = some cs'->i=0/\cs'=c':=by
  intro c' i cs' e
  cases i with
  | zero=>simp at e;exact⟨rfl,e.symm⟩
  | succ i=>simp at e
 have hlx:live (BS.arr m sz [cs.set j v])=true:=rfl
 have key:RH w (fun B=>I B\/InL φ l B) φ2 (rdput (hget (frzHp s l)) b (.arr m sz [cs.set j v])) /\ ∀ base,Step base (hget (frzHp s l)) φ2 (fun B=>I B\/InL φ l B) w (rdput (hget (frzHp s l)) b (.arr m sz [cs.set j v])) φ2 (fun B=>I B\/InL φ l B) w:=by
  have hw:=hh2
  have hmu:∀ b',mutable (rdput (hget (frzHp s l)) b (.arr m sz [cs.set j v]) b')=mutable (hget (frzHp s l) b'):=fun b'=>by
   by_cases e:b'=b
   ·subst e;rw[rdput_same,hb2];rfl
   ·rw[rdput_ne _ _ e]
  have hlv:∀ b',live (rdput (hget (frzHp s l)) b (.arr m sz [cs.set j v]) b')=live (hget (frzHp s l) b'):=fun b'=>by
   by_cases e:b'=b
   ·subst e;rw[rdput_same,hb2];rfl
   ·rw[rdput_ne _ _ e]
  refine⟨⟨fun b' e=>?_,fun b' e=>?_,fun b1 b2 B o s o' s' h1 h2=>hw.inj b1 b2 B o s o' s' (hmu b1 ▸ h1) (hmu b2 ▸ h2),fun b' B o s h1=>hw.disj b' B o s (hmu b' ▸ h1),fun b' B o s h1 h2=>hw.imm b' B o s (hlv b' ▸ h1) (hmu b' ▸ h2),hw.lt⟩,
   fun base=>⟨fun _ _ _ e=>e,fun _ hB=>hB,fun _ hB=>.inl hB,fun B ⟨b',o,s,h1,e⟩=>.inl ⟨b',o,s,hmu b' ▸ h1,e⟩,Ext.refl _ _⟩⟩
  ·by_cases e':b'=b
   ·subst e';rw[rdput_same]at e;cases e
   ·rw[rdput_ne _ _ e']at e;exact hw.none b' e
  ·by_cases e':b'=b
   ·subst e'
    rw[rdput_same]
    rcases hw.blk b' (by rw[hb2];rfl)with ⟨B,o,z,g1,r⟩ | ⟨_,hph⟩
    ·refine .inl ⟨B,o,z,g1,?_⟩
     rw[e2]at g1
     cases g1
     rw[hb2]at r
     obtain⟨r1,r2,r3,r4⟩:=r
     refine⟨r1,r2,fun i cs' e=>?_,fun i cs' k c1 e e'=>?_⟩
     ·obtain⟨rfl,rfl⟩:=one e
      rw[List.length_set];exact r3 0 cs rfl
     ·obtain⟨rfl,rfl⟩:=one e
      rw[List.getElem?_set]at e'
      split at e'
      ·rename_i hk
       subst hk
       split at e'
       ·cases e'
        exact⟨u0,u1,u2,hu.mono (fun B hB=>⟨hB,rfl⟩) (fun _=>Nat.le_refl _) (Phi.no_le _)⟩
       ·cases e'
      ·exact r4 0 cs k c1 rfl e'
    ·rw[hb2]at hph;exact hph.elim
   ·rw[rdput_ne _ _ e']at e ⊢;exact hw.blk b' e
 have hg:hget (hput (frzHp s l) b (.arr m sz [cs.set j v]))=rdput (hget (frzHp s l)) b (.arr m sz [cs.set j v]):=funext fun b'=>hget_hput _ _ _ _
 refine⟨_,φ2,⟨by rw[hg];exact key.1,old⟩,fun base hb=>?_⟩
 have t:=st base hb
 rw[e]at t
 rw[hg]
 exact t.trans (key.2 base)
theorem Leads.frzC{P:Program}{nt base:Nat}{x:Code}{s s1:St}{e:AX}(h:Leads (fun Q=>x.wp P Q) nt base s e s1){b j sz:Nat}{cs:List AV}{m:Bool}{c v:AV}{l:List Nat}(hb:hget s1.hp b=.arr m sz [cs])(hc:cs[j]? = some c)
  (hv:snapG depth (hget s1.hp) c=some (v,l,true)) (hb2:hget (frzHp s1 l) b=.arr m sz [cs]):Leads (fun Q=>x.wp P Q) nt base s e {fr:=s1.fr,hp:=hput (frzHp s1 l) b (.arr m sz [cs.set j v])}:=by
 intro hbase
 obtain⟨b1,g1⟩:=h hbase
 have hlen:s1.hp.length<=(hput (frzHp s1 l) b (.arr m sz [cs.set j v])).length:=Nat.le_trans (hputs_length _ _) (hput_length _ _ _)
 refine⟨Nat.le_trans b1 hlen,fun w I φ a hs ha Q hQ=>g1 w I φ a hs ha _ fun a' w' φ' I' c1 c2 c3 c4=>?_⟩
 obtain⟨I2,φ2,n1,n2⟩:=frzC_ok c3 hb hc hv hb2
 exact hQ a' w' φ2 I2 c1 c2 n1 (c4.trans (n2 base b1))
end Go.AM
end
noncomputable section
set_option linter.unusedVariables false
namespace Go.AM
theorem Leads.hsub{P:Program}{nt base:Nat}{x:Code}{s s1:St}{e:AX}(h:Leads (fun Q=>x.wp P Q) nt base s e s1){h':Heap}(hs:HSub s1.hp h'):Leads (fun Q=>x.wp P Q) nt base s e {fr:=s1.fr,hp:=h'}:=by
 intro hb
 obtain⟨b1,g1⟩:=h hb
 refine⟨by rw[<- hs.1];exact b1,fun w I φ a ho ha Q hQ=>g1 w I φ a ho ha _ fun a' w' φ' I' c1 c2 c3 c4=>?_⟩
 exact hQ a' w' φ' I' c1 c2 ⟨hs.rh c3.hh,c3.fr⟩ ⟨c4.le,c4.Ile,c4.Inew,fun B hB=>c4.mt B (hs.mut hB),c4.ext⟩
theorem leads_nr{P:Program}{env:Env}{fn nt n base:Nat}{run:CallK St}(henv:EnvOk P env)(hrun:RunOk P run)(hm:P.follows .mixedOrders=true){c:Code}{cur:Nat}{l:List Nat}{s s':St}(hok:okCode c=true)
  (h:evC env run fn nt n base cur c (kAt .ret (norm base l)) s=some s'):Leads (fun Q=>c.wp P Q) nt base s .ret s':=by
 obtain⟨e,s1,h1,h2⟩:=evC_ok henv hrun hm hok h
 cases e with
 | ret=>
  cases h1
  intro hb
  obtain⟨b1,g1⟩:=h2 hb
  refine⟨norm_base b1,fun w I φ a hs ha Q hQ=>g1 w I φ a hs ha _ fun a' w' φ' I' c1 c2 c3 c4=>?_⟩
  obtain⟨n1,φ1,n2,n3⟩:=norm_ok base l c3 b1
  exact hQ a' w' φ1 I' c1 c2 n2 (c4.trans n3)
 | exit id=>cases h1
 | goto l=>cases h1
 | normal=>cases h1
end Go.AM
end
noncomputable section
open Go Go.AM Go.Md
namespace Go.Hd
open Go.Wk
set_option maxRecDepth 100000
set_option maxHeartbeats 400000
def knT:List Known:=[kHTick,kVLive]
def bdT:Code:=bodyOf (eNt knT) F_node_Tick
def t0:Code:=sub bdT [.L]
def t1:Code:=sub bdT [.R,.L]
def tX:Code:=sub bdT [.R,.R,.L]
def t9:Code:=sub bdT [.R,.R,.R,.L]
def tY:Code:=sub bdT [.R,.R,.R,.R,.L]
def tZ:Code:=sub bdT [.R,.R,.R,.R,.R]
theorem bdT_eq:bdT=.seq t0 (.seq t1 (.seq tX (.seq t9 (.seq tY tZ)))):=by kernel_rfl
def evT(x:Code)(K:AX->St->Option St)(s:St):Option St:=evC (eNt knT) (evFn (eNt knT) 9) F_node_Tick 59 9 0 0 x K s
def T1(a b:Md.Desk):St:={fr:=[(1,.ptr 0 0 0)],hp:=[.arr true 3 [encHome (homeP a b)]]}
def T2(a b:Md.Desk)(v:AV):St:={fr:=[(1,.ptr 0 0 0),(3,.ptr 1 0 0)],hp:=[.arr true 3 [encHome (homeP a b)],.arr true 31 [btC v]]}
def T3(a b:Md.Desk)(vs:List (List AV)):St:={fr:=[(1,.ptr 0 0 0),(3,.ptr 1 0 0)],hp:=[.arr true 3 [encHome (homeP a b)],.arr true 31 [btC (.sl 5 2 0 vs.length vs.length)],.arr true 5 vs]}
def gLvS(r:Rep)(K:Rep->Option St):Option St:=gC dRep1 pRep1 eRep1 [.agg (encRep r)] K
theorem t_p0(a b:Md.Desk):evT t0 (kAt .normal (norm 0 [1])) {fr:=mkFrame 0 [.agg (encHome (homeP a b))],hp:=[]}=some (T1 a b):=by kernel_rfl
theorem t_p1(a b:Md.Desk):evT t1 (kAt .normal (norm 0 [1,3])) (T1 a b)=some (T2 a b .nils):=by kernel_rfl
theorem t_pX(a b:Md.Desk):evT tX (kAt .normal (norm 0 [1,3])) (T2 a b .nils) =
 gLvS a.rep fun x=>bif liveP x then gLvS b.rep fun y=>bif liveP y then some (T3 a b [vwC a.rep.shard a.rep,vwC b.rep.shard b.rep])else some (T3 a b [vwC a.rep.shard a.rep])
  else gLvS b.rep fun y=>bif liveP y then some (T3 a b [vwC b.rep.shard b.rep])else some (T2 a b .nils):=by kernel_rfl
def T4(a b:Md.Desk)(m:Msg):St:={fr:=[(1,.ptr 0 0 0),(3,.ptr 1 0 0)],hp:=[.arr true 3 [encHome (homeP a b)],.arr true 31 [encMsg m]]}
def T5(a b:Md.Desk)(m:Msg):St:={fr:=[(1,.ptr 0 0 0),(7,.sl 31 1 0 1 1)],hp:=[.arr true 3 [encHome (homeP a b)],.arr true 31 [encMsg m]]}
theorem t_p9(a b:Md.Desk)(m:Msg):evT t9 (kAt .normal (norm 0 [1,7])) (T4 a b m)=some (T5 a b m):=by kernel_rfl
def fMs(l:List Msg):Nat->List AV:=fun i=>encMsg (l.getD i default)
def ap1(m:Msg)(l:List Msg):Nat->List AV:=appN 1 (fun i=>[encMsg m].getD i []) (.fn l.length (fMs l))
def ap2(m:Msg)(l k:List Msg):Nat->List AV:=appN (1+l.length) (ap1 m l) (.fn k.length (fMs k))
def T7(n:Nat)(F:Nat->List AV):St:={fr:=[(7,.sl 31 0 0 n 0)],hp:=[.seq true 31 n F]}
def T6(m:Msg):St:={fr:=[(7,.sl 31 0 0 1 1)],hp:=[.arr true 31 [encMsg m]]}
def okL(n:Nat):Bool:=(n*392).ble 140737488355328&&n.ble 140737488355328
def gTkS(d:Md.Desk)(K:Md.Desk->Option St):Option St:=gC (fun a=>decDesk (argC a 0)) TkOk (fun d=>[.agg (encDesk d)]) [.agg (encDesk d)] K
theorem t_pY(a b:Md.Desk)(m:Msg):evT tY (kAt .normal (norm 0 [7])) (T5 a b m) =
 gTkS a fun x=>bif okL (1+(tickP x).length)then
  bif(tickP x).length.beq 0 then gTkS b fun y=>bif okL (1+(tickP y).length)then bif(tickP y).length.beq 0 then some (T6 m)else bif(1+(tickP y).length).ble 1 then none else some (T7 (1+(tickP y).length) (ap1 m (tickP y)))else none
  else bif(1+(tickP x).length).ble 1 then none else gTkS b fun y=>bif(1+(tickP x).length).beq 0||(1+(tickP x).length).ble (1+(tickP x).length)then bif okL (1+(tickP x).length+(tickP y).length)then
   bif(tickP y).length.beq 0 then some (T7 (1+(tickP x).length) (ap1 m (tickP x)))else some (T7 (1+(tickP x).length+(tickP y).length) (ap2 m (tickP x) (tickP y)))else none else none
 else none:=by kernel_rfl
def T8(n:Nat)(F:Nat->List AV):St:={fr:=[(2,.sl 31 0 0 n 0)],hp:=[.seq true 31 n F]}
def T9(m:Msg):St:={fr:=[(2,.sl 31 0 0 1 1)],hp:=[.arr true 31 [encMsg m]]}
theorem t_pZ7(n:Nat)(F:Nat->List AV):evT tZ (kAt .ret (norm 0 [2])) (T7 n F)=some (T8 n F):=by kernel_rfl
theorem t_pZ6(m:Msg):evT tZ (kAt .ret (norm 0 [2])) (T6 m)=some (T9 m):=by kernel_rfl
theorem t_f8(n:Nat)(F:Nat->List AV):resultsK (eNt knT).tt (T8 n F) [.tmp 2] (fun vs=>cnK 0 0 (tupled vs) (T8 n F).hp)=some (.sl 31 0 0 n 0,[.seq true 31 n F]):=by kernel_rfl
theorem t_f9(m:Msg):resultsK (eNt knT).tt (T9 m) [.tmp 2] (fun vs=>cnK 0 0 (tupled vs) (T9 m).hp)=some (.sl 31 0 0 1 1,[.arr true 31 [encMsg m]]):=by kernel_rfl
theorem t_s8(n:Nat)(F:Nat->List AV):snK (.sl 31 0 0 n 0) [.seq true 31 n F]=bif n.beq 0||n.ble n then some (.tr 31 n F)else none:=by kernel_rfl
theorem t_s9(m:Msg):snK (.sl 31 0 0 1 1) [.arr true 31 [encMsg m]]=some (.trl 31 [encMsg m]):=by kernel_rfl
theorem ap1_ok(m:Msg)(l:List Msg):Holds (1+l.length) (ap1 m l) (m::l):=by
 refine⟨by simp;omega,fun j hj=>?_⟩
 match j with
 | 0=>rfl
 | j+1=>
  have:ap1 m l (j+1)=bif Nat.blt (j+1) (1+l.length)then fMs l (j+1 - 1)else [encMsg m].getD 1 []:=rfl
  rw[this,blt_true (by omega),cond_true];rfl
theorem ap2_ok(m:Msg)(l k:List Msg):Holds (1+l.length+k.length) (ap2 m l k) (m::(l++k)):=by
 refine⟨by simp;omega,fun j hj=>?_⟩
 have e:ap2 m l k j=bif Nat.blt j (1+l.length)then ap1 m l j else bif Nat.blt j (1+l.length+k.length)then fMs k (j - (1+l.length))else ap1 m l (1+l.length):=rfl
 rw[e]
 by_cases h:j<1+l.length
 ·rw[blt_true h,cond_true,(ap1_ok m l).2 j h]
  have:(m::(l++k)).getD j default=(m::l).getD j default:=by
   rw[<- List.cons_append]
   simp only[List.getD]
   rw[List.getElem?_append_left (by simp;omega)]
  rw[this]
 ·rw[blt_false (by omega),cond_false,blt_true hj,cond_true]
  have:(m::(l++k)).getD j default=k.getD (j - (1+l.length)) default:=by
   rw[<- List.cons_append]
   simp only[List.getD]
   rw[List.getElem?_append_right (by simp;omega)]
   congr 2
   simp;omega
  rw[this];rfl
theorem Holds.sub{n:Nat}{F:Nat->List AV}{l:List Msg}(h:Holds n F l):SubV (.tr 31 n F) (encMsgs l):=by
 obtain⟨rfl,h⟩:=h
 exact .trs fun i hi=>by rw[h i hi];exact .refl _
theorem knT_ok:∀ k ∈ knT,k.Ok PG:=ak kHTick_ok (ak kVLive_ok ank)
abbrev LdT(c:Code)(s:St)(e:AX)(s':St):Prop:=Leads (fun Q=>c.wp PG Q) 59 0 s e s'
theorem envT:EnvOk PG (eNt knT):=envN_ok knT_ok
theorem runT:RunOk PG (evFn (R:=St) (eNt knT) 9):=ev_ok envT envN_code mixed 9
theorem okT:okCode bdT=true:=by kernel_rfl
theorem subFs_of{cs cs':List AV}(h:SubC cs cs')(hf:cs.all refFree=true):SubFs cs cs':=
 ⟨h.1,fun k c c' e e'=>.of (h.2 k c c' e e') (List.all_eq_true.1 hf c (List.mem_of_getElem? e))⟩
theorem t_word(a b:Md.Desk)(v:AV)(h:SubV v (encViews (beatV 0 a.rep++beatV 1 b.rep)))(hf:(btC v).all refFree=true):HSub (T2 a b v).hp (T4 a b (beatM a b)).hp:=
 .cons (.refl _) (.cons (.arr _ _ _ _ rfl fun i cs cs' e e'=>by
  cases i with
  | zero=>simp at e e';subst e;subst e';exact subFs_of (btC_sub h) hf
  | succ i=>simp at e) .nil)
def frz3(a b:Md.Desk)(vs:List (List AV)):St:={fr:=[(1,.ptr 0 0 0),(3,.ptr 1 0 0)],hp:=[.arr true 3 [encHome (homeP a b)],.arr true 31 [btC (.trl 5 vs)],.arr false 5 vs]}
theorem t_norm(a b:Md.Desk)(vs:List (List AV)):norm 0 [1,3] (frz3 a b vs)=T2 a b (.trl 5 vs):=by kernel_rfl
theorem ble_gt{a b:Nat}(h:b<a):a.ble b=false:=by
 cases hb:a.ble b with
 | false=>rfl
 | true=>have:=Nat.le_of_ble_eq_true hb;omega
theorem okL_true{n:Nat}(h:n<=1000000):okL n=true:=by
 unfold okL
 rw[ble_le (show n*392<=140737488355328 by omega),ble_le (show n<=140737488355328 by omega)];rfl
theorem tickP_len{d:Md.Desk}(h:TkOk d):(tickP d).length<=200001:=by
 have:=flushMP_len (d.pump,d.rep)
 obtain⟨_,_,h3,h4⟩:=h
 unfold tickP
 rw[List.length_append,List.length_append,List.length_map];omega
theorem ntick_con(a b:Md.Desk)(ha:TkOk a)(hb:TkOk b)(h1:a.rep.shard=0)(h2:b.rep.shard=1):Contract PG F_node_Tick [.agg (encHome (homeP a b))] [] (encMsgs (beatM a b::(tickP a++tickP b))) []:=by
 have hcode:CodeOk PG (eNt knT):=envN_code
 obtain⟨fn,hf,hbd,hnt,hres⟩:∃ fn,(eNt knT).code F_node_Tick=some fn/\fn.body=some bdT/\fn.ntmps=59/\fn.results.toList=[.tmp 2]:=⟨_,rfl,by kernel_rfl,by kernel_rfl,by kernel_rfl⟩
 have ok:=okT
 rw[bdT_eq]at ok
 obtain⟨k0,ok⟩:=and_true' (show(okCode t0&&okCode (.seq t1 (.seq tX (.seq t9 (.seq tY tZ)))))=true from ok)
 obtain⟨k1,ok⟩:=and_true' (show(okCode t1&&okCode (.seq tX (.seq t9 (.seq tY tZ))))=true from ok)
 obtain⟨kX,ok⟩:=and_true' (show(okCode tX&&okCode (.seq t9 (.seq tY tZ)))=true from ok)
 obtain⟨k9,ok⟩:=and_true' (show(okCode t9&&okCode (.seq tY tZ))=true from ok)
 obtain⟨kY,kZ⟩:=and_true' (show(okCode tY&&okCode tZ)=true from ok)
 have L0:LdT t0 _ .normal _:=leads_norm envT runT mixed k0 (t_p0 a b)
 have L1:LdT t1 _ .normal _:=leads_norm envT runT mixed k1 (t_p1 a b)
 have t:=vws_sub (a:=a) (b:=b)
 have qL:∀ {r:Rep} {K:Rep->Option St},gLvS r K=K r:=fun {r K}=>gC_eq r (dec_encRep r) trivial (.refl _)
 have two:∀ (x y:List AV),LdT tX (T2 a b .nils) .normal (T3 a b [x,y])->(btC (.trl 5 [x,y])).all refFree=true->SubV (.trl 5 [x,y]) (encViews (beatV 0 a.rep++beatV 1 b.rep))->snapG depth (hget (T3 a b [x,y]).hp) (.sl 5 2 0 2 2)=some (.trl 5 [x,y],[2],true)->LdT tX (T2 a b .nils) .normal (T4 a b (beatM a b)):=by
  intro x y L hf hs hg
  have s1:LdT tX (T2 a b .nils) .normal (frz3 a b [x,y]):=Leads.frzC (b:=1) (j:=25) L rfl rfl hg rfl
  have s2:=s1.norm (l:=[1,3])
  rw[t_norm]at s2
  exact s2.hsub (t_word a b _ hs hf)
 have one:∀ (x:List AV),LdT tX (T2 a b .nils) .normal (T3 a b [x])->(btC (.trl 5 [x])).all refFree=true->SubV (.trl 5 [x]) (encViews (beatV 0 a.rep++beatV 1 b.rep))->snapG depth (hget (T3 a b [x]).hp) (.sl 5 2 0 1 1)=some (.trl 5 [x],[2],true)->LdT tX (T2 a b .nils) .normal (T4 a b (beatM a b)):=by
  intro x L hf hs hg
  have s1:LdT tX (T2 a b .nils) .normal (frz3 a b [x]):=Leads.frzC (b:=1) (j:=25) L rfl rfl hg rfl
  have s2:=s1.norm (l:=[1,3])
  rw[t_norm]at s2
  exact s2.hsub (t_word a b _ hs hf)
 have LX:LdT tX (T2 a b .nils) .normal (T4 a b (beatM a b)):=by
  have e:=t_pX a b
  rw[qL,qL,qL,h1,h2]at e
  cases g1:liveP a.rep with
  | true=>
   cases g2:liveP b.rep with
   | true=>rw[g1,g2]at e;exact two _ _ (leads_norm envT runT mixed kX e) rfl (t.1 g1 g2) rfl
   | false=>rw[g1,g2]at e;exact one _ (leads_norm envT runT mixed kX e) rfl (t.2.1 g1 g2) rfl
  | false=>
   cases g2:liveP b.rep with
   | true=>rw[g1,g2]at e;exact one _ (leads_norm envT runT mixed kX e) rfl (t.2.2.1 g1 g2) rfl
   | false=>
    rw[g1,g2]at e
    have L:LdT tX (T2 a b .nils) .normal (T2 a b .nils):=leads_norm envT runT mixed kX e
    exact L.hsub (t_word a b _ (t.2.2.2 g1 g2) rfl)
 have L9:LdT t9 _ .normal _:=leads_norm envT runT mixed k9 (t_p9 a b (beatM a b))
 have fin:∀ (T:St) (r:AV) (hp:Heap) (v:AV),LdT bdT {fr:=mkFrame 0 [.agg (encHome (homeP a b))],hp:=[]} .ret T->resultsK (eNt knT).tt T [.tmp 2] (fun vs=>cnK 0 0 (tupled vs) T.hp)=some (r,hp)->snK r hp=some v->SubV v (encMsgs (beatM a b::(tickP a++tickP b)))->Contract PG F_node_Tick [.agg (encHome (homeP a b))] [] (encMsgs (beatM a b::(tickP a++tickP b))) []:=by
  intro T r hp v L hr hs hv
  exact((contract_leads envT hcode hf hbd (hp:=[]) (.inr rfl) (by rw[hnt];exact L) (c0:=0) (Nat.zero_le _) (r:=r) (h:=hp) (by rw[hres];exact hr)).1.snapped hs).res hv
 have qT:∀ {d:Md.Desk} {K:Md.Desk->Option St},TkOk d->gTkS d K=K d:=fun {d K} h=>gC_eq d (dec_encDesk d) h (.refl _)
 have la:=tickP_len ha
 have lb:=tickP_len hb
 have mid:∀ {T T':St},LdT tY (T5 a b (beatM a b)) .normal T->LdT tZ T .ret T'->LdT bdT {fr:=mkFrame 0 [.agg (encHome (homeP a b))],hp:=[]} .ret T':=by
  intro T T' h1 h2
  rw[bdT_eq]
  exact L0.seq (L1.seq (LX.seq (L9.seq (h1.seq h2))))
 have z7:∀ n F,LdT tZ (T7 n F) .ret (T8 n F):=fun n F=>leads_nr envT runT mixed kZ (t_pZ7 n F)
 have z6:∀ m,LdT tZ (T6 m) .ret (T9 m):=fun m=>leads_nr envT runT mixed kZ (t_pZ6 m)
 have s8:∀ n F,snK (.sl 31 0 0 n 0) [.seq true 31 n F]=some (.tr 31 n F):=fun n F=>by rw[t_s8,ble_le (Nat.le_refl n),Bool.or_true,cond_true]
 have e:=t_pY a b (beatM a b)
 rw[qT ha,okL_true (by omega),cond_true]at e
 by_cases x0:(tickP a).length=0
 ·rw[AM.beq_true x0,cond_true,qT hb,okL_true (by omega),cond_true]at e
  have x0':tickP a=[]:=List.length_eq_zero_iff.1 x0
  by_cases y0:(tickP b).length=0
  ·rw[AM.beq_true y0,cond_true]at e
   have y0':tickP b=[]:=List.length_eq_zero_iff.1 y0
   refine fin _ _ _ _ (mid (leads_norm envT runT mixed kY e) (z6 _)) (t_f9 _) (t_s9 _) ?_
   rw[x0',y0']
   exact SubV.trl_of [beatM a b] rfl
  ·rw[AM.beq_false y0,cond_false,show(1+(tickP b).length).ble 1=false from ble_gt (by omega),cond_false]at e
   refine fin _ _ _ _ (mid (leads_norm envT runT mixed kY e) (z7 _ _)) (t_f8 _ _) (s8 _ _) ?_
   rw[x0',List.nil_append]
   exact(ap1_ok _ _).sub
 ·rw[AM.beq_false x0,cond_false,show(1+(tickP a).length).ble 1=false from ble_gt (by omega),cond_false,qT hb,ble_le (Nat.le_refl _),Bool.or_true,cond_true,okL_true (by omega),cond_true]at e
  by_cases y0:(tickP b).length=0
  ·rw[AM.beq_true y0,cond_true]at e
   have y0':tickP b=[]:=List.length_eq_zero_iff.1 y0
   refine fin _ _ _ _ (mid (leads_norm envT runT mixed kY e) (z7 _ _)) (t_f8 _ _) (s8 _ _) ?_
   rw[y0',List.append_nil]
   exact(ap1_ok _ _).sub
  ·rw[AM.beq_false y0,cond_false]at e
   refine fin _ _ _ _ (mid (leads_norm envT runT mixed kY e) (z7 _ _)) (t_f8 _ _) (s8 _ _) ?_
   exact(ap2_ok _ _ _).sub
structure TwoTk(h:Md.Home):Prop where
 two:Two h
 t0:TkOk (d0 h)
 t1:TkOk (d1 h)
 s0:(d0 h).rep.shard=0
 s1:(d1 h).rep.shard=1
def kNTick:Known:=.spec F_node_Tick dHm TwoTk eHm1 (fun h=>encMsgs (beatM (d0 h) (d1 h)::(tickP (d0 h)++tickP (d1 h))))
theorem kNTick_ok:kNTick.Ok PG:=Known.spec_ok fun h q=>by
 have c:=ntick_con (d0 h) (d1 h) q.t0 q.t1 q.s0 q.s1
 rw[<- two_is q.two]at c
 exact c
def kBeat2:Known:=.spec F_lockgateref23_Beat dHm Two eHm1 (fun h=>.agg (encMsg (beatM (d0 h) (d1 h))))
theorem kBeat2_ok:kBeat2.Ok PG:=Known.spec_ok fun h t=>by
 have c:=beat_con (d0 h) (d1 h)
 rw[<- two_is t]at c
 exact c
def eTc(l:List Known):Env:=envN [] [(F_lockgatelaw23_NodeTicks,0),(F_lockgatelaw23_awake,0),(F_node_New,0),(F_node_Handle,0),(F_node_Tick,0),(F_node_Dirty,0),(F_lockgateref23_Dirty,0),(F_lockgateref23_Beat,0),(F_head_Tick,0),(F_lockgateref23_Msg,0),(F_lockgateref23_Conf,0),(F_lockgatelaw23_self,0),(F_lockgateref06_SameAll,0)] [] l
def knTc:List Known:=[kAwake,kNodeNew,kRMsg,kNodeHandle,kNTick,kBeat2,kHTick,kSameAll,kDirty2,kRDirty2,kConf0,kSelf0]
theorem knTc_ok:∀ k ∈ knTc,k.Ok PG:=ak kAwake_ok (ak kNodeNew_ok (ak kRMsg_ok (ak kNodeHandle_ok (ak kNTick_ok (ak kBeat2_ok (ak kHTick_ok (ak kSameAll_ok (ak kDirty2_ok (ak kRDirty2_ok (ak kConf0_ok (ak kSelf0_ok ank)))))))))))
def bdK:Code:=bodyOf (eTc knTc) F_lockgatelaw23_NodeTicks
def u0:Code:=sub bdK [.L]
def u1:Code:=sub bdK [.R,.L]
def u3:Code:=sub bdK [.R,.R,.L]
def u4:Code:=sub bdK [.R,.R,.R,.L]
def u5:Code:=sub bdK [.R,.R,.R,.R,.L,.L]
def uX:Code:=sub bdK [.R,.R,.R,.R,.L,.R,.L,.lp 0]
def u11:Code:=sub bdK [.R,.R,.R,.R,.R,.L]
def uY:Code:=sub bdK [.R,.R,.R,.R,.R,.R,.L]
def uZ:Code:=sub bdK [.R,.R,.R,.R,.R,.R,.R]
theorem bdK_eq:bdK=.seq u0 (.seq u1 (.seq u3 (.seq u4 (.seq (.seq u5 (.block 0 (.loop uX))) (.seq u11 (.seq uY uZ)))))):=by kernel_rfl
def u6:Code:=sub uX [.L]
def u8:Code:=sub uX [.R,.L,.L,.L]
def u10:Code:=sub uX [.R,.L,.L,.R]
def u7:Code:=sub uX [.R,.R]
theorem uX_eq:uX=.seq u6 (.seq (.block 1 (.seq u8 u10)) u7):=by kernel_rfl
def evU(x:Code)(K:AX->St->Option St)(s:St):Option St:=evC (eTc knTc) (evFn (eTc knTc) 9) F_lockgatelaw23_NodeTicks 90 9 0 0 x K s
def SK(h:Md.Home)(l:List NStp)(i:Int):St:={fr:=[(0,encNS l),(3,.ptr 0 0 0),(4,.ptr 1 0 0),(5,.int .i64 i)],hp:=[.arr true 15 [encConf K0],.arr true 3 [encHome h]]}
theorem k_0(l:List NStp):evU u0 (kAt .normal (norm 0 [0])) {fr:=mkFrame 0 [encNS l],hp:=[]}=some (SQ0 l):=by kernel_rfl
theorem k_1(l:List NStp):evU u1 (kAt .normal (norm 0 [0])) (SQ0 l)=gUs (bif decide (60<(l.length:Int))then gUs none else some (SQ0 l)):=by kernel_rfl
theorem k_1r(l:List NStp):evU u1 (kAt .ret (selS [2])) (SQ0 l)=gUs (bif decide (60<(l.length:Int))then gUs (some ST)else none):=by kernel_rfl
theorem k_3(l:List NStp):evU u3 (kAt .normal (norm 0 [0,3])) (SQ0 l)=gUs (some (SQ3 l)):=by kernel_rfl
theorem k_4(l:List NStp):evU u4 (kAt .normal (norm 0 [0,3,4])) (SQ3 l)=gUs (gC (fun _=>()) (fun _=>True) (fun _=>[.agg (encMember ⟨2,1⟩),.agg (encConf K0)]) [.agg (encMember ⟨2,1⟩),.agg (encConf K0)] fun _=>some (SQ4 l)):=by kernel_rfl
theorem k_5(l:List NStp):evU u5 (kAt .normal (norm 0 [0,3,4,5])) (SQ4 l)=some (SK home0 l 0):=by kernel_rfl
theorem k_6(h:Md.Home)(l:List NStp)(i:Int):evU u6 (kAt .normal (norm 0 [0,3,4,5])) (SK h l i)=bif decide (i<(l.length:Int))then some (SK h l i)else none:=by kernel_rfl
theorem k_6x(h:Md.Home)(l:List NStp)(i:Int):evU u6 (kAt (.exit 0) (selS [0,3,4,5])) (SK h l i)=bif decide (i<(l.length:Int))then none else some (SK h l i):=by kernel_rfl
def lenB(l:List NStp)(i:Int):Bool:=decide (60<IntKind.i64.wrap (IntKind.i64.wrap (((l.getD i.toNat default).o.key.length:Int)+((l.getD i.toNat default).o.val.length:Int))+((l.getD i.toNat default).o.old.length:Int)))
theorem k_8(h:Md.Home)(l:List NStp)(i:Int):evU u8 (kAt .normal (norm 0 [0,3,4,5])) (SK h l i)=rg i l.length (rg i l.length (rg i l.length (bif lenB l i then none else some (SK h l i)))):=by kernel_rfl
theorem k_8r(h:Md.Home)(l:List NStp)(i:Int):evU u8 (kAt .ret (selS [2])) (SK h l i)=rg i l.length (rg i l.length (rg i l.length (bif lenB l i then some {fr:=[(2,.bool true)],hp:=(SK h l i).hp}else none))):=by kernel_rfl
theorem k_10(h:Md.Home)(l:List NStp)(i:Int):evU u10 (kAt .normal (norm 0 [0,3,4,5])) (SK h l i)=rg i l.length (gC (fun a=>decNStp (argC a 0)) NsOk (fun s=>[.agg (encNStp s)]) [.agg (encNStp (l.getD i.toNat default))] fun s=>
 gC dHCM NhOk eHCM [.agg (encHome h),.agg (encConf K0),.agg (encMsg (msgP s))] fun p=>some (SK (handN p).1 l i)):=by kernel_rfl
theorem k_7(h:Md.Home)(l:List NStp)(i:Int):evU u7 (kAt .normal (norm 0 [0,3,4,5])) (SK h l i)=some (SK h l (IntKind.i64.wrap (i+1))):=by kernel_rfl
def U4(a b:Md.Desk)(m:Msg):St:={fr:=[(4,.ptr 0 0 0),(6,.sl 31 1 0 1 1)],hp:=[.arr true 3 [encHome (homeP a b)],.arr true 31 [encMsg m]]}
def U7(a b:Md.Desk)(n:Nat)(F:Nat->List AV):St:={fr:=[(4,.ptr 0 0 0),(6,.sl 31 1 0 n 0)],hp:=[.arr true 3 [encHome (homeP a b)],.seq true 31 n F]}
theorem k_11(a b:Md.Desk)(l:List NStp)(i:Int):evU u11 (kAt .normal (norm 0 [4,6])) (SK (homeP a b) l i)=gC dHm Two eHm1 [.agg (encHome (homeP a b))] fun h=>some (U4 a b (beatM (d0 h) (d1 h))):=by kernel_rfl
theorem k_Y(a b:Md.Desk)(m:Msg):evU uY (kAt .normal (norm 0 [4,6])) (U4 a b m) =
 gTkS a fun x=>bif okL (1+(tickP x).length)then
  bif(tickP x).length.beq 0 then gTkS b fun y=>bif okL (1+(tickP y).length)then bif(tickP y).length.beq 0 then some (U4 a b m)else bif(1+(tickP y).length).ble 1 then none else some (U7 a b (1+(tickP y).length) (ap1 m (tickP y)))else none
  else bif(1+(tickP x).length).ble 1 then none else gTkS b fun y=>bif(1+(tickP x).length).beq 0||(1+(tickP x).length).ble (1+(tickP x).length)then bif okL (1+(tickP x).length+(tickP y).length)then
   bif(tickP y).length.beq 0 then some (U7 a b (1+(tickP x).length) (ap1 m (tickP x)))else some (U7 a b (1+(tickP x).length+(tickP y).length) (ap2 m (tickP x) (tickP y)))else none else none
 else none:=by kernel_rfl
def UE(b:Bool):St:={fr:=[(2,.bool b)],hp:=[]}
def gSAS(x y:AV)(K:Option St):Option St:=gC (dL decMsg) MsgsOk (fun l=>[encMsgs l,encMsgs l]) [x,y] fun _=>K
def homL(h:Md.Home):List Msg:=beatM (d0 h) (d1 h)::(tickP (d0 h)++tickP (d1 h))
def gHm(P:Md.Home->Prop)(h:Md.Home)(K:Md.Home->Option St):Option St:=gC dHm P eHm1 [.agg (encHome h)] K
def dirtH(h:Md.Home):Int:=dirtP (d0 h) (d1 h)
theorem k_Z7(a b:Md.Desk)(n:Nat)(F:Nat->List AV):evU uZ (kAt .ret (norm 0 [2])) (U7 a b n F)=gHm TwoTk (homeP a b) fun h=>bif(n.beq 0||n.ble n)&&true then gSAS (encMsgs (homL h)) (.tr 31 n F) (gHm Two (homeP a b) fun x=>gHm Two (homeP a b) fun y=>some (UE (decide (dirtH x=dirtH y))))else none:=by kernel_rfl
theorem k_Z4(a b:Md.Desk)(m:Msg):evU uZ (kAt .ret (norm 0 [2])) (U4 a b m)=gHm TwoTk (homeP a b) fun h=>gSAS (encMsgs (homL h)) (.trl 31 [encMsg m]) (gHm Two (homeP a b) fun x=>gHm Two (homeP a b) fun y=>some (UE (decide (dirtH x=dirtH y)))):=by kernel_rfl
abbrev LdU(c:Code)(s:St)(e:AX)(s':St):Prop:=Leads (fun Q=>c.wp PG Q) 90 0 s e s'
theorem envU:EnvOk PG (eTc knTc):=envN_ok knTc_ok
theorem runU:RunOk PG (evFn (R:=St) (eTc knTc) 9):=ev_ok envU envN_code mixed 9
theorem okUX:okCode uX=true:=by kernel_rfl
theorem okU:okCode bdK=true:=by kernel_rfl
abbrev SKD(ds:Nat->Md.Desk)(l:List NStp)(i:Nat):St:=SK (homeD ds) l (i:Int)
theorem lenB_eq(l:List NStp)(i:Nat):lenB l (i:Nat)=decide (60<lenS (l.getD i default)):=by unfold lenB lenS;rw[Int.toNat_natCast]
theorem roundU{B:Nat}{ds:Nat->Md.Desk}{l:List NStp}{i:Nat}(hi:i<l.length)(hl:l.length<=60)(hs:StpOk (l.getD i default))(h60:¬ 60<lenS (l.getD i default))(h:DsOk B ds)(hB:B+30<=8000) :
  LdU uX (SKD ds l i) .normal (SKD (nxD ds (l.getD i default)) l (i+1)):=by
 have hb:=lenB_eq l i
 obtain⟨s,hse⟩:∃ s,l.getD i default=s:=⟨_,rfl⟩
 rw[hse]at hs h60 hb ⊢
 have ok:=okUX
 rw[uX_eq]at ok
 obtain⟨k6,ok⟩:=and_true' (show(okCode u6&&okCode (.seq (.block 1 (.seq u8 u10)) u7))=true from ok)
 obtain⟨ok,k7⟩:=and_true' (show(okCode (.seq u8 u10)&&okCode u7)=true from ok)
 obtain⟨k8,k10⟩:=and_true' (show(okCode u8&&okCode u10)=true from ok)
 have L6:LdU u6 (SKD ds l i) .normal (SKD ds l i):=leads_norm envU runU mixed k6 ((k_6 _ _ _).trans (by rw[decide_eq_true (by omega)];rfl))
 have L8:LdU u8 (SKD ds l i) .normal (SKD ds l i):=leads_norm envU runU mixed k8 ((k_8 _ _ _).trans (by
  rw[rg_eq hi,rg_eq hi,rg_eq hi,hb,decide_eq_false h60];rfl))
 have q11:∀ {K:NStp->Option St},gC (fun a=>decNStp (argC a 0)) NsOk (fun s=>[.agg (encNStp s)]) [.agg (encNStp s)] K=K s:=fun {K}=>gC_eq s rfl hs.1 (.refl _)
 have hnh:=homeD_nh h hs hB
 have q12:∀ {K:HCM->Option St},gC dHCM NhOk eHCM [.agg (encHome (homeD ds)),.agg (encConf K0),.agg (encMsg (msgP s))] K=K (homeD ds,K0,msgP s):=fun {K}=>gC_eq (homeD ds,K0,msgP s) (dHCM_eq (homeD ds,K0,msgP s)) hnh (.refl _)
 have hn:(handN (homeD ds,K0,msgP s)).1=homeD (nxD ds s):=by
  rcases handN_is (ds:=ds) hs with ⟨_,en,e0⟩ | ⟨_,en⟩
  ·rw[en,e0]
  ·rw[en]
 have L10:LdU u10 (SKD ds l i) .normal (SKD (nxD ds s) l i):=leads_norm envU runU mixed k10 ((k_10 _ _ _).trans (by
  rw[rg_eq hi,Int.toNat_natCast,hse,q11,q12,hn]))
 have hw:IntKind.i64.wrap ((i:Int)+1)=((i+1:Nat):Int):=wrapS (by omega)
 have L7:LdU u7 (SKD (nxD ds s) l i) .normal (SKD (nxD ds s) l (i+1)):=leads_norm envU runU mixed k7 ((k_7 _ _ _).trans (by rw[hw]))
 rw[uX_eq]
 exact L6.seq ((Leads.block_n (L8.seq L10)).seq L7)
theorem tk_loop{l:List NStp}(hs:∀ s ∈ l,StpOk s)(hl:l.length<=60):(LdU (.loop uX) (SKD (dsAt l 0) l 0) (.exit 0) (SKD (dsAt l l.length) l l.length)) \/ ∃ ds,∃ n:Nat,LdU (.loop uX) (SKD (dsAt l 0) l 0) .ret {fr:=[(2,.bool true)],hp:=(SKD ds l n).hp}:=by
 have ok:=okUX
 rw[uX_eq]at ok
 obtain⟨k6,ok⟩:=and_true' (show(okCode u6&&okCode (.seq (.block 1 (.seq u8 u10)) u7))=true from ok)
 obtain⟨ok,k7⟩:=and_true' (show(okCode (.seq u8 u10)&&okCode u7)=true from ok)
 obtain⟨k8,k10⟩:=and_true' (show(okCode u8&&okCode u10)=true from ok)
 rcases first_long l with h60 | ⟨n,hn,hn60,h60⟩
 ·left
  refine Leads.loop (by simp) (n:=l.length) (fun i=>SKD (dsAt l i) l i) (fun j hj=>?_) ?_
  ·exact roundU hj hl (hs _ (getD_mem (z:=(default:NStp)) hj)) (h60 j hj) (dsAt_ok hs hl j (by omega)) (by omega)
  ·rw[uX_eq]
   exact Leads.seq_exit (leads_sl (e0:=.exit 0) envU runU mixed k6 ((k_6x _ _ _).trans (by rw[decide_eq_false (by omega)];rfl)))
 ·right
  refine⟨dsAt l n,n,Leads.loop (by simp) (n:=n) (fun i=>SKD (dsAt l i) l i) (fun j hj=>?_) ?_⟩
  ·exact roundU (by omega) hl (hs _ (getD_mem (z:=(default:NStp)) (by omega))) (h60 j hj) (dsAt_ok hs hl j (by omega)) (by omega)
  ·rw[uX_eq]
   have L6:LdU u6 (SKD (dsAt l n) l n) .normal (SKD (dsAt l n) l n):=leads_norm envU runU mixed k6 ((k_6 _ _ _).trans (by rw[decide_eq_true (by omega)];rfl))
   refine L6.seq (Leads.seq_ret (Leads.block_ret (Leads.seq_ret (leads_sl (e0:=.ret) envU runU mixed k8 ((k_8r _ _ _).trans ?_)))))
   rw[rg_eq hn,rg_eq hn,rg_eq hn,lenB_eq,decide_eq_true hn60];rfl
theorem tick_ok{t:Int}{B:Nat}{d:Md.Desk}(h:DI t B d)(hB:B<=8000):TkOk d/\(tickP d).length<=B+1 /\ ∀ x ∈ tickP d,MsgOk x:=by
 have hpo:=h.pout
 have hal:=h.asks
 have ha:againP d.rep=[]:=h.rep.again
 refine⟨⟨h.rep.ag,by omega,by omega,by rw[ha];exact Nat.zero_le _⟩,?_,?_⟩
 ·unfold tickP
  have:=flushMP_len (d.pump,d.rep)
  rw[ha,List.nil_append,List.length_append,List.length_map];omega
 ·intro x hx
  unfold tickP at hx
  rw[ha,List.nil_append]at hx
  rcases List.mem_append.1 hx with hx | hx
  ·exact flushMP_ok h.rep h.pnum hpo.1 (fun e he=>(hpo.2 e he).2) x hx
  ·obtain⟨a,ha,rfl⟩:=List.mem_map.1 hx
   obtain⟨a1,a2⟩:=h.anum a ha
   exact readM_ok h.rep a1 a2
theorem beat_ok{B:Nat}{a b:Md.Desk}(ha:DI 0 B a)(hb:DI 1 B b):MsgOk (beatM a b):=by
 have z:VInt ⟨0,0⟩:=vi0
 have vw:∀ {t:Int} {d:Md.Desk},DI t B d->0<=t->t<=1 -> ∀ x ∈ beatV t d.rep,ViewOk x:=by
  intro t d hd h0 h1 x hx
  unfold beatV at hx
  cases hl:liveP d.rep with
  | false=>rw[hl]at hx;cases hx
  | true=>
   rw[hl]at hx
   rw[List.mem_singleton.1 hx]
   have he:=hd.rep.ep
   have hp:=hd.rep.ph
   exact⟨i64u (n:=t) h0 (by omega),i64u (n:=d.rep.view.epoch) he.1 (by omega),i640,i64u (n:=d.rep.view.phase) (by omega) (by omega),mems0⟩
 have vl:∀ (t:Int) (r:Rep),(beatV t r).length<=1:=fun t r=>by unfold beatV;cases liveP r <;> simp
 refine⟨fun n hn=>?_,Nat.zero_le _,Nat.zero_le _,z,z,op0_ok,ent_nil,mems0,⟨?_,fun x hx=>?_⟩,⟨z,z,i640,ent_nil,⟨Nat.zero_le _,fun x hx=>by cases hx⟩⟩⟩
 ·have e:msgN (beatM a b)=[7,2,1,0,1,0,0,0,0,0,0,0]:=rfl
  rw[e]at hn
  simp only[List.mem_cons,List.not_mem_nil,or_false]at hn
  rcases hn with rfl | rfl | rfl | rfl | rfl | rfl | rfl | rfl | rfl | rfl | rfl | rfl <;> exact i64u (by omega) (by omega)
 ·have h1:=vl 0 a.rep
  have h2:=vl 1 b.rep
  show(beatV 0 a.rep++beatV 1 b.rep).length<=_
  rw[List.length_append]
  omega
 ·rcases List.mem_append.1 (show x ∈ beatV 0 a.rep++beatV 1 b.rep from hx)with hx | hx
  ·exact vw ha (by omega) (by omega) x hx
  ·exact vw hb (by omega) (by omega) x hx
theorem k_fb(h:Md.Home)(l:List NStp)(i:Int):resultsK (eTc knTc).tt {fr:=[(2,.bool true)],hp:=(SK h l i).hp} [.tmp 2] (fun vs=>cnK 0 0 (tupled vs) (SK h l i).hp)=some (.bool true,[]):=by kernel_rfl
theorem k_fe:resultsK (eTc knTc).tt (UE true) [.tmp 2] (fun vs=>cnK 0 0 (tupled vs) (UE true).hp)=some (.bool true,[]):=by kernel_rfl
theorem k_f0:resultsK (eTc knTc).tt ST [.tmp 2] (fun vs=>cnK 0 0 (tupled vs) ST.hp)=some (.bool true,[]):=by kernel_rfl
theorem tk_con(l:List NStp)(hs:∀ s ∈ l,StpOk s):Contract PG F_lockgatelaw23_NodeTicks [encNS l] [] (.bool true) []:=by
 have hcode:CodeOk PG (eTc knTc):=envN_code
 obtain⟨fn,hf,hb,hnt,hres⟩:∃ fn,(eTc knTc).code F_lockgatelaw23_NodeTicks=some fn/\fn.body=some bdK/\fn.ntmps=90/\fn.results.toList=[.tmp 2]:=⟨_,rfl,by kernel_rfl,by kernel_rfl,by kernel_rfl⟩
 have ok:=okU
 rw[bdK_eq]at ok
 obtain⟨ka0,ok⟩:=and_true' (show(okCode u0&&okCode (.seq u1 (.seq u3 (.seq u4 (.seq (.seq u5 (.block 0 (.loop uX))) (.seq u11 (.seq uY uZ)))))))=true from ok)
 obtain⟨ka1,ok⟩:=and_true' (show(okCode u1&&okCode (.seq u3 (.seq u4 (.seq (.seq u5 (.block 0 (.loop uX))) (.seq u11 (.seq uY uZ))))))=true from ok)
 obtain⟨ka3,ok⟩:=and_true' (show(okCode u3&&okCode (.seq u4 (.seq (.seq u5 (.block 0 (.loop uX))) (.seq u11 (.seq uY uZ)))))=true from ok)
 obtain⟨ka4,ok⟩:=and_true' (show(okCode u4&&okCode (.seq (.seq u5 (.block 0 (.loop uX))) (.seq u11 (.seq uY uZ))))=true from ok)
 obtain⟨ok5,ok⟩:=and_true' (show(okCode (.seq u5 (.block 0 (.loop uX)))&&okCode (.seq u11 (.seq uY uZ)))=true from ok)
 obtain⟨ka5,_⟩:=and_true' (show(okCode u5&&okCode uX)=true from ok5)
 obtain⟨k11,ok⟩:=and_true' (show(okCode u11&&okCode (.seq uY uZ))=true from ok)
 obtain⟨kY,kZ⟩:=and_true' (show(okCode uY&&okCode uZ)=true from ok)
 have qu:∀ {K:Option St},gUs K=K:=fun {K}=>gC_eq () rfl trivial (.refl _)
 have qh:∀ {K:Option St},gC (fun _=>()) (fun _=>True) (fun _=>[AV.agg (encMember ⟨2,1⟩),.agg (encConf K0)]) [.agg (encMember ⟨2,1⟩),.agg (encConf K0)] (fun _=>K)=K:=fun {K}=>gC_eq () rfl trivial (.refl _)
 have L0:LdU u0 {fr:=mkFrame 0 [encNS l],hp:=[]} .normal (SQ0 l):=leads_norm envU runU mixed ka0 (k_0 l)
 have fin:∀ (T:St),LdU bdK {fr:=mkFrame 0 [encNS l],hp:=[]} .ret T->resultsK (eTc knTc).tt T [.tmp 2] (fun vs=>cnK 0 0 (tupled vs) T.hp)=some (.bool true,[])->Contract PG F_lockgatelaw23_NodeTicks [encNS l] [] (.bool true) []:=by
  intro T L hr
  exact(contract_leads envU hcode hf hb (hp:=[]) (.inr rfl) (by rw[hnt];exact L) (c0:=0) (Nat.zero_le _) (r:=.bool true) (h:=[]) (by rw[hres];exact hr)).1
 by_cases hl:l.length<=60
 ·have L1:LdU u1 (SQ0 l) .normal (SQ0 l):=leads_norm envU runU mixed ka1 ((k_1 l).trans (by rw[qu,decide_eq_false (show ¬ (60:Int)<(l.length:Int) by omega)];rfl))
  have L3:=leads_norm envU runU mixed ka3 ((k_3 l).trans qu)
  have L4:=leads_norm envU runU mixed ka4 ((k_4 l).trans (by rw[qu,qh]))
  have L5:LdU u5 (SQ4 l) .normal (SKD (dsAt l 0) l 0):=leads_norm envU runU mixed ka5 (k_5 l)
  rcases tk_loop hs hl with LL | ⟨ds,n,LL⟩
  ·obtain⟨ds,hds⟩:∃ ds,dsAt l l.length=ds:=⟨_,rfl⟩
   have hD:=dsAt_ok hs hl l.length (Nat.le_refl _)
   rw[hds]at LL hD
   obtain⟨a,hae⟩:∃ a,ds 0=a:=⟨_,rfl⟩
   obtain⟨b,hbe⟩:∃ b,ds 1=b:=⟨_,rfl⟩
   have hH:homeD ds=homeP a b:=by unfold homeD;rw[hae,hbe]
   obtain⟨hA,hB⟩:=hD
   rw[hae]at hA
   rw[hbe]at hB
   have h8:30*l.length<=8000:=by omega
   obtain⟨ta,la,ma⟩:=tick_ok hA h8
   obtain⟨tb,lb,mb⟩:=tick_ok hB h8
   have hb0:=beat_ok hA hB
   unfold SKD at LL
   rw[hH]at LL
   have two:Two (homeP a b):=⟨rfl,rfl⟩
   have tw:TwoTk (homeP a b):=⟨two,ta,tb,hA.rep.shard,hB.rep.shard⟩
   have qH:∀ {P:Md.Home->Prop} {K:Md.Home->Option St},P (homeP a b)->gHm P (homeP a b) K=K (homeP a b):=fun {P K} h=>gC_eq (homeP a b) (dec_encHome _) h (.refl _)
   have qb:∀ {K:Md.Home->Option St},gC dHm Two eHm1 [.agg (encHome (homeP a b))] K=K (homeP a b):=fun {K}=>gC_eq (homeP a b) (dec_encHome _) two (.refl _)
   have L11:LdU u11 (SK (homeP a b) l (l.length:Nat)) .normal (U4 a b (beatM a b)):=leads_norm envU runU mixed k11 ((k_11 a b l _).trans (by rw[qb];rfl))
   have qT:∀ {d:Md.Desk} {K:Md.Desk->Option St},TkOk d->gTkS d K=K d:=fun {d K} h=>gC_eq d (dec_encDesk d) h (.refl _)
   have hL:homL (homeP a b)=beatM a b::(tickP a++tickP b):=rfl
   have hms:MsgsOk (homL (homeP a b)):=by
    rw[hL]
    refine⟨?_,fun x hx=>?_⟩
    ·rw[List.length_cons,List.length_append];unfold LB;omega
    ·rcases List.mem_cons.1 hx with rfl | hx
     ·exact hb0
     ·rcases List.mem_append.1 hx with hx | hx
      ·exact ma x hx
      ·exact mb x hx
   have qS:∀ {v:AV} {K:Option St},SubV v (encMsgs (homL (homeP a b)))->gSAS (encMsgs (homL (homeP a b))) v K=K:=fun {v K} hv=>gC_eq (homL (homeP a b)) (decMsgs _) hms (.cons (.refl _) (.cons hv .nil))
   have z7:∀ {n F},Holds n F (homL (homeP a b))->LdU uZ (U7 a b n F) .ret (UE true):=fun {n F} h=>leads_nr envU runU mixed kZ ((k_Z7 a b n F).trans (by
    rw[qH tw,ble_le (Nat.le_refl n),Bool.or_true,Bool.and_true,cond_true,qS h.sub,qH two,qH two,decide_eq_true rfl]))
   have fin2:∀ {T:St},LdU uY (U4 a b (beatM a b)) .normal T->LdU uZ T .ret (UE true)->Contract PG F_lockgatelaw23_NodeTicks [encNS l] [] (.bool true) []:=by
    intro T h1 h2
    exact fin _ (by rw[bdK_eq];exact L0.seq (L1.seq (L3.seq (L4.seq ((L5.seq LL.block).seq (L11.seq (h1.seq h2))))))) k_fe
   have e:=k_Y a b (beatM a b)
   rw[qT ta,okL_true (by omega),cond_true]at e
   by_cases x0:(tickP a).length=0
   ·rw[AM.beq_true x0,cond_true,qT tb,okL_true (by omega),cond_true]at e
    have x0':tickP a=[]:=List.length_eq_zero_iff.1 x0
    by_cases y0:(tickP b).length=0
    ·rw[AM.beq_true y0,cond_true]at e
     have y0':tickP b=[]:=List.length_eq_zero_iff.1 y0
     refine fin2 (leads_norm envU runU mixed kY e) (leads_nr envU runU mixed kZ ((k_Z4 a b (beatM a b)).trans ?_))
     rw[qH tw,qS (by rw[hL,x0',y0'];exact SubV.trl_of [beatM a b] rfl),qH two,qH two,decide_eq_true rfl]
    ·rw[AM.beq_false y0,cond_false,show(1+(tickP b).length).ble 1=false from ble_gt (by omega),cond_false]at e
     refine fin2 (leads_norm envU runU mixed kY e) (z7 ?_)
     rw[hL,x0',List.nil_append]
     exact ap1_ok _ _
   ·rw[AM.beq_false x0,cond_false,show(1+(tickP a).length).ble 1=false from ble_gt (by omega),cond_false,qT tb,ble_le (Nat.le_refl _),Bool.or_true,cond_true,okL_true (by omega),cond_true]at e
    by_cases y0:(tickP b).length=0
    ·rw[AM.beq_true y0,cond_true]at e
     have y0':tickP b=[]:=List.length_eq_zero_iff.1 y0
     refine fin2 (leads_norm envU runU mixed kY e) (z7 ?_)
     rw[hL,y0',List.append_nil]
     exact ap1_ok _ _
    ·rw[AM.beq_false y0,cond_false]at e
     refine fin2 (leads_norm envU runU mixed kY e) (z7 ?_)
     rw[hL]
     exact ap2_ok _ _ _
  ·exact fin _ (by rw[bdK_eq];exact L0.seq (L1.seq (L3.seq (L4.seq (Leads.seq_ret (L5.seq (Leads.block_ret LL))))))) (k_fb _ _ _)
 ·have L1:LdU u1 (SQ0 l) .ret ST:=leads_sl (e0:=.ret) envU runU mixed ka1 ((k_1r l).trans (by rw[qu,decide_eq_true (show(60:Int)<(l.length:Int) by omega),cond_true,qu]))
  exact fin _ (by rw[bdK_eq];exact L0.seq (Leads.seq_ret L1)) k_f0
theorem nodeTicks_ok:LawC PG 9 F_lockgatelaw23_NodeTicks [87]:=by
 intro avs h
 obtain⟨l,h1,h2⟩:=steps_args h
 exact(tk_con l h1).args h2
end Go.Hd
end
