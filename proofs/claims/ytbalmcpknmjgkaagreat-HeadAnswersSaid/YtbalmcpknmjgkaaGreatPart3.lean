/- Part 3 of the texts that the proof needs: the abstract machine, plain laws, contracts of the program's functions. No statement is claimed here. -/
import Derived.Test.YtbalmcpknmjgkaaGreatPart2
import Derived.Test.YtbalmcpknmjgkaaGreatProg
import Derived.KernelRfl
set_option linter.unusedVariables false
set_option linter.unusedSimpArgs false
noncomputable section
open Go Go.AM Go.Md Go.Fl
namespace Go.Wk
def R8(r:Rep)(m:Member):Msg:={P9 r m 11 with gen:=r.view.gen,chain:=r.view.chain,image:=⟨r.tail.floor,r.tail.last,r.view.gen,r.tail.log,r.seen⟩}
def T3(r:Rep)(m:Member):Msg:={P9 r m 13 with floor:=r.tail.floor,entries:=r.tail.log.filter fun e=>AH r.got e.ver}
def QN(r:Rep):List Member->List Bool->List Msg
 | m::ms,s::ss=>bif s then QN r ms ss else R8 r m::QN r ms ss
 | _,_=>[]
def rB(r:Rep):List Msg:=match FJ r.view.chain r.self 1 with
 | none=>[]
 | some m=>[T3 r m]
def AD(r:Rep):List Msg:=bif MM r then QN r r.view.chain r.synced else bif Jm r then rB r++XO r else []
def putP:List Seen->Seen->List Seen
 | [],s=>[s]
 | a::l,s=>bif decide (a.num<s.num)then s::l else a::l
def pushR(r:Rep)(e:Entry):Rep:={r with tail:=⟨r.tail.floor,e.ver,r.tail.log++[e]⟩,seen:=putP r.seen (Ht e)}
def pushP(r:Rep)(e:Entry):Rep × Bool:=bif AH r.tail.last e.ver then(pushR r e,true)else(r,false)
def XP(t:Tail)(v:Ver):Tail:=⟨BB t.floor v,BB t.last v,t.log.filter fun e=>AH v e.ver⟩
def Jw(r:Rep)(v:Ver):Rep:={r with tail:=XP r.tail v}
def Lf(r:Rep):List Entry->Rep
 | []=>r
 | e::l=>Lf (bif decide (nu e.ver=nu r.tail.last+1)then(pushP r e).1 else r) l
def Io(r:Rep)(m:Msg):Bool:=decide (r.view.epoch<m.epoch)&&decide (r.frozen<=m.epoch)
def YK(r:Rep)(m:Msg):Msg:=⟨9,r.self.node,m.src,0,r.self.boot,r.shard,m.epoch,0,0,0,r.view.epoch,0,!decide (r.view.phase=0),false,[],[],r.tail.last,⟨0,0⟩,⟨0,[],[],[],false⟩,[],[],[],⟨⟨0,0⟩,⟨0,0⟩,0,[],[]⟩⟩
def Vj(r:Rep)(m:Msg):Rep × List Msg:=bif Io r m then({r with frozen:=m.epoch},[YK r m])else(r,[])
def tail0(e:Int):Tail:=⟨vr e.toNat 0,vr e.toNat 0,[]⟩
def lI(r:Rep)(m:Msg):Tail:=bif m.fresh then tail0 m.epoch else r.tail
def KR(r:Rep)(m:Msg):Rep:=
 {r with view:=⟨m.shard,m.epoch,m.gen,bif decide (m.chain.length=1)then 3 else 2,m.chain⟩,synced:=true::List.replicate (m.chain.length - 1) false,tail:=lI r m,seen:=bif m.fresh then []else r.seen,got:=(lI r m).last}
def Vk(r:Rep)(m:Msg):Bool:=Io r m&&(HF m.chain r.self&&(m.fresh||(!decide (r.view.phase=0)&&decide (m.epoch=r.frozen))))
def zR(r:Rep)(m:Msg):Rep × List Msg:=bif Vk r m then(KR r m,AD (KR r m))else(r,[])
def insR(r:Rep)(m:Msg):Rep:=bif Io r m then {r with view:=⟨m.shard,m.epoch,m.gen,3,m.chain⟩,tail:=⟨m.image.floor,m.image.last,m.image.log⟩,seen:=m.image.seen,got:=m.image.last,synced:=[]}else r
def alZ(r:Rep)(m:Msg):Rep × List Msg:=
 bif decide (0<idx m.chain r.self)then(insR r m,bif Le (insR r m)&&decide (m.epoch=(insR r m).view.epoch)then [P9 (insR r m) ⟨m.src,m.sboot⟩ 12]else [])else(r,[])
def who(m:Msg):Member:=⟨m.src,m.sboot⟩
def zS(r:Rep)(m:Msg):List Bool:=r.synced.set (idx r.view.chain (who m)).toNat true
def al0(r:Rep)(m:Msg):Rep:=bif(zS r m).all id then {r with synced:=zS r m,view:={r.view with phase:=3},got:=r.tail.last}else {r with synced:=zS r m}
def al1(r:Rep)(m:Msg):Rep × List Msg:=
 bif MM r&&(decide (m.epoch=r.view.epoch)&&decide (0<=idx r.view.chain (who m)))then(al0 r m,[])else(r,[])
def agR(r:Rep)(m:Msg):Rep:=bif AH (Lf r m.entries).tail.last m.floor then Lf r m.entries else Jw (Lf r m.entries) m.floor
def acS(r:Rep)(m:Msg)(d:Int):Bool:=Jm r&&(decide (m.epoch=r.view.epoch)&&decide (FJ r.view.chain r.self d=some (who m)))
def al2(r:Rep)(m:Msg):Rep × List Msg:=bif acS r m (-1)then(agR r m,AD (agR r m))else(r,[])
def agS(r:Rep)(m:Msg):Rep:=bif AH r.tail.last m.ver then r else {r with got:=BB r.got m.ver}
def al3(r:Rep)(m:Msg):Rep × List Msg:=bif acS r m 1 then(agS r m,XO (agS r m))else(r,[])
def QO(r:Rep)(m:Msg):Bool:=decide (m.dst=r.self.node)&&(decide (m.boot=r.self.boot)&&decide (m.shard=r.shard))
def lJ(r:Rep)(m:Msg):Rep × List Msg:=
 bif decide (m.kind=8)then Vj r m else bif decide (m.kind=10)then zR r m else bif decide (m.kind=11)then alZ r m else
 bif decide (m.kind=12)then al1 r m else bif decide (m.kind=13)then al2 r m else bif decide (m.kind=14)then al3 r m else(r,[])
def GH(r:Rep)(m:Msg):Rep × List Msg:=bif QO r m then lJ r m else(r,[])
def FC(a b:Ver):Prop:=AH b a=false
theorem R9{a b:Ver}:FC a b ↔ ep a<ep b\/(ep a=ep b/\nu a<=nu b):=by
 unfold FC AH
 by_cases h:ep b=ep a
 ·rw[decide_eq_true h,cond_true]
  constructor
  ·intro h2;have:=of_decide_eq_false h2;omega
  ·intro h2;exact decide_eq_false (by omega)
 ·rw[decide_eq_false h,cond_false]
  constructor
  ·intro h2;have:=of_decide_eq_false h2;omega
  ·intro h2;exact decide_eq_false (by omega)
theorem Mw{a b:Ver}:AH a b=true ↔ ep a<ep b\/(ep a=ep b/\nu a<nu b):=by
 unfold AH
 by_cases h:ep a=ep b
 ·rw[decide_eq_true h,cond_true,decide_eq_true_iff];omega
 ·rw[decide_eq_false h,cond_false,decide_eq_true_iff];omega
theorem FC.refl(a:Ver):FC a a:=R9.2 (by omega)
theorem FC.trans{a b c:Ver}(h:FC a b)(h':FC b c):FC a c:=by
 rw[R9]at *;omega
theorem Wz{a b:Ver}(h:AH a b=true):FC a b:=by
 rw[Mw]at h;rw[R9];omega
theorem aep{a b:Ver}(h:AH a b=false):FC b a:=h
theorem agT(a b:Ver):FC a (BB a b):=by
 unfold BB
 cases h:AH a b with
 | true=>exact Wz h
 | false=>exact FC.refl a
theorem aeq(a b:Ver):BB a b=a\/BB a b=b:=by
 unfold BB;cases AH a b <;> simp
theorem zT:(⟨0,0⟩:Ver)=vr 0 0:=by decide
theorem YL{l:List Member}{m:Member}(h:HF l m=true):∃ r,l=m::r:=by
 cases l with
 | nil=>cases h
 | cons x r=>exact⟨r,by rw[of_decide_eq_true (show decide (x=m)=true from h)]⟩
theorem WA{r:Rep}{m:Msg}:Io r m=true ↔ r.view.epoch<m.epoch/\r.frozen<=m.epoch:=by
 unfold Io;rw[Bool.and_eq_true,decide_eq_true_iff,decide_eq_true_iff]
end Go.Wk
end
noncomputable section
set_option linter.unusedVariables false
namespace Go.AM
section
variable {X:Type} (sz:Nat) (e:X->List AV) (z:X)
def Ip(l:List X):Nat->List AV:=fun i=>e (l.getD i (l.getD 0 z))
def gSl(b:Nat):List X->AV
 | []=>.nils
 | [_]=>.sl sz b 0 1 1
 | l=>.sl sz b 0 l.length 0
def gBl:List X->Heap
 | []=>[]
 | l=>[.seq true sz l.length (Ip e z l)]
def gTr:List X->AV
 | []=>.nils
 | l=>.tr sz l.length (Ip e z l)
end
section
variable {X:Type} {sz:Nat} {e:X->List AV} {z:X}
theorem aer{l:List X}{i:Nat}(h:i<l.length):Ip e z l i=e (l.getD i z):=by
 unfold Ip;simp[List.getD,List.getElem?_eq_getElem h]
theorem zU(x:X):(fun i=>[e x].getD i ([e x].getD 0 []))=Ip e z [x]:=by
 funext i
 unfold Ip
 cases i with
 | zero=>rfl
 | succ i=>simp[List.getD]
theorem rC(x:X):(fun i=>[e x].getD i (e x))=Ip e z [x]:=zU x
theorem YM{l:List X}(h:l ≠ [])(x:X) :
  (fun i=>bif Nat.blt i l.length then Ip e z l i else bif Nat.blt i (l.length+1)then [e x].getD (i - l.length) []else Ip e z l l.length)=Ip e z (l++[x]):=by
 funext i
 have h0:0<l.length:=List.length_pos_iff.2 h
 have hh:(l++[x]).getD 0 z=l.getD 0 z:=by unfold List.getD;rw[List.getElem?_append_left h0]
 by_cases h1:i<l.length
 ·rw[AB h1,cond_true]
  unfold Ip
  rw[hh]
  simp[List.getD,List.getElem?_append_left h1]
 ·rw[CI (Nat.le_of_not_lt h1),cond_false]
  by_cases h2:i<l.length+1
  ·have:i=l.length:=by omega
   subst this
   rw[AB h2,cond_true]
   unfold Ip
   simp[List.getD]
  ·rw[CI (by omega),cond_false]
   unfold Ip
   rw[hh]
   have e1:l[l.length]? = none:=List.getElem?_eq_none (Nat.le_refl _)
   have e2:(l++[x])[i]? = none:=List.getElem?_eq_none (by simp;omega)
   simp[List.getD,e1,e2]
theorem rE(a x:X):(fun i=>bif Nat.blt i 1 then Ip e z [a] i else bif Nat.blt i 2 then [e x].getD (i - 1) []else Ip e z [a] 1)=Ip e z [a,x]:=YM (l:=[a]) (by simp) x
theorem aes{b:Nat}{l:List X}(h:l ≠ [])(x:X):gSl sz b (l++[x])=.sl sz b 0 (l.length+1) 0:=by
 match l,h with
 | [a],_=>rfl
 | a::c::r,_=>
  show AV.sl sz b 0 ((a::c::(r++[x])).length) 0=_
  simp
theorem aet{l:List X}(h:l ≠ [])(x:X):gBl sz e z (l++[x])=[.seq true sz (l.length+1) (Ip e z (l++[x]))]:=by
 match l,h with
 | a::r,_=>
  show [BS.seq true sz ((a::(r++[x])).length) _]=_
  simp
theorem aeu(l:List X):AR (gTr sz e z l) (C8 sz e z l):=by
 match l with
 | []=>exact .nils
 | a::r=>exact AR.trs fun i hi=>by rw[aer hi];exact .refl _
end
theorem orU(n:Nat):(Nat.beq n 0||Nat.ble n n)=true:=by rw[Bo (Nat.le_refl n)];simp
theorem ajJ{n b:Nat}(hb:b<=1000)(h:n<=1000000):(Nat.ble ((n+1)*b) 140737488355328&&Nat.ble (n+1) 140737488355328)=true:=by
 have h1:(n+1)*b<=140737488355328:=by
  have:(n+1)*b<=1000001*1000:=Nat.mul_le_mul (by omega) hb
  omega
 rw[Bo h1,Bo (by omega:n+1<=140737488355328)];rfl
theorem rF{X:Type}{R:Type}{l:List X}{z:X}{keep:X->Bool}{G:Nat->Int->List X->Option R}{fin:List X->Option R}
  (hend:∀ m acc,acc.length<=l.length->G (m+1) (l.length:Int) acc=fin acc)
  (hstep:∀ m (i:Nat) acc,i<l.length->acc.length<=i->G (m+1) (i:Int) acc=bif keep (l.getD i z)then G m ((i+1:Nat):Int) (acc++[l.getD i z])else G m ((i+1:Nat):Int) acc) :
  ∀ (d i m:Nat) (acc:List X),i+d=l.length->d<m->acc.length<=i->G m (i:Int) acc=fin (acc++(l.drop i).filter keep):=by
 intro d
 induction d with
 | zero=>
  intro i m acc hi hm ha
  obtain⟨m,rfl⟩:∃ k,m=k+1:=⟨m - 1,by omega⟩
  have:i=l.length:=by omega
  subst this
  rw[hend m acc ha];simp
 | succ d ih=>
  intro i m acc hi hm ha
  obtain⟨m,rfl⟩:∃ k,m=k+1:=⟨m - 1,by omega⟩
  rw[hstep m i acc (by omega) ha,drop_cons (z:=z) (by omega:i<l.length),List.filter_cons]
  cases hk:keep (l.getD i z)with
  | true=>
   rw[cond_true,if_pos rfl,ih (i+1) m _ (by omega) (by omega) (by simp;omega),List.append_assoc];rfl
  | false=>
   rw[cond_false,if_neg (by simp),ih (i+1) m _ (by omega) (by omega) (by omega)]
end Go.AM
end
noncomputable section
set_option linter.unusedVariables false
namespace Go.AM
def Ph(l:Nat):Code->Option (List PE)
 | .scope a=>match findLabel a l with
  | some _=>some []
  | .none=>match Ph l a with
   | some p=>some (.L::p)
   | .none=>.none
 | .seq x y=>match Ph l x with
  | some p=>some (.L::p)
  | .none=>match Ph l y with
   | some p=>some (.R::p)
   | .none=>.none
 | .cond _ x y=>match Ph l x with
  | some p=>some (.L::p)
  | .none=>match Ph l y with
   | some p=>some (.R::p)
   | .none=>.none
 | .block _ a=>match Ph l a with
  | some p=>some (.L::p)
  | .none=>.none
 | _=>.none
def JP{R:Type}(env:Env)(n base f:Nat)(k:AV->Heap->Option R)(l m:Nat)(s:St):Option R:=
 match Ph l (CN env f)with
 | some p=>match sub (CN env f) p with
  | .scope a=>JY env (D5 env n) f (Il env f) n base m a l (Ik env (D5 env n) f (Il env f) n base (JY env (D5 env n) f (Il env f) n base n) 0 (CN env f) p (QJ env f k)) s
  | _=>.none
 | .none=>.none
end Go.AM
end
noncomputable section
open Go Go.AM Go.Proofs
namespace Go.Wk
set_option maxRecDepth 100000
def PG:Program:=Tryz.prog
def Vl:List (Nat × Nat × List Nat):=[
(3,0,[3,5]),
(3,2,[3,5,6,7,9]),
(3,4,[3,5,6,12]),
(4,0,[3,5,6]),
(4,2,[3,5,6,7,8]),
(4,4,[3,5,10]),
(5,0,[5,7,8,9,10,11,12]),
(5,2,[5,7,8,9,10,11,13]),
(5,4,[5,7,8,9,10,11,14]),
(5,6,[5,7,8,9,11,15]),
(5,8,[5,7,8,9,11,15,16]),
(5,10,[5,7,8,9,17]),
(5,12,[5,8,9,18]),
(5,14,[5,9,19]),
(6,0,[0,3,4,5,6]),
(7,0,[0,3,4,5]),
(7,2,[4,6,7]),
(9,0,[0,2,4,5]),
(10,0,[1,2,3,6,8]),
(14,0,[0,1,4,6]),
(19,0,[2,4,5,11,12]),
(24,0,[0,1,5]),
(25,0,[2,3,5]),
(25,2,[2,3,6]),
(26,0,[1,2,3,4]),
(27,0,[1,3,19,20,21]),
(28,0,[1,3,18,19,20]),
(28,2,[7,47,48,49]),
(29,0,[3,7,8,9]),
(30,0,[1,3,4]),
(34,0,[2,4,7,8,9,10]),
(36,0,[1,2,34,35]),
(39,0,[0,3,14,15,16]),
(41,0,[2,4,6,7,37,38,39]),
(41,2,[4,6,56,57,58]),
(45,0,[1,2,10,11,12]),
(47,0,[2,3,5]),
(49,0,[0,1,5]),
(51,1,[1,3,23,24,25]),
(57,0,[0,1,3]),
(63,0,[0,7,8,9]),
(74,0,[0,8,116,117,118]),
(76,0,[2,7,8,9]),
(77,0,[0,6,7,8]),
(80,0,[0,1,5,6]),
(82,0,[1,7,8,16,17,18]),
(83,0,[0,1,4,5,21,22,23]),
(83,2,[0,1,5,35,36,37]),
(85,0,[4,5,6,16,17,18]),
(87,0,[0,1,4,5,21,22,23]),
(90,0,[0,1,5]),
(92,0,[0,1,5]),
(94,0,[0,1,5]),
(95,0,[0,1,5]),
(99,0,[2,4,5,17,18,19,1003]),
(103,0,[2,3,4,5,8,9,10]),
(103,2,[2,4,5,8,11]),
(113,0,[0,1,5,6]),
(117,0,[0,3,12,13]),
(122,0,[3,6,7,8]),
(124,0,[0,1,7,8]),
(127,0,[3,7,8,9]),
(132,0,[3,7,8,9]),
(133,0,[1,2,3,4,9,21,22,23]),
(133,2,[3,4,12,13,45]),
(133,4,[4,16,71,72,73]),
(134,0,[0,3,4]),
(136,0,[0,3,4]),
(139,0,[0,3,4]),
(140,0,[0,3,4]),
(141,0,[0,3,4]),
(144,0,[3,7,8,9]),
(146,0,[0,7,8]),
(147,0,[0,1,2,8,9,10]),
(150,0,[0,1,7,8]),
(160,0,[0,1,5,6]),
(166,0,[3,4]),
(167,0,[0,3,4]),
(172,0,[0,3,4]),
(175,0,[0,1,5,6]),
(176,0,[1,2,7,8]),
(186,1000,[1,2,4,5]),
(187,0,[0,1,7,8]),
(188,0,[0,1,2,3,4,10,11]),
(191,0,[0,3]),
(193,0,[0,3,5,6]),
(193,2,[0,3,5,7]),
(195,0,[0,1,7,8]),
(196,0,[0,1,2,3,8]),
(196,2,[0,1,2,3,8,9]),
(197,0,[0,3,8,9,10,11]),
(197,2,[0,3,8,9,12]),
(198,0,[0,1,8,9,10,11]),
(200,0,[0,8,9]),
(201,0,[0,1,2,3,9,10]),
(201,2,[0,1,2,3,9,10]),
(201,4,[0,1,2,3,9,10,11]),
(201,6,[0,1,2,3,9,10,12]),
(202,0,[0,1,4,11,12]),
(202,2,[0,1,4,11,12]),
(202,4,[0,1,4,11,12]),
(203,0,[0,1,4,12,13]),
(203,2,[0,1,4,12,13]),
(203,4,[0,1,4,12,13]),
(203,6,[0,1,4,12,13]),
(203,8,[0,1,4,12,13]),
(209,0,[0,2,3,4,10]),
(216,0,[0,2,3])]
def agU:List Nat:=[36,45,58,59,60,61,62,63,78,89,104,105,106,107,108,125,126,127,146,177]
def agV:List Nat:=[35,38,39,40,42,43,57,66,70,74,75,77,79,80,83,86,87,110,112,113,116,117,124,128,130,147,150,153,154,155,156,157,158,159,160,161,164,165,179,184,187,188,194,195,196,197,198,199,200,201,202,203,207,208,209,210,211,212,213,214,215,216,225,226,227,228,229]
def agW:List Nat:=[]
def agX:List Nat:=[]
def Vm(md:Nat->Option Nat)(o:Nat->List AV->Heap->Option Answer):Env where
 tt:=Gu PG
 code:=Yy PG
 mode f:=match md f with
  | some k=>k
  | none=>bif Yz f agU then 1 else bif Yz f agV then 2 else bif Yz f agX then 4 else bif Yz f agW then 3 else 0
 live f b:=QI f b Vl
 orc:=o
def MN(l:List Known):Env:=Vm (fun _=>none) (Nm l)
theorem eX{md:Nat->Option Nat}{l:List Known}(h:∀ k ∈ l,k.Ok PG):C5 PG (Vm md (Nm l)):=⟨lE rfl,TX h⟩
theorem WB{md:Nat->Option Nat}{o:Nat->List AV->Heap->Option Answer}:Gb PG (Vm md o):=QH rfl
theorem mixed:PG.follows .mixedOrders=true:=by kernel_rfl
theorem Iq{md:Nat->Option Nat}{l:List Known}(h:∀ k ∈ l,k.Ok PG){n f:Nat}{args:List AV}{r:AV}(e:Am (Vm md (Nm l)) n f args=some r):Aa PG f args [] r []:=
 Td (eX h) WB mixed e
def BC:Nat:=3
def CO:Nat:=8
def C9:Nat:=9
def C1:Nat:=10
def DR:Nat:=11
def Du:Nat:=12
def MO:Nat:=13
def BQ:Nat:=14
def Bj:Nat:=15
def Hf:Nat:=16
def J6:Nat:=21
def BK:Nat:=27
def De:Nat:=31
def J7:Nat:=32
def Ql:Nat:=33
def DT:Nat:=34
def BV:Nat:=36
def Ek:Nat:=37
def Cj:Nat:=38
def Dv:Nat:=39
def DN:Nat:=40
def Bh:Nat:=41
def Dw:Nat:=42
def Di:Nat:=43
def cZ:Nat:=44
def SK:Nat:=45
def C4:Nat:=51
def HH:Nat:=52
def HI:Nat:=53
def Pj:Nat:=55
def Fe:Nat:=56
def J8:Nat:=58
def AJ:Nat:=59
def Bq:Nat:=60
def FU:Nat:=61
def Gz:Nat:=62
def Cg:Nat:=63
def CA:Nat:=66
def Ir:Nat:=67
def Ed:Nat:=68
def Fs:Nat:=69
def Dj:Nat:=70
def Lv:Nat:=71
def EN:Nat:=72
def EF:Nat:=73
def B6:Nat:=74
def Cw:Nat:=75
def Gd:Nat:=76
def C7:Nat:=77
def GQ:Nat:=78
def ET:Nat:=79
def Ao:Nat:=80
def DU:Nat:=81
def HJ:Nat:=82
def Cv:Nat:=83
def Is:Nat:=84
def Dk:Nat:=85
def Dl:Nat:=86
def CT:Nat:=87
def Hu:Nat:=88
def Nb:Nat:=89
def J9:Nat:=97
def LF:Nat:=98
def BD:Nat:=99
def MP:Nat:=100
def LG:Nat:=101
def DV:Nat:=102
def CB:Nat:=103
def BW:Nat:=104
def Cm:Nat:=105
def DE:Nat:=106
def GA:Nat:=107
def Ka:Nat:=108
def IN:Nat:=110
def Dr:Nat:=111
def FM:Nat:=112
def BO:Nat:=113
def It:Nat:=114
def Hw:Nat:=115
def C2:Nat:=116
def BR:Nat:=117
def IP:Nat:=118
def IQ:Nat:=119
def Iu:Nat:=120
def Iv:Nat:=121
def Kb:Nat:=122
def Mj:Nat:=123
def Au:Nat:=124
def Lg:Nat:=125
def Ee:Nat:=127
def GR:Nat:=128
def HK:Nat:=129
def Ge:Nat:=130
def Jn:Nat:=131
def GS:Nat:=132
def Bl:Nat:=133
def Mk:Nat:=143
def GU:Nat:=144
def CU:Nat:=145
def DH:Nat:=146
def GD:Nat:=147
def MQ:Nat:=148
def GI:Nat:=149
def CV:Nat:=150
def Nn:Nat:=151
def EU:Nat:=152
def Kc:Nat:=153
def A9:Nat:=160
def C6:Nat:=161
def N0:Nat:=162
def Kd:Nat:=163
def AY:Nat:=164
def CC:Nat:=165
def HR:Nat:=169
def Oy:Nat:=173
def E1:Nat:=174
def CZ:Nat:=175
def CP:Nat:=176
def FV:Nat:=177
def T4:Nat:=178
def GV:Nat:=179
def HL:Nat:=180
def DL:Nat:=181
def QP:Nat:=182
def DW:Nat:=186
def Bn:Nat:=187
def Lw:Nat:=188
def T5:Nat:=189
def DX:Nat:=190
def Cs:Nat:=191
def DY:Nat:=192
def Cu:Nat:=193
def Bt:Nat:=194
def Av:Nat:=196
end Go.Wk
end
noncomputable section
open Go Go.AM Go.Md
namespace Go.Wk
set_option maxRecDepth 100000
set_option maxHeartbeats 1000000
def Ew:Env:=MN []
theorem JC{n f:Nat}{args:List AV}{r:AV}(e:Am Ew n f args=some r):Aa PG f args [] r []:=Iq (md:=fun _=>none) (l:=[]) (fun k hk=>by cases hk) e
theorem Pk{X:Type}{F sz b:Nat}{e:X->List AV}{z:X}(hb:b<=1000)(hn:Am Ew 2 F [.nils]=some .nils)(he:Am Ew 2 F [.trl sz []]=some (.trl sz []))
  (hs:∀ n f,Am Ew 2 F [.tr sz (n+1) f]=bif Nat.ble ((0+(n+1))*b) 140737488355328&&Nat.ble (0+(n+1)) 140737488355328 then bif Nat.ble (n+1) (n+1)then some (.tr sz (n+1) f)else none else none)
  (l:List X) (hl:l.length<=LB):Aa PG F [C8 sz e z l] [] (C8 sz e z l) []:=by
 unfold LB at hl
 cases l with
 | nil=>exact Aa.split (Ov.of [] [] .nil) ((JC hn).res .nils) ((JC he).res (AR.trl_encL (e:=e) (z:=z) []))
 | cons x r=>
  have h:=hs r.length (fun i=>e ((x::r).getD i z))
  simp only[List.length_cons]at hl
  have h1:(0+(r.length+1))*b<=140737488355328:=by
   have:(0+(r.length+1))*b<=1000000*1000:=Nat.mul_le_mul (by omega) hb
   omega
  rw[Bo h1,Bo (by omega),Bo (Nat.le_refl _)]at h
  exact JC h
theorem T6(n:Nat)(f:Nat->List AV):Am Ew 2 BW [.tr 2 (n+1) f]=bif Nat.ble ((0+(n+1))*16) 140737488355328&&Nat.ble (0+(n+1)) 140737488355328 then bif Nat.ble (n+1) (n+1)then some (.tr 2 (n+1) f)else none else none:=by kernel_rfl
theorem Vn(n:Nat)(f:Nat->List AV):Am Ew 2 AJ [.tr 11 (n+1) f]=bif Nat.ble ((0+(n+1))*112) 140737488355328&&Nat.ble (0+(n+1)) 140737488355328 then bif Nat.ble (n+1) (n+1)then some (.tr 11 (n+1) f)else none else none:=by kernel_rfl
theorem XJ(n:Nat)(f:Nat->List AV):Am Ew 2 Cm [.tr 7 (n+1) f]=bif Nat.ble ((0+(n+1))*72) 140737488355328&&Nat.ble (0+(n+1)) 140737488355328 then bif Nat.ble (n+1) (n+1)then some (.tr 7 (n+1) f)else none else none:=by kernel_rfl
theorem XK(n:Nat)(f:Nat->List AV):Am Ew 2 DE [.tr 1 (n+1) f]=bif Nat.ble ((0+(n+1))*1) 140737488355328&&Nat.ble (0+(n+1)) 140737488355328 then bif Nat.ble (n+1) (n+1)then some (.tr 1 (n+1) f)else none else none:=by kernel_rfl
theorem YN(l:List Member)(h:l.length<=LB):Aa PG BW [Az l] [] (Az l) []:=
 Pk (b:=16) (by omega) (by kernel_rfl) (by kernel_rfl) T6 l h
theorem dA(l:List Entry)(h:l.length<=LB):Aa PG AJ [Ae l] [] (Ae l) []:=
 Pk (b:=112) (by omega) (by kernel_rfl) (by kernel_rfl) Vn l h
theorem lK(l:List Seen)(h:l.length<=LB):Aa PG Cm [Ax l] [] (Ax l) []:=
 Pk (b:=72) (by omega) (by kernel_rfl) (by kernel_rfl) XJ l h
theorem lL(l:List Bool)(h:l.length<=LB):Aa PG DE [Ci l] [] (Ci l) []:=
 Pk (b:=1) (by omega) (by kernel_rfl) (by kernel_rfl) XK l h
def dL{X:Type}(d:List AV->X)(a:List AV):List X:=AN d (a.getD 0 .nils)
def CH{X:Type}(l:List X):Prop:=l.length<=LB
def T7(l:List Member):List AV:=[Az l]
def Pm(l:List Entry):List AV:=[Ae l]
def T8(l:List Seen):List AV:=[Ax l]
def rG(l:List Bool):List AV:=[Ci l]
theorem acT{R:Type}{l:List Member}{k:List Member->Option R}(h:CH l):gC (dL Ca) CH T7 [Az l] k=k l:=Aw l (EL l) h (.refl _)
theorem ajK{R:Type}{l:List Entry}{k:List Entry->Option R}(h:CH l):gC (dL Bf) CH Pm [Ae l] k=k l:=Aw l (Es l) h (.refl _)
theorem agY{R:Type}{l:List Seen}{k:List Seen->Option R}(h:CH l):gC (dL BZ) CH T8 [Ax l] k=k l:=Aw l (EE l) h (.refl _)
def Ke:Known:=.spec BW (dL Ca) CH T7 Az
def Lh:Known:=.spec AJ (dL Bf) CH Pm Ae
def Ml:Known:=.spec Cm (dL BZ) CH T8 Ax
def T9:Known:=.spec DE (dL HE) CH rG Ci
theorem Kf:Ke.Ok PG:=Known.spec_ok YN
theorem KS:Lh.Ok PG:=Known.spec_ok dA
theorem LH:Ml.Ok PG:=Known.spec_ok lK
theorem XL:T9.Ok PG:=Known.spec_ok lL
theorem Bv{i:Nat}(h:i<=2000000):IntKind.i64.wrap ((i:Int)+1)=((i+1:Nat):Int):=wrap64 (by omega)
theorem HM{i n:Nat}:decide ((i:Int)<(n:Int))=decide (i<n):=by simp
theorem IS(i:Nat):decide ((0:Int)<=(i:Int))=true:=by simp
theorem YP(x m:Member):(decide (x.node=m.node)&&decide (x.boot=m.boot))=decide (x=m):=by
 cases x;cases m;simp[Bool.decide_and]
def lM(l:List Member)(m:Member)(i:Int):St:={fr:=[(3,.ptr 0 0 0),(7,Az l),(8,.int .i64 l.length),(9,.int .i64 i)],hp:=[.arr true 2 [A6 m]]}
theorem agZ(N:Nat)(l:List Member)(mm:Member):Am Ew (N+1) GU [Az l,.agg (A6 mm)]=LP Ew N 0 GU Bp 0 [] N (lM l mm 0):=by kernel_rfl
theorem YQ(N m:Nat)(l:List Member)(mm:Member)(i:Int):LP Ew N 0 GU Bp 0 [] (m+1) (lM l mm i) =
  bif decide (i<(l.length:Int))then bif decide (0<=i)&&decide (i<(l.length:Int))then
   bif decide ((l.getD i.toNat default).node=mm.node)&&(decide ((l.getD i.toNat default).boot=mm.boot)&&true)then some (.int .i64 i)
   else LP Ew N 0 GU Bp 0 [] m (lM l mm (IntKind.i64.wrap (i+1)))
  else none else some (.int .i64 (-1)):=by kernel_rfl
theorem zV{N:Nat}{l:List Member}{mm:Member}(hl:l.length<=LB):∀ d i m,i+d=l.length->d<m->LP Ew N 0 GU Bp 0 [] m (lM l mm (i:Nat))=some (.int .i64 (idxFrom mm (l.drop i) i)):=by
 unfold LB at hl
 intro d
 induction d with
 | zero=>
  intro i m hi hm
  obtain⟨m,rfl⟩:∃ k,m=k+1:=⟨m - 1,by omega⟩
  rw[YQ,HM,decide_eq_false (by omega),cond_false,List.drop_eq_nil_of_le (by omega)]
  rfl
 | succ d ih=>
  intro i m hi hm
  obtain⟨m,rfl⟩:∃ k,m=k+1:=⟨m - 1,by omega⟩
  rw[YQ,HM,decide_eq_true (by omega),IS,drop_cons (z:=default) (by omega:i<l.length)]
  simp only[cond_true,Bool.and_true,Int.toNat_natCast,YP,idxFrom]
  by_cases h:l.getD i default=mm
  ·simp only[decide_eq_true h,cond_true,if_pos h]
  ·simp only[decide_eq_false h,cond_false,if_neg h]
   rw[Bv (by omega),ih (i+1) m (by omega) (by omega)]
abbrev LM:=List Member × Member
def No(a:List AV):LM:=(AN Ca (a.getD 0 .nils),Ca (Ay a 1))
def Mm(x:LM):Prop:=x.1.length<=LB
def Pn(x:LM):List AV:=[Az x.1,.agg (A6 x.2)]
theorem qLM{R:Type}{l:List Member}{m:Member}{k:LM->Option R}(h:l.length<=LB):gC No Mm Pn [Az l,.agg (A6 m)] k=k (l,m):=Aw (l,m) (Prod.ext (EL l) rfl) h (.refl _)
def YR:Known:=.spec GU No Mm Pn (fun x=>.int .i64 (idx x.1 x.2))
theorem WC:YR.Ok PG:=Known.spec_ok fun x h=>by
 have:=(agZ (x.1.length+1) x.1 x.2).trans (zV (N:=x.1.length+1) (mm:=x.2) h x.1.length 0 (x.1.length+1) (by omega) (by omega))
 exact JC this
theorem Oz{n:Nat}(P:Nat->Nat->Prop)(h0:∀ m,P n (m+1))(hs:∀ i m,i<n->P (i+1) m->P i (m+1)):∀ i m,i<=n->n - i<m->P i m:=by
 intro i m hi hm
 obtain⟨d,hd⟩:∃ d,n - i=d:=⟨_,rfl⟩
 induction d generalizing i m with
 | zero=>
  have:i=n:=by omega
  subst this
  obtain⟨m,rfl⟩:∃ k,m=k+1:=⟨m - 1,by omega⟩
  exact h0 m
 | succ d ih=>
  obtain⟨m,rfl⟩:∃ k,m=k+1:=⟨m - 1,by omega⟩
  exact hs i m (by omega) (ih (i+1) m (by omega) (by omega) (by omega))
theorem Jo:∀ s:List UInt8,Ah s s=true
 | []=>rfl
 | a::s=>by simp[Ah,Jo s]
theorem getD_mem{X:Type}{l:List X}{i:Nat}{z:X}(h:i<l.length):l.getD i z ∈ l:=by
 simp[List.getD,List.getElem?_eq_getElem h]
theorem YS(n:Nat):Nat.ble n n=true:=Bo (Nat.le_refl n)
theorem ak{k:Known}{l:List Known}(h:k.Ok PG)(t:∀ x ∈ l,x.Ok PG):∀ x ∈ k::l,x.Ok PG:=fun x hx=>by
 rcases List.mem_cons.1 hx with rfl | hx
 ·exact h
 ·exact t x hx
theorem AL:∀ x ∈ ([]:List Known),x.Ok PG:=fun x hx=>by cases hx
def rg(i n:Int){R:Type}(k:Option R):Option R:=bif decide (0<=i)&&decide (i<n)then k else none
theorem Bi{i n:Nat}(h:i<n){R:Type}{k:Option R}:rg (i:Int) (n:Int) k=k:=by
 unfold rg;rw[IS,HM,decide_eq_true h];rfl
end Go.Wk
end
noncomputable section
open Go Go.AM Go.Md Go.Fl
open Ieee (double)
namespace Go.Wk
set_option maxRecDepth 100000
set_option maxHeartbeats 1000000
theorem zW(a b:Ver):Am Ew 4 EN [eV a,eV b]=bif !DF .f64 a.re b.re then some (.bool (JH .f64 a.re b.re))else some (.bool (JH .f64 a.im b.im)):=by kernel_rfl
def DA(p:Ver × Ver):List AV:=[eV p.1,eV p.2]
def DB(a:List AV):Ver × Ver:=(⟨(BF a 0).1,(BF a 0).2⟩,⟨(BF a 1).1,(BF a 1).2⟩)
def V2(p:Ver × Ver):Prop:=At p.1/\At p.2
theorem Jp{R:Type}{a b:Ver}{k:Ver × Ver->Option R}(ha:At a)(hb:At b):gC DB V2 DA [.cplx .f64 a.re a.im,.cplx .f64 b.re b.im] k=k (a,b):=Aw (a,b) rfl ⟨ha,hb⟩ (.refl _)
theorem rH(p:Ver × Ver)(h:V2 p):Aa PG EN [eV p.1,eV p.2] [] (.bool (AH p.1 p.2)) []:=by
 refine JC ((zW p.1 p.2).trans ?_)
 rw[eQ,zQ,<- agQ h.1 h.2]
 cases DF .f64 p.1.re p.2.re <;> rfl
def FD:Known:=.spec EN DB V2 DA (fun p=>.bool (AH p.1 p.2))
theorem DZ:FD.Ok PG:=Known.spec_ok rH
theorem zX(a b:Ver):Am Ew 4 N0 [eV a,eV b]=bif !DF .f64 b.re a.re then bif JH .f64 b.re a.re then some (eV a)else some (eV b)else bif JH .f64 b.im a.im then some (eV a)else some (eV b):=by kernel_rfl
theorem rI(p:Ver × Ver)(h:V2 p):Aa PG N0 [eV p.1,eV p.2] [] (eV (BB p.1 p.2)) []:=by
 refine JC ((zX p.1 p.2).trans ?_)
 rw[eQ,<- qZ h.1 h.2,<- agQ h.2 h.1]
 cases DF .f64 p.2.re p.1.re <;> cases JH .f64 p.2.im p.1.im <;> cases JH .f64 p.2.re p.1.re <;> rfl
def QQ:Known:=.spec N0 DB V2 DA (fun p=>eV (BB p.1 p.2))
theorem Np:QQ.Ok PG:=Known.spec_ok rI
end Go.Wk
end
noncomputable section
open Go Go.AM Go.Md Go.Fl
namespace Go.Wk
set_option maxRecDepth 100000
set_option maxHeartbeats 1000000
def gF{R:Type}(b:Nat)(k:Option R):Option R:=bif(fI b).isSome then bif decide (IntKind.i64.min<=(fI b).getD 0)&&decide ((fI b).getD 0<=IntKind.i64.max)then k else none else none
theorem gF_eq{R:Type}{b:Nat}{k:Option R}(h:qX b):gF b k=k:=by
 obtain⟨h1,h2,h3⟩:=h
 unfold gF;rw[h1,decide_eq_true h2,decide_eq_true h3];rfl
theorem rJ(a b:Ver):Am Ew 4 DY [eV a,eV b]=gF a.re (gF b.re (bif decide (vE a=vE b)then gF a.im (gF b.im (some (.bool (decide (vN a<vN b)))))else gF a.re (gF b.re (some (.bool (decide (vE a<vE b))))))):=by kernel_rfl
theorem lN(p:Ver × Ver)(h:V2 p):Aa PG DY [eV p.1,eV p.2] [] (.bool (AH p.1 p.2)) []:=by
 refine JC ((rJ p.1 p.2).trans ?_)
 obtain⟨ha,hb⟩:=h
 simp only[gF_eq ha.int.1,gF_eq ha.int.2,gF_eq hb.int.1,gF_eq hb.int.2,XN ha,XN hb,R6 ha,R6 hb,R7,eU]
 unfold AH
 cases decide (ep p.1=ep p.2) <;> rfl
def OA:Known:=.spec DY DB V2 DA (fun p=>.bool (AH p.1 p.2))
theorem Mn:OA.Ok PG:=Known.spec_ok lN
theorem rK(a b:Ver):Am Ew 4 E1 [eV a,eV b]=gF a.re (gF b.re (bif decide (vE a=vE b)then gF a.im (gF b.im (bif decide (vN a<vN b)then some (eV b)else some (eV a)))else gF a.re (gF b.re (bif decide (vE a<vE b)then some (eV b)else some (eV a))))):=by kernel_rfl
theorem lO(p:Ver × Ver)(h:V2 p):Aa PG E1 [eV p.1,eV p.2] [] (eV (BB p.1 p.2)) []:=by
 refine JC ((rK p.1 p.2).trans ?_)
 obtain⟨ha,hb⟩:=h
 simp only[gF_eq ha.int.1,gF_eq ha.int.2,gF_eq hb.int.1,gF_eq hb.int.2,XN ha,XN hb,R6 ha,R6 hb,R7,eU]
 unfold BB AH
 cases decide (ep p.1=ep p.2) <;> cases decide (nu p.1<nu p.2) <;> cases decide (ep p.1<ep p.2) <;> rfl
def eY:Known:=.spec E1 DB V2 DA (fun p=>eV (BB p.1 p.2))
theorem lP:eY.Ok PG:=Known.spec_ok lO
def Nq(a:List AV):Ver:=⟨(BF a 0).1,(BF a 0).2⟩
def Nr(v:Ver):List AV:=[eV v]
theorem qV1{R:Type}{a:Ver}{k:Ver->Option R}(ha:At a):gC Nq At Nr [.cplx .f64 a.re a.im] k=k a:=Aw a rfl ha (.refl _)
theorem ag0(a:Ver):Am Ew 4 Lv [eV a]=gF a.im (some (.int .i64 (vN a))):=by kernel_rfl
theorem aev(a:Ver):Am Ew 4 HR [eV a]=gF a.im (some (.int .i64 (vN a))):=by kernel_rfl
theorem aew(a:Ver)(h:At a):Aa PG Lv [eV a] [] (.int .i64 (nu a)) []:=JC ((ag0 a).trans (by rw[gF_eq h.int.2,R6 h]))
theorem zY(a:Ver)(h:At a):Aa PG HR [eV a] [] (.int .i64 (nu a)) []:=JC ((aev a).trans (by rw[gF_eq h.int.2,R6 h]))
def Vo:Known:=.spec Lv Nq At Nr (fun p=>.int .i64 (nu p))
theorem OB:Vo.Ok PG:=Known.spec_ok aew
def lQ:Known:=.spec HR Nq At Nr (fun p=>.int .i64 (nu p))
theorem YU:lQ.Ok PG:=Known.spec_ok zY
def dI2(a:List AV):Nat × Nat:=((Aq a 0).toNat,(Aq a 1).toNat)
theorem aex(a b:Int):Am Ew 4 J7 [.int .i64 a,.int .i64 b]=some (.cplx .f64 (FloatKind.f64.nearest a) (FloatKind.f64.nearest b)):=by kernel_rfl
theorem zZ(p:Nat × Nat)(_:True):Aa PG J7 [.int .i64 p.1,.int .i64 p.2] [] (eV (vr p.1 p.2)) []:=JC ((aex p.1 p.2).trans (by rw[Ox,Ox];rfl))
def pI2(_:Nat × Nat):Prop:=True
def eI2(p:Nat × Nat):List AV:=[.int .i64 p.1,.int .i64 p.2]
def lR:Known:=.spec J7 dI2 pI2 eI2 (fun p=>eV (vr p.1 p.2))
theorem YV:lR.Ok PG:=Known.spec_ok zZ
def dVI(a:List AV):Ver × Nat:=(⟨(BF a 0).1,(BF a 0).2⟩,(Aq a 1).toNat)
theorem aey(a:Ver)(e:Int):Am Ew 4 IQ [eV a,.int .i64 e]=bif(FloatKind.f64.format.add a.im 4607182418800017408).isSome then some (.cplx .f64 (FloatKind.f64.nearest e) ((FloatKind.f64.format.add a.im 4607182418800017408).getD 0))else none:=by kernel_rfl
theorem aaa(p:Ver × Nat)(h:At p.1):Aa PG IQ [eV p.1,.int .i64 p.2] [] (eV (vr p.2 (nu p.1+1))) []:=by
 refine JC ((aey p.1 p.2).trans ?_)
 have h2:=h.lt
 have e:p.1.im=fl (nu p.1):=congrArg Ver.im h.eta
 rw[e,aeo (by omega),Ox,Option.isSome_some,cond_true,Option.getD_some]
 rfl
def pVI(p:Ver × Nat):Prop:=At p.1
def eVI(p:Ver × Nat):List AV:=[eV p.1,.int .i64 p.2]
def acU:Known:=.spec IQ dVI pVI eVI (fun p=>eV (vr p.2 (nu p.1+1)))
theorem aab:acU.Ok PG:=Known.spec_ok aaa
def QR{R:Type}(a b:Ver)(k:Ver × Ver->Option R):Option R:=gC DB V2 DA [eV a,eV b] k
theorem Ns{R:Type}{a b:Ver}{k:Ver × Ver->Option R}(ha:At a)(hb:At b):QR a b k=k (a,b):=Aw (a,b) rfl ⟨ha,hb⟩ (.refl _)
end Go.Wk
end
noncomputable section
open Go Go.AM Go.Md
namespace Go.Wk
set_option maxRecDepth 100000
set_option maxHeartbeats 1000000
def CQ(a:List AV):Rep:=Cz (Ay a 0)
def EO(_:Rep):Prop:=True
def CR(r:Rep):List AV:=[.agg (Ag r)]
theorem Sa{R:Type}{r:Rep}{P:Rep->Prop}{k:Rep->Option R}(h:P r):gC CQ P CR [.agg (Ag r)] k=k r:=Aw r (B8 r) h (.refl _)
def ag1:List Known:=[YR]
theorem aez:∀ k ∈ ag1,k.Ok PG:=ak WC AL
def YX:Env:=MN ag1
theorem lS{n f:Nat}{xs:List AV}{r:AV}(e:Am YX n f xs=some r):Aa PG f xs [] r []:=Iq (md:=fun _=>none) aez e
def Qa(l:List Member)(m:Member):Bool:=decide ((l.getD (Int.toNat 0) default).node=m.node)&&(decide ((l.getD (Int.toNat 0) default).boot=m.boot)&&true)
def lT{R:Type}(l:List Member)(m:Member)(no:Option R)(k:Bool->Option R):Option R:=bif decide ((l.length:Int)=0)then no else bif decide (0<(l.length:Int))then k (Qa l m)else none
theorem eZ{R:Type}{l:List Member}{m:Member}{no:Option R}{k:Bool->Option R}(h:no=k false):lT l m no k=k (HF l m):=by
 unfold lT
 cases l with
 | nil=>exact h
 | cons x r=>
  rw[decide_eq_false (by simp only[List.length_cons];omega),cond_false,decide_eq_true (by simp only[List.length_cons];omega),cond_true]
  unfold Qa HF
  rw[Bool.and_true]
  exact congrArg k (YP x m)
theorem head_eq(r:Rep):Am YX 6 Ek [.agg (Ag r)]=bif !decide (r.view.phase=0)then bif decide (r.frozen<=r.view.epoch)then bif decide (r.view.phase=3)then
  lT r.view.chain r.self (some (.bool false)) fun b=>some (.bool b)else some (.bool false)else some (.bool false)else some (.bool false):=by kernel_rfl
theorem aac(r:Rep)(_:True):Aa PG Ek [.agg (Ag r)] [] (.bool (Cq r)) []:=by
 refine lS ((head_eq r).trans ?_)
 rw[eZ (no:=some (AV.bool false)) (k:=fun b=>some (AV.bool b)) rfl]
 unfold Cq Jm Le
 cases decide (r.view.phase=0) <;> cases decide (r.frozen<=r.view.epoch) <;> cases decide (r.view.phase=3) <;> rfl
def Mo:Known:=.spec Ek CQ EO CR (fun r=>.bool (Cq r))
theorem Iw:Mo.Ok PG:=Known.spec_ok aac
def XQ{R:Type}(l:List Member)(m:Member)(k:List Member × Member->Option R):Option R:=gC No Mm Pn [Az l,.agg (A6 m)] k
theorem Tf{R:Type}{l:List Member}{m:Member}{k:List Member × Member->Option R}(h:l.length<=LB):XQ l m k=k (l,m):=Aw (l,m) (by unfold No;exact Prod.ext (EL l) rfl) h (.refl _)
theorem rL(r:Rep):Am YX 6 EF [.agg (Ag r)]=bif !decide (r.view.phase=0)then bif decide (r.frozen<=r.view.epoch)then bif decide (r.view.phase=3)then
  lT r.view.chain r.self (some (eV ⟨0,0⟩)) fun b=>bif !b then some (eV ⟨0,0⟩)else bif decide ((r.view.chain.length:Int)=1)then some (eV r.tail.last)else some (eV r.got)
  else some (eV ⟨0,0⟩)else some (eV ⟨0,0⟩)else some (eV ⟨0,0⟩):=by kernel_rfl
theorem lU(r:Rep)(_:True):Aa PG EF [.agg (Ag r)] [] (eV (Dd r)) []:=by
 refine lS ((rL r).trans ?_)
 rw[eZ (no:=some (eV ⟨0,0⟩)) (k:=fun b=>bif !b then some (eV ⟨0,0⟩)else bif decide ((r.view.chain.length:Int)=1)then some (eV r.tail.last)else some (eV r.got)) rfl,show decide ((r.view.chain.length:Int)=1)=decide (r.view.chain.length=1) from R7 _ 1]
 unfold Dd Cq Jm Le
 cases decide (r.view.phase=0) <;> cases decide (r.frozen<=r.view.epoch) <;> cases decide (r.view.phase=3) <;> cases HF r.view.chain r.self <;> cases decide (r.view.chain.length=1) <;> rfl
def Vp:Known:=.spec EF CQ EO CR (fun r=>eV (Dd r))
theorem Ua:Vp.Ok PG:=Known.spec_ok lU
def ag2{R:Type}(l:List Member)(k:List Member->Option R):Option R:=gC (dL Ca) CH T7 [Az l] k
def ag3{R:Type}(l:List Entry)(k:List Entry->Option R):Option R:=gC (dL Bf) CH Pm [Ae l] k
def ag4{R:Type}(l:List Seen)(k:List Seen->Option R):Option R:=gC (dL BZ) CH T8 [Ax l] k
def ag5{R:Type}(l:List Bool)(k:List Bool->Option R):Option R:=gC (dL HE) CH rG [Ci l] k
theorem aeA{R:Type}{l:List Member}{k:List Member->Option R}(h:CH l):ag2 l k=k l:=Aw l (EL l) h (.refl _)
theorem aeB{R:Type}{l:List Entry}{k:List Entry->Option R}(h:CH l):ag3 l k=k l:=Aw l (Es l) h (.refl _)
theorem aeC{R:Type}{l:List Seen}{k:List Seen->Option R}(h:CH l):ag4 l k=k l:=Aw l (EE l) h (.refl _)
theorem aeD{R:Type}{l:List Bool}{k:List Bool->Option R}(h:CH l):ag5 l k=k l:=Aw l (Pe l) h (.refl _)
def ag6:List Known:=[Ke,Lh,Ml,T9]
theorem aeE:∀ k ∈ ag6,k.Ok PG:=ak Kf (ak KS (ak LH (ak XL AL)))
def ag7:Env:=MN ag6
theorem conC{n f:Nat}{xs:List AV}{r:AV}(e:Am ag7 n f xs=some r):Aa PG f xs [] r []:=Iq (md:=fun _=>none) aeE e
theorem ag8(r:Rep):Am ag7 3 Lg [.agg (Ag r)]=ag2 r.view.chain fun a=>ag3 r.tail.log fun b=>ag4 r.seen fun c=>ag5 r.synced fun d=>
  some (.agg (Ag {r with view:={r.view with chain:=a},tail:={r.tail with log:=b},seen:=c,synced:=d})):=by kernel_rfl
def Cx(r:Rep):Prop:=CH r.view.chain/\CH r.tail.log/\CH r.seen/\CH r.synced
theorem aeF(r:Rep)(h:Cx r):Aa PG Lg [.agg (Ag r)] [] (.agg (Ag r)) []:=
 conC ((ag8 r).trans (by rw[aeA h.1,aeB h.2.1,aeC h.2.2.1,aeD h.2.2.2]))
def lV:Known:=.spec Lg CQ Cx CR (fun r=>.agg (Ag r))
theorem Vq:lV.Ok PG:=Known.spec_ok aeF
def rM:List AV->List AV->Prop
 | [],[]=>True
 | a::r,b::s=>AR a b/\rM r s
 | _,_=>False
theorem El:∀ {a b:List AV},rM a b->Ch a b
 | [],[],_=>.nil
 | _::_,_::_,h=>.cons h.1 (El h.2)
 | [],_::_,h=>h.elim
 | _::_,[],h=>h.elim
def toN(r:Rep)(x:Member)(k:Int):List AV:=[.int .i64 k,.int .i64 r.self.node,.int .i64 x.node,.int .i64 x.boot,.int .i64 r.self.boot,.int .i64 r.shard,.int .i64 r.view.epoch,.int .i64 0,.int .i64 0,.int .i64 0,.int .i64 0,.int .i64 0,.bool false,.bool false,.str [],.str [],.cplx .f64 0 0,.cplx .f64 0 0,.int .i64 0,.str [],.str [],.str [],.bool false,.nils,.nils,.nils,.cplx .f64 0 0,.cplx .f64 0 0,.int .i64 0,.nils,.nils]
theorem to_eq(r:Rep)(x:Member)(k:Int):Am Ew 6 Mk [.agg (Ag r),.agg (A6 x),.int .i64 k]=some (.agg (toN r x k)):=by kernel_rfl
theorem fA{a b:List AV}{l:List AV}(h:Ch a b):Ch (l++a) (l++b):=by
 induction l with
 | nil=>exact h
 | cons c l ih=>exact .cons (.refl _) ih
theorem Dg{X:Type}{sz:Nat}{e:X->List AV}{z:X}:AR .nils (C8 sz e z []):=AR.nils
theorem aeG(r:Rep)(x:Member)(k:Int):Ch (toN r x k) (Ac (P9 r x k)):=
 fA (l:=[.int .i64 k,.int .i64 r.self.node,.int .i64 x.node,.int .i64 x.boot,.int .i64 r.self.boot,.int .i64 r.shard,.int .i64 r.view.epoch,.int .i64 0,.int .i64 0,.int .i64 0,.int .i64 0,.int .i64 0,.bool false,.bool false,.str [],.str [],.cplx .f64 0 0,.cplx .f64 0 0,.int .i64 0,.str [],.str [],.str [],.bool false])
  (a:=[.nils,.nils,.nils,.cplx .f64 0 0,.cplx .f64 0 0,.int .i64 0,.nils,.nils]) (b:=[Ae [],Az [],C0 [],.cplx .f64 0 0,.cplx .f64 0 0,.int .i64 0,Ae [],Ax []])
  (.cons Dg (.cons Dg (.cons Dg (fA (l:=[.cplx .f64 0 0,.cplx .f64 0 0,.int .i64 0]) (.cons Dg (.cons Dg .nil))))))
theorem ag9(p:Rep × Member × Int)(_:True):Aa PG Mk [.agg (Ag p.1),.agg (A6 p.2.1),.int .i64 p.2.2] [] (.agg (Ac (P9 p.1 p.2.1 p.2.2))) []:=
 (JC (to_eq p.1 p.2.1 p.2.2)).res (.agg (aeG _ _ _))
abbrev RMI:=Rep × Member × Int
def fB(a:List AV):RMI:=(Cz (Ay a 0),Ca (Ay a 1),Aq a 2)
def fC(_:RMI):Prop:=True
def fD(p:RMI):List AV:=[.agg (Ag p.1),.agg (A6 p.2.1),.int .i64 p.2.2]
def kTo:Known:=.spec Mk fB fC fD (fun p=>.agg (Ac (P9 p.1 p.2.1 p.2.2)))
theorem rN:kTo.Ok PG:=Known.spec_ok ag9
def aha:Known:=.spec Mk fB fC fD (fun p=>.agg (toN p.1 p.2.1 p.2.2))
theorem aeH:aha.Ok PG:=Known.spec_ok fun p _=>JC (to_eq p.1 p.2.1 p.2.2)
theorem qTo{R:Type}{r:Rep}{x:Member}{i:Int}{k:RMI->Option R}:gC fB fC fD [.agg (Ag r),.agg (A6 x),.int .i64 i] k=k (r,x,i):=Aw (r,x,i) (Prod.ext (B8 r) rfl) trivial (.refl _)
theorem of_eq(e:Entry):Am Ew 6 QP [.agg (Ai e)]=some (.agg (As (Ht e))):=by kernel_rfl
def Ub(a:List AV):Entry:=Bf (Ay a 0)
def Uc(_:Entry):Prop:=True
def Ud(e:Entry):List AV:=[.agg (Ai e)]
theorem acV{R:Type}{e:Entry}{k:Entry->Option R}:gC Ub Uc Ud [.agg (Ai e)] k=k e:=Aw e (GO e) trivial (.refl _)
def kOf:Known:=.spec QP Ub Uc Ud (fun e=>.agg (As (Ht e)))
theorem rO:kOf.Ok PG:=Known.spec_ok fun e _=>JC (of_eq e)
def Mp(o:Option Member):AV:=.tup [.agg (A6 (o.getD default)),.bool o.isSome]
theorem rP(l:List Member)(m:Member):Am YX 6 LF [Az l,.agg (A6 m)]=XQ l m fun y=>
  bif decide (idx y.1 y.2<0)then some (Mp none)else bif decide ((l.length:Int)<=IntKind.i64.wrap (idx y.1 y.2+1))then some (Mp none)else
  rg (IntKind.i64.wrap (idx y.1 y.2+1)) l.length (some (Mp (some (l.getD (IntKind.i64.wrap (idx y.1 y.2+1)).toNat default)))):=by kernel_rfl
theorem rQ(l:List Member)(m:Member):Am YX 6 MP [Az l,.agg (A6 m)]=XQ l m fun y=>
  bif decide (idx y.1 y.2<1)then some (Mp none)else
  rg (IntKind.i64.wrap (idx y.1 y.2 - 1)) l.length (some (Mp (some (l.getD (IntKind.i64.wrap (idx y.1 y.2 - 1)).toNat default)))):=by kernel_rfl
theorem rR{R:Type}{i n:Int}{k:Option R}(h:0<=i/\i<n):rg i n k=k:=by
 unfold rg;rw[decide_eq_true h.1,decide_eq_true h.2];rfl
theorem behind_con(x:LM)(h:Mm x):Aa PG LF [Az x.1,.agg (A6 x.2)] [] (Mp (FJ x.1 x.2 1)) []:=by
 refine lS ((rP x.1 x.2).trans ?_)
 rw[Tf h]
 have hb:=rA x.1 x.2
 have hl:x.1.length<=1000000:=h
 simp only[wrap64 (x:=idx x.1 x.2+1) (by omega)]
 unfold FJ
 by_cases h1:idx x.1 x.2<0
 ·rw[decide_eq_true h1,if_pos (Or.inl h1)];rfl
 ·by_cases h2:(x.1.length:Int)<=idx x.1 x.2+1
  ·rw[decide_eq_false h1,decide_eq_true h2,if_pos (Or.inr (Or.inr h2))];rfl
  ·rw[decide_eq_false h1,decide_eq_false h2,if_neg (by omega),rR (by omega)];rfl
theorem lW(x:LM)(h:Mm x):Aa PG MP [Az x.1,.agg (A6 x.2)] [] (Mp (FJ x.1 x.2 (-1))) []:=by
 refine lS ((rQ x.1 x.2).trans ?_)
 rw[Tf h]
 have hb:=rA x.1 x.2
 have hl:x.1.length<=1000000:=h
 simp only[wrap64 (x:=idx x.1 x.2 - 1) (by omega)]
 unfold FJ
 by_cases h1:idx x.1 x.2<1
 ·rw[decide_eq_true h1,if_pos (by omega)];rfl
 ·rw[decide_eq_false h1,if_neg (by omega),rR (by omega)];rfl
def kBehind:Known:=.spec LF No Mm Pn (fun x=>Mp (FJ x.1 x.2 1))
theorem kBehind_ok:kBehind.Ok PG:=Known.spec_ok behind_con
def Sb:Known:=.spec MP No Mm Pn (fun x=>Mp (FJ x.1 x.2 (-1)))
theorem Po:Sb.Ok PG:=Known.spec_ok lW
def acW:List Known:=[FD,QQ,OA,Vo,lQ,kBehind,Sb,kTo,Mo]
theorem aad:∀ k ∈ acW,k.Ok PG:=ak DZ (ak Np (ak Mn (ak OB (ak YU (ak kBehind_ok (ak Po (ak rN (ak Iw AL))))))))
def ahb:Env:=MN acW
theorem al4{n f:Nat}{xs:List AV}{r:AV}(e:Am ahb n f xs=some r):Aa PG f xs [] r []:=Iq (md:=fun _=>none) aad e
theorem aae(r:Rep)(m:Member):Am ahb 6 LG [.agg (Ag r),.agg (A6 m)]=gC fB fC fD [.agg (Ag r),.agg (A6 m),.int .i64 14] fun y=>XQ r.view.chain r.self fun z=>
  bif(FJ z.1 z.2 1).isSome then some (.agg (Ac {P9 y.1 y.2.1 y.2.2 with ver:=r.got}))else some (.agg (Ac {P9 y.1 y.2.1 y.2.2 with ver:=r.tail.last})):=by kernel_rfl
theorem rS(p:Rep × Member)(h:p.1.view.chain.length<=LB):Aa PG LG [.agg (Ag p.1),.agg (A6 p.2)] [] (.agg (Ac {P9 p.1 p.2 14 with ver:=T2 p.1})) []:=by
 refine al4 ((aae p.1 p.2).trans ?_)
 rw[qTo,Tf h]
 unfold T2
 cases (FJ p.1.view.chain p.1.self 1).isSome <;> rfl
def WD(a:List AV):Rep × Member:=(Cz (Ay a 0),Ca (Ay a 1))
def pRM(p:Rep × Member):Prop:=p.1.view.chain.length<=LB
def WE(p:Rep × Member):List AV:=[.agg (Ag p.1),.agg (A6 p.2)]
theorem qRM{R:Type}{r:Rep}{x:Member}{P:Rep × Member->Prop}{k:Rep × Member->Option R}(h:P (r,x)):gC WD P WE [.agg (Ag r),.agg (A6 x)] k=k (r,x):=Aw (r,x) (Prod.ext (B8 r) rfl) h (.refl _)
def YY:Known:=.spec LG WD pRM WE (fun p=>.agg (Ac {P9 p.1 p.2 14 with ver:=T2 p.1}))
theorem WG:YY.Ok PG:=Known.spec_ok rS
end Go.Wk
end
noncomputable section
open Go Go.AM Go.Md
namespace Go.Wk
set_option maxRecDepth 100000
set_option maxHeartbeats 2000000
def acX:List Known:=[FD,aha,Ke,Lh,Ml]
theorem aaf:∀ k ∈ acX,k.Ok PG:=ak DZ (ak aeH (ak Kf (ak KS (ak LH AL))))
def Gf:Env:=MN acX
theorem acY{n f:Nat}{xs:List AV}{r:AV}(e:Am Gf n f xs=some r):Aa PG f xs [] r []:=Iq (md:=fun _=>none) aaf e
def z31:List AV:=[.int .i64 0,.int .i64 0,.int .i64 0,.int .i64 0,.int .i64 0,.int .i64 0,.int .i64 0,.int .i64 0,.int .i64 0,.int .i64 0,.int .i64 0,.int .i64 0,.bool false,.bool false,.str [],.str [],.cplx .f64 0 0,.cplx .f64 0 0,.int .i64 0,.str [],.str [],.str [],.bool false,.nils,.nils,.nils,.cplx .f64 0 0,.cplx .f64 0 0,.int .i64 0,.nils,.nils]
def aag(r:Rep)(x:Member)(k:Int)(fl:Ver)(a:AV):List AV:=[.int .i64 k,.int .i64 r.self.node,.int .i64 x.node,.int .i64 x.boot,.int .i64 r.self.boot,.int .i64 r.shard,.int .i64 r.view.epoch,.int .i64 0,.int .i64 0,.int .i64 0,.int .i64 0,.int .i64 0,.bool false,.bool false,.str [],.str [],.cplx .f64 0 0,eV fl,.int .i64 0,.str [],.str [],.str [],.bool false,a,.nils,.nils,.cplx .f64 0 0,.cplx .f64 0 0,.int .i64 0,.nils,.nils]
theorem aeI(r:Rep)(m:Member):Am Gf 6 J9 [AV.agg (Ag r),AV.agg (A6 m)] =
 gC (fB) (fC) (fD) ([AV.agg (Ag r),AV.agg (A6 m),AV.int IntKind.i64 11]) fun y0=>
 gC (dL Ca) (CH) (T7) ([Az r.view.chain]) fun y1=>
 gC (dL Bf) (CH) (Pm) ([Ae r.tail.log]) fun y2=>
 gC (dL BZ) (CH) (T8) ([Ax r.seen]) fun y3=>
 some (AV.agg [AV.int IntKind.i64 y0.snd.snd,AV.int IntKind.i64 y0.fst.self.node,AV.int IntKind.i64 y0.snd.fst.node,AV.int IntKind.i64 y0.snd.fst.boot,AV.int IntKind.i64 y0.fst.self.boot,AV.int IntKind.i64 y0.fst.shard,AV.int IntKind.i64 y0.fst.view.epoch,AV.int IntKind.i64 r.view.gen,AV.int IntKind.i64 0,AV.int IntKind.i64 0,AV.int IntKind.i64 0,AV.int IntKind.i64 0,AV.bool false,AV.bool false,AV.str [],AV.str [],AV.cplx FloatKind.f64 0 0,AV.cplx FloatKind.f64 0 0,AV.int IntKind.i64 0,AV.str [],AV.str [],AV.str [],AV.bool false,AV.nils,Az y1,AV.nils,AV.cplx FloatKind.f64 r.tail.floor.re r.tail.floor.im,AV.cplx FloatKind.f64 r.tail.last.re r.tail.last.im,AV.int IntKind.i64 r.view.gen,Ae y2,Ax y3]):=by kernel_rfl
theorem aah(p:Rep × Member)(h:Cx p.1):Aa PG J9 [.agg (Ag p.1),.agg (A6 p.2)] [] (.agg (Ac (R8 p.1 p.2))) []:=by
 obtain⟨r,m⟩:=p
 have e:=aeI r m
 rw[qTo,acT h.1,ajK h.2.1,agY h.2.2.1]at e
 exact(acY e).res (.agg (El (by repeat' (first | exact trivial | exact Dg | exact AR.refl _ | refine⟨?_,?_⟩))))
def pRS(p:Rep × Member):Prop:=Cx p.1
def acZ:Known:=.spec J9 WD pRS WE (fun p=>.agg (Ac (R8 p.1 p.2)))
theorem aai:acZ.Ok PG:=Known.spec_ok aah
def SL(r:Rep)(x:Member)(i:Int)(a:AV)(rest:Heap):St:={fr:=[(2,.ptr 0 0 0),(4,.ptr 1 0 0),(5,.ptr 2 0 0),(17,Ae r.tail.log),(18,.int .i64 r.tail.log.length),(19,.int .i64 i),(1003,.undef)],hp:=.arr true 15 [Ag r] :: .arr true 31 [z31] :: .arr true 31 [aag r x 13 r.tail.floor a]::rest}
theorem aeJ(N:Nat)(r:Rep)(m:Member):Am Gf (N+1) BD [AV.agg (Ag r),AV.agg (A6 m)] =
 gC fB fC fD [AV.agg (Ag r),AV.agg (A6 m),AV.int IntKind.i64 13] fun y0=>LP Gf N 0 BD Bp 0 [] N {fr:=[(2,.ptr 0 0 0),(4,.ptr 1 0 0),(5,.ptr 2 0 0),(17,Ae r.tail.log),(18,.int .i64 r.tail.log.length),(19,.int .i64 0),(1003,.undef)],hp:=[.arr true 15 [Ag r],.arr true 31 [z31],.arr true 31 [((toN y0.1 y0.2.1 y0.2.2).set 17 (eV r.tail.floor))]]}:=by kernel_rfl
theorem lX(N:Nat)(m:Nat)(r:Rep)(x:Member)(i:Int):LP Gf N 0 BD Bp 0 [] (m+1) (SL r x i AV.nils []) =
 bif decide (i<(↑r.tail.log.length:Int))then
  bif decide (0<=i)&&decide (i<(↑r.tail.log.length:Int))then
   gC (DB) (V2) (DA) ([AV.cplx FloatKind.f64 r.got.re r.got.im,AV.cplx FloatKind.f64 (r.tail.log.getD i.toNat default).ver.re (r.tail.log.getD i.toNat default).ver.im]) fun y4=>
   bif AH y4.fst y4.snd then
    LP (Gf) (N) (0) (BD) (Bp) 0 ([]) (m) (SL r x (IntKind.i64.wrap (i+1)) (AV.sl 11 3 0 1 1) [BS.seq true 11 1 fun i_1=>[Ai (r.tail.log.getD i.toNat default)].getD i_1 (Ai (r.tail.log.getD i.toNat default))])
   else
    LP (Gf) (N) (0) (BD) (Bp) 0 ([]) (m) (SL r x (IntKind.i64.wrap (i+1)) AV.nils [])
  else none
 else
  some (AV.agg [AV.int IntKind.i64 13,AV.int IntKind.i64 r.self.node,AV.int IntKind.i64 x.node,AV.int IntKind.i64 x.boot,AV.int IntKind.i64 r.self.boot,AV.int IntKind.i64 r.shard,AV.int IntKind.i64 r.view.epoch,AV.int IntKind.i64 0,AV.int IntKind.i64 0,AV.int IntKind.i64 0,AV.int IntKind.i64 0,AV.int IntKind.i64 0,AV.bool false,AV.bool false,AV.str [],AV.str [],AV.cplx FloatKind.f64 0 0,AV.cplx FloatKind.f64 r.tail.floor.re r.tail.floor.im,AV.int IntKind.i64 0,AV.str [],AV.str [],AV.str [],AV.bool false,AV.nils,AV.nils,AV.nils,AV.cplx FloatKind.f64 0 0,AV.cplx FloatKind.f64 0 0,AV.int IntKind.i64 0,AV.nils,AV.nils]):=by kernel_rfl
theorem lY(N:Nat)(m:Nat)(r:Rep)(x:Member)(i:Int)(f:Nat->List AV):LP Gf N 0 BD Bp 0 [] (m+1) (SL r x i (AV.sl 11 3 0 1 1) [BS.seq true 11 1 f]) =
 bif decide (i<(↑r.tail.log.length:Int))then
  bif decide (0<=i)&&decide (i<(↑r.tail.log.length:Int))then
   gC (DB) (V2) (DA) ([AV.cplx FloatKind.f64 r.got.re r.got.im,AV.cplx FloatKind.f64 (r.tail.log.getD i.toNat default).ver.re (r.tail.log.getD i.toNat default).ver.im]) fun y5=>
   bif AH y5.fst y5.snd then
    LP (Gf) (N) (0) (BD) (Bp) 0 ([]) (m) (SL r x (IntKind.i64.wrap (i+1)) (AV.sl 11 3 0 2 0) [BS.seq true 11 2 fun i_1=>bif i_1.blt 1 then f i_1 else bif i_1.blt 2 then [Ai (r.tail.log.getD i.toNat default)].getD (i_1 - 1) []else f 1])
   else
    LP (Gf) (N) (0) (BD) (Bp) 0 ([]) (m) (SL r x (IntKind.i64.wrap (i+1)) (AV.sl 11 3 0 1 1) [BS.seq true 11 1 f])
  else none
 else
  some (AV.agg [AV.int IntKind.i64 13,AV.int IntKind.i64 r.self.node,AV.int IntKind.i64 x.node,AV.int IntKind.i64 x.boot,AV.int IntKind.i64 r.self.boot,AV.int IntKind.i64 r.shard,AV.int IntKind.i64 r.view.epoch,AV.int IntKind.i64 0,AV.int IntKind.i64 0,AV.int IntKind.i64 0,AV.int IntKind.i64 0,AV.int IntKind.i64 0,AV.bool false,AV.bool false,AV.str [],AV.str [],AV.cplx FloatKind.f64 0 0,AV.cplx FloatKind.f64 r.tail.floor.re r.tail.floor.im,AV.int IntKind.i64 0,AV.str [],AV.str [],AV.str [],AV.bool false,AV.tr 11 1 fun i=>f i,AV.nils,AV.nils,AV.cplx FloatKind.f64 0 0,AV.cplx FloatKind.f64 0 0,AV.int IntKind.i64 0,AV.nils,AV.nils]):=by kernel_rfl
theorem lZ(N:Nat)(m:Nat)(r:Rep)(x:Member)(i:Int)(n:Nat)(f:Nat->List AV):LP Gf N 0 BD Bp 0 [] (m+1) (SL r x i (AV.sl 11 3 0 n 0) [BS.seq true 11 n f]) =
 bif decide (i<(↑r.tail.log.length:Int))then
  bif decide (0<=i)&&decide (i<(↑r.tail.log.length:Int))then
   gC (DB) (V2) (DA) ([AV.cplx FloatKind.f64 r.got.re r.got.im,AV.cplx FloatKind.f64 (r.tail.log.getD i.toNat default).ver.re (r.tail.log.getD i.toNat default).ver.im]) fun y6=>
   bif AH y6.fst y6.snd then
    bif n.beq 0||n.ble n then
     bif((n+1)*112).ble 140737488355328&&(n+1).ble 140737488355328 then
      LP (Gf) (N) (0) (BD) (Bp) 0 ([]) (m) (SL r x (IntKind.i64.wrap (i+1)) (AV.sl 11 3 0 (n+1) 0) [BS.seq true 11 (n+1) fun i_1=>bif i_1.blt n then f i_1 else bif i_1.blt (n+1)then [Ai (r.tail.log.getD i.toNat default)].getD (i_1 - n) []else f n])
     else none
    else none
   else
    LP (Gf) (N) (0) (BD) (Bp) 0 ([]) (m) (SL r x (IntKind.i64.wrap (i+1)) (AV.sl 11 3 0 n 0) [BS.seq true 11 n f])
  else none
 else
  bif(n.beq 0||n.ble n)&&true then
   some (AV.agg [AV.int IntKind.i64 13,AV.int IntKind.i64 r.self.node,AV.int IntKind.i64 x.node,AV.int IntKind.i64 x.boot,AV.int IntKind.i64 r.self.boot,AV.int IntKind.i64 r.shard,AV.int IntKind.i64 r.view.epoch,AV.int IntKind.i64 0,AV.int IntKind.i64 0,AV.int IntKind.i64 0,AV.int IntKind.i64 0,AV.int IntKind.i64 0,AV.bool false,AV.bool false,AV.str [],AV.str [],AV.cplx FloatKind.f64 0 0,AV.cplx FloatKind.f64 r.tail.floor.re r.tail.floor.im,AV.int IntKind.i64 0,AV.str [],AV.str [],AV.str [],AV.bool false,AV.tr 11 n fun i=>f i,AV.nils,AV.nils,AV.cplx FloatKind.f64 0 0,AV.cplx FloatKind.f64 0 0,AV.int IntKind.i64 0,AV.nils,AV.nils])
  else none:=by kernel_rfl
def rT(r:Rep)(x:Member)(i:Int)(l:List Entry):St:=SL r x i (gSl 11 3 l) (gBl 11 Ai default l)
theorem WH(N m:Nat)(r:Rep)(x:Member)(i:Int)(l:List Entry)(hl:l.length<=LB):LP Gf N 0 BD Bp 0 [] (m+1) (rT r x i l) =
  bif decide (i<(r.tail.log.length:Int))then rg i r.tail.log.length <| gC DB V2 DA [eV r.got,eV (r.tail.log.getD i.toNat default).ver] fun y=>
   bif AH y.1 y.2 then LP Gf N 0 BD Bp 0 [] m (rT r x (IntKind.i64.wrap (i+1)) (l++[r.tail.log.getD i.toNat default]))
   else LP Gf N 0 BD Bp 0 [] m (rT r x (IntKind.i64.wrap (i+1)) l)
  else some (.agg (aag r x 13 r.tail.floor (gTr 11 Ai default l))):=by
 unfold LB at hl
 match l,hl with
 | [],_=>exact(lX N m r x i).trans (by rw[rC (z:=default)];rfl)
 | [a],_=>exact(lY N m r x i _).trans (by rw[rE (z:=default)];rfl)
 | a::b::l,hl=>
  refine(lZ N m r x i (l.length+2) _).trans ?_
  have h:=YM (e:=Ai) (z:=default) (l:=a::b::l) (by simp) (r.tail.log.getD i.toNat default)
  simp only[List.length_cons]at h hl
  rw[h,rT,aes (by simp),aet (by simp)]
  simp only[ajJ (b:=112) (n:=l.length+2) (by omega) (by omega),Bool.and_true,orU,cond_true]
  rfl
theorem aaj(p:Rep × Member)(h:p.1.tail.log.length<=LB/\At p.1.got /\ ∀ e ∈ p.1.tail.log,At e.ver):Aa PG BD [.agg (Ag p.1),.agg (A6 p.2)] [] (.agg (Ac (T3 p.1 p.2))) []:=by
 obtain⟨r,m⟩:=p
 obtain⟨h1,h2,h3⟩:=h
 simp only at h1 h2 h3
 have e:=aeJ (r.tail.log.length+1) r m
 rw[qTo]at e
 have key:=rF (l:=r.tail.log) (z:=default) (keep:=fun e=>AH r.got e.ver) (G:=fun k i l=>LP Gf (r.tail.log.length+1) 0 BD Bp 0 [] k (rT r m i l)) (fin:=fun l=>some (.agg (aag r m 13 r.tail.floor (gTr 11 Ai default l))))
  (fun k acc ha=>by rw[WH _ _ _ _ _ _ (by omega),HM,decide_eq_false (by omega),cond_false])
  (fun k i acc hi ha=>by
   rw[WH _ _ _ _ _ _ (by omega),HM,decide_eq_true hi,cond_true,Bi hi,Int.toNat_natCast]
   show gC DB V2 DA [.cplx .f64 _ _,.cplx .f64 _ _] _=_
   rw[Jp h2 (h3 _ (getD_mem hi)),Bv (by unfold LB at h1;omega)])
  r.tail.log.length 0 (r.tail.log.length+1) [] (by omega) (by omega) (by simp)
 rw[List.drop_zero,List.nil_append]at key
 exact(acY (e.trans key)).res (.agg (El (by repeat' (first | exact trivial | exact Dg | exact aeu _ | exact AR.refl _ | refine⟨?_,?_⟩))))
def pFw(p:Rep × Member):Prop:=p.1.tail.log.length<=LB/\At p.1.got /\ ∀ e ∈ p.1.tail.log,At e.ver
def ac0:Known:=.spec BD WD pFw WE (fun p=>.agg (Ac (T3 p.1 p.2)))
theorem aak:ac0.Ok PG:=Known.spec_ok aaj
def ac1:List Known:=[acZ,ac0,YY,kBehind,Sb]
theorem aal:∀ k ∈ ac1,k.Ok PG:=ak aai (ak aak (ak WG (ak kBehind_ok (ak Po AL))))
def Nt:Env:=MN ac1
theorem Sc{n f:Nat}{xs:List AV}{r:AV}(e:Am Nt n f xs=some r):Aa PG f xs [] r []:=Iq (md:=fun _=>none) aal e
def Vr(r:Rep)(ph:Int):Rep:={r with view:={r.view with phase:=ph}}
def Ps(r:Rep)(ch:List Member)(sy:List Bool):Rep:={r with view:={r.view with phase:=2,chain:=ch},synced:=sy}
theorem fH{r:Rep}{ph:Int}(h:r.view.phase=ph):r=Vr r ph:=by
 cases r;rename_i v _ _ _ _ _;cases v;simp only at h;subst h;rfl
theorem aeK{r:Rep}(h:r.view.phase=2):r=Ps r r.view.chain r.synced:=by
 cases r;rename_i v _ _ _ _ _;cases v;simp only at h;subst h;rfl
def Kg(r:Rep)(fin:List (Rep × Member)->Option AV):List Member->List Bool->List (Rep × Member)->Option AV
 | m::ms,s::ss,acc=>bif !s then gC WD pRS WE [.agg (Ag r),.agg (A6 m)] fun y=>Kg r fin ms ss (acc++[y])else Kg r fin ms ss acc
 | _,_,acc=>fin acc
def Tg:List (Rep × Member)->Option AV
 | []=>some .nils
 | l=>some (.trl 31 (l.map fun y=>Ac (R8 y.1 y.2)))
def Lj(r:Rep):Option AV:=bif decide (r.frozen<=r.view.epoch)then some .nils else some .nils
theorem aam(r:Rep)(a:Member)(s:Bool):Am Nt 9 C4 [.agg (Ag (Ps r [a] [s]))] =
  bif decide (r.frozen<=r.view.epoch)then bif Qa [a] r.self then Kg (Ps r [a] [s]) Tg [a] [s] []else Lj r else Lj r:=by kernel_rfl
theorem aan(r:Rep)(a b:Member)(s t:Bool):Am Nt 9 C4 [.agg (Ag (Ps r [a,b] [s,t]))] =
  bif decide (r.frozen<=r.view.epoch)then bif Qa [a,b] r.self then Kg (Ps r [a,b] [s,t]) Tg [a,b] [s,t] []else Lj r else Lj r:=by kernel_rfl
theorem aao(r:Rep)(a b c:Member)(s t u:Bool):Am Nt 9 C4 [.agg (Ag (Ps r [a,b,c] [s,t,u]))] =
  bif decide (r.frozen<=r.view.epoch)then bif Qa [a,b,c] r.self then Kg (Ps r [a,b,c] [s,t,u]) Tg [a,b,c] [s,t,u] []else Lj r else Lj r:=by kernel_rfl
theorem aap(r:Rep)(a b c d:Member)(s t u v:Bool):Am Nt 9 C4 [.agg (Ag (Ps r [a,b,c,d] [s,t,u,v]))] =
  bif decide (r.frozen<=r.view.epoch)then bif Qa [a,b,c,d] r.self then Kg (Ps r [a,b,c,d] [s,t,u,v]) Tg [a,b,c,d] [s,t,u,v] []else Lj r else Lj r:=by kernel_rfl
theorem aeL(r:Rep):Am Nt 9 C4 [.agg (Ag (Vr r 0))]=some .nils:=by kernel_rfl
def mA(r:Rep)(l:List (List AV)):Option AV:=gC No Mm Pn [Az r.view.chain,.agg (A6 r.self)] fun z=>
 bif(FJ z.1 z.2 (-1)).isSome then gC WD pRM WE [.agg (Ag r),.agg (A6 ((FJ z.1 z.2 (-1)).getD default))] fun a=>some (.trl 31 (l++[Ac {P9 a.1 a.2 14 with ver:=T2 a.1}]))
 else match l with
  | []=>some .nils
  | l=>some (.trl 31 l)
def mB(r:Rep):Option AV:=bif decide (r.frozen<=r.view.epoch)then gC No Mm Pn [Az r.view.chain,.agg (A6 r.self)] fun y=>
   bif(FJ y.1 y.2 1).isSome then gC WD pFw WE [.agg (Ag (Vr r 3)),.agg (A6 ((FJ y.1 y.2 1).getD default))] fun f=>mA (Vr r 3) [Ac (T3 f.1 f.2)]
   else mA (Vr r 3) []
  else some .nils
theorem aeM(r:Rep):Am Nt 9 C4 [.agg (Ag (Vr r 3))]=bif decide (r.frozen<=r.view.epoch)then mB r else mB r:=by kernel_rfl
theorem Th{r:Rep}(h:Cx r){fin:List (Rep × Member)->Option AV}:∀ (l:List Member) (s:List Bool) (acc:List (Rep × Member)),∃ k,Kg r fin l s acc=fin (acc++k)/\k.map (fun y=>R8 y.1 y.2)=QN r l s
 | [],_,acc=>⟨[],by simp[Kg],rfl⟩
 | _::_,[],acc=>⟨[],by simp[Kg],rfl⟩
 | m::ms,s::ss,acc=>by
  cases s with
  | true=>
   obtain⟨k,h1,h2⟩:=Th h (fin:=fin) ms ss acc
   exact⟨k,h1,h2⟩
  | false=>
   obtain⟨k,h1,h2⟩:=Th h (fin:=fin) ms ss (acc++[(r,m)])
   refine⟨(r,m)::k,?_,by simp[QN,h2]⟩
   show(gC WD pRS WE [.agg (Ag r),.agg (A6 m)] fun y=>Kg r fin ms ss (acc++[y]))=_
   rw[qRM (P:=pRS) h,h1,List.append_assoc];rfl
theorem Vs(l:List Msg):∀ v,(match l with | []=>AV.nils | l=>.trl 31 (l.map Ac))=v->AR v (AG l):=by
 intro v hv
 subst hv
 match l with
 | []=>exact Dg
 | a::l=>exact AR.trl_encL (e:=Ac) (z:=default) (a::l)
structure Gg(r:Rep):Prop where
 short:Cx r
 ph:r.view.phase=0\/r.view.phase=2\/r.view.phase=3
 sync:r.view.phase=2->HF r.view.chain r.self=true/\r.synced.length=r.view.chain.length
 len:r.view.chain.length<=4
 got:At r.got
 log:∀ e ∈ r.tail.log,At e.ver
theorem WI{l:List Member}{m:Member}(hl:l ≠ []):Qa l m=HF l m:=by
 cases l with
 | nil=>exact absurd rfl hl
 | cons x r=>
  unfold Qa HF
  rw[Bool.and_true]
  exact YP x m
theorem fJ{r:Rep}(h:r.view.chain.length<=LB)(l:List Msg):mA r (l.map Ac)=some (match l++XO r with | []=>AV.nils | l=>.trl 31 (l.map Ac)):=by
 unfold mA XO
 rw[qLM h]
 cases hs:FJ r.view.chain r.self (-1)with
 | none=>
  cases l with
  | nil=>rfl
  | cons a l=>simp
 | some m=>
  simp only[Option.isSome_some,cond_true,Option.getD_some]
  rw[qRM (P:=pRM) h]
  cases l with
  | nil=>rfl
  | cons a l=>simp
theorem rU(r:Rep)(h:Gg r):Aa PG C4 [.agg (Ag r)] [] (AG (AD r)) []:=by
 have hLB:r.view.chain.length<=LB:=h.short.1
 rcases h.ph with hp | hp | hp
 ·have ha:AD r=[]:=by
   unfold AD MM Jm Le
   rw[hp];rfl
  rw[ha]
  have:=Sc (aeL r)
  rw[<- fH hp]at this
  exact this.res Dg
 ·obtain⟨hf,hl⟩:=h.sync hp
  have hs:MM r=decide (r.frozen<=r.view.epoch):=by
   unfold MM Le
   rw[hp];cases decide (r.frozen<=r.view.epoch) <;> rfl
  have hw:Jm r=false:=by
   unfold Jm
   rw[hp];cases Le r <;> rfl
  have key:Am Nt 9 C4 [.agg (Ag r)]=bif decide (r.frozen<=r.view.epoch)then Kg r Tg r.view.chain r.synced []else Lj r:=by
   have he:=aeK hp
   have hch:Qa r.view.chain r.self=true:=by
    rw[WI (by obtain⟨x,hx⟩:=YL hf;rw[hx];simp)];exact hf
   have hlen:=h.len
   generalize r.view.chain=ch at *
   generalize r.synced=sy at *
   match ch,sy,hl,hlen with
   | [a],[s],_,_=>have:=aam r a s;rw[<- he,hch]at this;exact this
   | [a,b],[s,t],_,_=>have:=aan r a b s t;rw[<- he,hch]at this;exact this
   | [a,b,c],[s,t,u],_,_=>have:=aao r a b c s t u;rw[<- he,hch]at this;exact this
   | [a,b,c,d],[s,t,u,v],_,_=>have:=aap r a b c d s t u v;rw[<- he,hch]at this;exact this
   | [],_,_,_=>simp[HF]at hf
  unfold AD
  rw[hs,hw]
  cases hd:decide (r.frozen<=r.view.epoch)with
  | false=>unfold Lj at key;rw[hd]at key;exact(Sc key).res Dg
  | true=>
   rw[hd,cond_true]at key
   obtain⟨k,h1,h2⟩:=Th h.short (fin:=Tg) r.view.chain r.synced []
   rw[h1,List.nil_append]at key
   simp only[cond_true]
   rw[<- h2]
   refine(Sc (r:=match k.map (fun y=>R8 y.1 y.2)with | []=>AV.nils | l=>.trl 31 (l.map Ac)) (key.trans ?_)).res (Vs _ _ rfl)
   cases k with
   | nil=>rfl
   | cons a k=>simp[Tg,List.map_map,Function.comp_def]
 ·have hs:MM r=false:=by
   unfold MM
   rw[hp];cases Le r <;> rfl
  have hw:Jm r=decide (r.frozen<=r.view.epoch):=by
   unfold Jm Le
   rw[hp];cases decide (r.frozen<=r.view.epoch) <;> rfl
  have key:=aeM r
  unfold mB at key
  rw[<- fH hp,qLM hLB]at key
  unfold AD
  rw[hs,hw]
  cases hd:decide (r.frozen<=r.view.epoch)with
  | false=>rw[hd]at key;exact(Sc key).res Dg
  | true=>
   rw[hd]at key
   simp only[cond_true,cond_false]at key ⊢
   unfold rB
   cases hsd:FJ r.view.chain r.self 1 with
   | none=>
    rw[hsd]at key
    have:=fJ hLB []
    simp only[Option.isSome_none,cond_false]at key
    exact(Sc (key.trans this)).res (Vs _ _ rfl)
   | some m=>
    rw[hsd]at key
    simp only[Option.isSome_some,cond_true,Option.getD_some]at key
    rw[qRM (P:=pFw) ⟨h.short.2.1,h.got,h.log⟩]at key
    have:=fJ hLB [T3 r m]
    exact(Sc (key.trans this)).res (Vs _ _ rfl)
def Ue:Known:=.spec C4 CQ Gg CR (fun r=>AG (AD r))
theorem QS:Ue.Ok PG:=Known.spec_ok rU
def Pt(lv:List (Nat × Nat × List Nat))(md:Nat->Option Nat)(l:List Known):Env:={Vm md (Nm l)with live:=fun f b=>QI f b (lv++Vl)}
theorem Sd{lv:List (Nat × Nat × List Nat)}{md:Nat->Option Nat}{l:List Known}(h:∀ k ∈ l,k.Ok PG):C5 PG (Pt lv md l):=⟨lE rfl,TX h⟩
theorem Nu{lv:List (Nat × Nat × List Nat)}{md:Nat->Option Nat}{l:List Known}:Gb PG (Pt lv md l):=QH rfl
theorem aaq{lv:List (Nat × Nat × List Nat)}{md:Nat->Option Nat}{l:List Known}(h:∀ k ∈ l,k.Ok PG){n f:Nat}{args:List AV}{r:AV}(e:Am (Pt lv md l) n f args=some r):Aa PG f args [] r []:=
 Td (Sd h) Nu mixed e
end Go.Wk
end
noncomputable section
open Go Go.AM Go.Md
namespace Go.Wk
set_option maxRecDepth 100000
set_option maxHeartbeats 400000
theorem Ch.trl{sz:Nat}:∀ {a b:List (List AV)},a.length=b.length->(∀ i,i<a.length->Ch (a.getD i []) (b.getD i []))->AR (.trl sz a) (.trl sz b):=by
 intro a b hl h w I u hv
 cases hv with
 | trl _ _ _ h1 hz=>
  refine .trl _ _ _ ?_ hz
  rw[<- hl]
  exact AR.trs h w I u h1
theorem fK{X:Type}{sz:Nat}{f g:X->List AV}(h:∀ x,Ch (f x) (g x))(l:List X):AR (.trl sz (l.map f)) (.trl sz (l.map g)):=by
 refine Ch.trl (by simp) fun i hi=>?_
 have hi:i<l.length:=by simpa using hi
 have e1:(l.map f).getD i []=f l[i]:=by simp[List.getD,List.getElem?_eq_getElem hi]
 have e2:(l.map g).getD i []=g l[i]:=by simp[List.getD,List.getElem?_eq_getElem hi]
 rw[e1,e2];exact h _
def ac2:List Known:=[FD,OA,lQ,Vo]
theorem aar:∀ k ∈ ac2,k.Ok PG:=ak DZ (ak Mn (ak YU (ak OB AL)))
def IT:Env:=MN ac2
theorem aeN(f:Ver)(l:Ver)(e:Entry):Am IT 9 HL [AV.agg [eV f,eV l,AV.nils],AV.agg (Ai e)] =
 gC (DB) (V2) (DA) ([AV.cplx FloatKind.f64 l.re l.im,AV.cplx FloatKind.f64 e.ver.re e.ver.im]) fun y0=>
 bif !AH y0.fst y0.snd then
  some (AV.tup [AV.agg [AV.cplx FloatKind.f64 f.re f.im,AV.cplx FloatKind.f64 l.re l.im,AV.nils],AV.bool false])
 else
  some (AV.tup [AV.agg [AV.cplx FloatKind.f64 f.re f.im,AV.cplx FloatKind.f64 e.ver.re e.ver.im,AV.trl 11 [Ai e]],AV.bool true]):=by kernel_rfl
theorem aeO(f:Ver)(l:Ver)(e:Entry):Am IT 9 HL [AV.agg [eV f,eV l,AV.trl 11 []],AV.agg (Ai e)] =
 gC (DB) (V2) (DA) ([AV.cplx FloatKind.f64 l.re l.im,AV.cplx FloatKind.f64 e.ver.re e.ver.im]) fun y1=>
 bif !AH y1.fst y1.snd then
  some (AV.tup [AV.agg [AV.cplx FloatKind.f64 f.re f.im,AV.cplx FloatKind.f64 l.re l.im,AV.trl 11 []],AV.bool false])
 else
  some (AV.tup [AV.agg [AV.cplx FloatKind.f64 f.re f.im,AV.cplx FloatKind.f64 e.ver.re e.ver.im,AV.trl 11 [Ai e]],AV.bool true]):=by kernel_rfl
theorem aeP(f:Ver)(l:Ver)(e:Entry)(n:Nat)(g:Nat->List AV):Am IT 9 HL [AV.agg [eV f,eV l,AV.tr 11 (n+1) g],AV.agg (Ai e)] =
 bif((0+(n+1))*112).ble 140737488355328&&(0+(n+1)).ble 140737488355328 then
  gC (DB) (V2) (DA) ([AV.cplx FloatKind.f64 l.re l.im,AV.cplx FloatKind.f64 e.ver.re e.ver.im]) fun y2=>
  bif !AH y2.fst y2.snd then
   bif(n+1).ble (n+1)&&true&&true then
    some (AV.tup [AV.agg [AV.cplx FloatKind.f64 f.re f.im,AV.cplx FloatKind.f64 l.re l.im,AV.tr 11 (n+1) fun i=>g i],AV.bool false])
   else none
  else
   bif(n+1).ble (n+1)then
    bif((n+1+1)*112).ble 140737488355328&&(n+1+1).ble 140737488355328 then
     bif(n+1+1).ble (n+1+1)&&true&&true then
      some (AV.tup [AV.agg [AV.cplx FloatKind.f64 f.re f.im,AV.cplx FloatKind.f64 e.ver.re e.ver.im,AV.tr 11 (n+1+1) fun i=>bif i.blt (n+1)then g i else bif i.blt (n+1+1)then [Ai e].getD (i - (n+1)) []else g (n+1)],AV.bool true])
     else none
    else none
   else none
 else none:=by kernel_rfl
def Uf(a:Seen):Seen:=⟨1,a.num,a.ver,a.kind,a.code,a.res,a.hasRes⟩
theorem ahc(s:Seen):Am IT 20 DL [AV.nils,AV.agg (As s)] =
 some (AV.trl 7 [As s]):=by kernel_rfl
theorem ahd(s:Seen):Am IT 20 DL [AV.trl 7 [],AV.agg (As s)] =
 some (AV.trl 7 [As s]):=by kernel_rfl
theorem ahe(a:Seen)(s:Seen):Am IT 20 DL [AV.trl 7 [As (Uf a)],AV.agg (As (Uf s))] =
 bif decide ((Uf a).num<(Uf s).num)then
  some (AV.trl 7 [[AV.int IntKind.i64 1,AV.int IntKind.i64 s.num,AV.cplx FloatKind.f64 s.ver.re s.ver.im,AV.int IntKind.i64 s.kind,AV.int IntKind.i64 s.code,AV.str s.res,AV.bool s.hasRes]])
 else
  some (AV.trl 7 [[AV.int IntKind.i64 1,AV.int IntKind.i64 a.num,AV.cplx FloatKind.f64 a.ver.re a.ver.im,AV.int IntKind.i64 a.kind,AV.int IntKind.i64 a.code,AV.str a.res,AV.bool a.hasRes]]):=by kernel_rfl
def Gh(t:Tail)(e:Entry):Tail × Bool:=bif AH t.last e.ver then(⟨t.floor,e.ver,t.log++[e]⟩,true)else(t,false)
abbrev TE:=Tail × Entry
def rV(a:List AV):TE:=(Eo (Ay a 0),Bf (Ay a 1))
def WJ(p:TE):Prop:=p.1.log.length<=10000/\At p.1.last/\At p.2.ver
def YZ(p:TE):List AV:=[.agg (AK p.1),.agg (Ai p.2)]
def fL(p:TE):AV:=.tup [.agg (AK (Gh p.1 p.2).1),.bool (Gh p.1 p.2).2]
theorem Lk{n f:Nat}{xs:List AV}{r:AV}(e:Am IT n f xs=some r):Aa PG f xs [] r []:=Iq (md:=fun _=>none) aar e
theorem Ix{f l:Ver}{a b:AV}(h:AR a b):AR (.agg [eV f,eV l,a]) (.agg [eV f,eV l,b]):=.agg (.cons (.refl _) (.cons (.refl _) (.cons h .nil)))
theorem aeQ{f l:Ver}{g:Nat->List AV}{x:AV}:Ov [.agg [eV f,eV l,.tr 11 0 g],x] [.agg [eV f,eV l,.nils],x] [.agg [eV f,eV l,.trl 11 []],x]:=Ov.of [] [x] (.agg (Ov.of [eV f,eV l] [] .nil))
theorem tup2{a b:AV}{c:Bool}(h:AR a b):AR (.tup [a,.bool c]) (.tup [b,.bool c]):=.tup (.cons h (.cons (.refl _) .nil))
theorem one_sub(e:Entry):AR (.trl 11 [Ai e]) (Ae [e]):=AR.trl_of [e] rfl
theorem fM:AR (.trl 11 []) (Ae []):=AR.trl_of [] rfl
theorem aas{F:Nat}
  (hn:∀ (f l:Ver) (e:Entry),Am IT 9 F [.agg [eV f,eV l,.nils],.agg (Ai e)]=gC DB V2 DA [.cplx .f64 l.re l.im,.cplx .f64 e.ver.re e.ver.im] fun y=>bif !AH y.1 y.2 then some (.tup [.agg [eV f,eV l,.nils],.bool false])else some (.tup [.agg [eV f,eV e.ver,.trl 11 [Ai e]],.bool true]))
  (he:∀ (f l:Ver) (e:Entry),Am IT 9 F [.agg [eV f,eV l,.trl 11 []],.agg (Ai e)]=gC DB V2 DA [.cplx .f64 l.re l.im,.cplx .f64 e.ver.re e.ver.im] fun y=>bif !AH y.1 y.2 then some (.tup [.agg [eV f,eV l,.trl 11 []],.bool false])else some (.tup [.agg [eV f,eV e.ver,.trl 11 [Ai e]],.bool true]))
  (hc:∀ (f l:Ver) (e:Entry) (n:Nat) (g:Nat->List AV),n<=10000->At l->At e.ver->Am IT 9 F [.agg [eV f,eV l,.tr 11 (n+1) g],.agg (Ai e)] =
   bif AH l e.ver then some (.tup [.agg [eV f,eV e.ver,.tr 11 (n+1+1) fun i=>bif i.blt (n+1)then g i else bif i.blt (n+1+1)then [Ai e].getD (i - (n+1)) []else g (n+1)],.bool true])else some (.tup [.agg [eV f,eV l,.tr 11 (n+1) fun i=>g i],.bool false]))
  (p:TE) (h:WJ p):Aa PG F (YZ p) [] (fL p) []:=by
 obtain⟨⟨f,l,log⟩,e⟩:=p
 obtain⟨h1,h2,h3⟩:=h
 simp only at h1 h2 h3
 cases log with
 | nil=>
  refine Aa.split aeQ ?_ ?_
  ·have k:=hn f l e
   rw[Jp h2 h3]at k
   unfold fL Gh
   simp only at k ⊢
   cases hv:AH l e.ver with
   | false=>rw[hv]at k;exact(Lk k).res (tup2 (Ix Dg))
   | true=>rw[hv]at k;exact(Lk k).res (tup2 (Ix (one_sub e)))
  ·have k:=he f l e
   rw[Jp h2 h3]at k
   unfold fL Gh
   simp only at k ⊢
   cases hv:AH l e.ver with
   | false=>rw[hv]at k;exact(Lk k).res (tup2 (Ix fM))
   | true=>rw[hv]at k;exact(Lk k).res (tup2 (Ix (one_sub e)))
 | cons a log=>
  have k:=hc f l e log.length (fun i=>Ai ((a::log).getD i default)) (by simp only[List.length_cons]at h1;omega) h2 h3
  unfold fL Gh
  simp only
  cases hv:AH l e.ver with
  | false=>rw[hv]at k;exact Lk k
  | true=>
   rw[hv]at k
   refine(Lk k).res (tup2 (Ix ?_))
   have:=YC Ai default (a::log) [e]
   have e2:(a::log++[e]).length=log.length+1+1:=by simp
   have e3:Ae (a::log++[e])=.tr 11 (log.length+1+1) fun i=>Ai ((a::log++[e]).getD i default):=by unfold Ae C8;rw[e2]
   show AR _ (Ae (a::log++[e]))
   rw[e3,<- this]
   exact .refl _
theorem mC{n b:Nat}(hb:b<=1000)(h:n<=1000000):(Nat.ble (n*b) 140737488355328&&Nat.ble n 140737488355328)=true:=by
 have h1:n*b<=140737488355328:=by
  have:n*b<=1000000*1000:=Nat.mul_le_mul (by omega) hb
  omega
 rw[Bo h1,Bo (by omega:n<=140737488355328)];rfl
theorem rW(p:TE)(h:WJ p):Aa PG HL (YZ p) [] (fL p) []:=
 aas aeN aeO (fun f l e n g hn h2 h3=>by
  refine(aeP f l e n g).trans ?_
  rw[mC (n:=0+(n+1)) (by omega) (by omega),cond_true,Jp h2 h3]
  simp only[YS,Bool.and_true,cond_true,mC (n:=n+1+1) (b:=112) (by omega) (by omega)]
  cases AH l e.ver <;> rfl) p h
def Y0:Known:=.spec HL rV WJ YZ fL
theorem WL:Y0.Ok PG:=Known.spec_ok rW
theorem qTE{R:Type}{t:Tail}{e:Entry}{k:TE->Option R}(h:WJ (t,e)):gC rV WJ YZ [.agg (AK t),.agg (Ai e)] k=k (t,e):=Aw (t,e) (Prod.ext (Ec t) (GO e)) h (.refl _)
abbrev SS:=List Seen × Seen
def fN(a:List AV):SS:=(AN BZ (a.getD 0 .nils),BZ (Ay a 1))
def Za(p:SS):Prop:=(p.1.length<=1 /\ ∀ a ∈ p.1,a.sess=1)/\p.2.sess=1
def Ug(p:SS):List AV:=[Ax p.1,.agg (As p.2)]
def oSS(p:SS):AV:=Ax (putP p.1 p.2)
theorem ac3{a:Seen}(h:a.sess=1):a=Uf a:=by cases a;simp only at h;subst h;rfl
theorem put_con{F:Nat}(hn:∀ s,Am IT 20 F [.nils,.agg (As s)]=some (.trl 7 [As s]))(he:∀ s,Am IT 20 F [.trl 7 [],.agg (As s)]=some (.trl 7 [As s]))
  (h1:∀ a s:Seen,Am IT 20 F [.trl 7 [As (Uf a)],.agg (As (Uf s))]=bif decide (a.num<s.num)then some (.trl 7 [As (Uf s)])else some (.trl 7 [As (Uf a)]))
  (p:SS) (h:Za p):Aa PG F (Ug p) [] (oSS p) []:=by
 obtain⟨l,s⟩:=p
 obtain⟨⟨g1,g2⟩,g3⟩:=h
 simp only at g1 g2 g3
 have one:∀ s,AR (.trl 7 [As s]) (Ax [s]):=fun s=>AR.trl_of [s] rfl
 cases l with
 | nil=>exact Aa.split (Ov.of [] [.agg (As s)] .nil) ((Lk (hn s)).res (one s)) ((Lk (he s)).res (one s))
 | cons a l=>
  have:l=[]:=by cases l with
   | nil=>rfl
   | cons b c=>simp at g1
  subst this
  have k:=h1 a s
  rw[<- ac3 (g2 a (by simp)),<- ac3 g3]at k
  have key:Aa PG F [.trl 7 [As a],.agg (As s)] [] (Ax (bif decide (a.num<s.num)then [s]else [a])) []:=by
   cases hd:decide (a.num<s.num)with
   | true=>rw[hd]at k;exact(Lk k).res (one s)
   | false=>rw[hd]at k;exact(Lk k).res (one a)
  exact key.args (.cons (AR.encL_trl [a] (by simp)) (.refl _))
theorem aat(p:SS)(h:Za p):Aa PG DL (Ug p) [] (oSS p) []:=put_con ahc ahd (fun a s=>(ahe a s).trans rfl) p h
def kSPut:Known:=.spec DL fN Za Ug oSS
theorem kSPut_ok:kSPut.Ok PG:=Known.spec_ok aat
theorem qSS{R:Type}{l:List Seen}{s:Seen}{k:SS->Option R}(h:Za (l,s)):gC fN Za Ug [Ax l,.agg (As s)] k=k (l,s):=Aw (l,s) (Prod.ext (EE l) (Jl s)) h (.refl _)
def ac4:List Known:=[Y0,kSPut,kOf]
theorem aau:∀ k ∈ ac4,k.Ok PG:=ak WL (ak kSPut_ok (ak rO AL))
def ac5:Env:=MN ac4
theorem ajL{n f:Nat}{xs:List AV}{r:AV}(e:Am ac5 n f xs=some r):Aa PG f xs [] r []:=Iq (md:=fun _=>none) aau e
theorem aav(r:Rep)(e:Entry):Am ac5 9 EU [AV.agg (Ag r),AV.agg (Ai e)] =
 gC (rV) (WJ) (YZ) ([AV.agg (AK r.tail),AV.agg (Ai e)]) fun y0=>
 bif !(Gh y0.fst y0.snd).snd then
  some (AV.tup [AV.agg (Ag r),AV.bool false])
 else
  gC (Ub) (Uc) (Ud) ([AV.agg (Ai e)]) fun y1=>
  gC (fN) (Za) (Ug) ([Ax r.seen,AV.agg [AV.int IntKind.i64 y1.sess,AV.int IntKind.i64 y1.num,AV.cplx FloatKind.f64 y1.ver.re y1.ver.im,AV.int IntKind.i64 y1.kind,AV.int IntKind.i64 y1.code,AV.str y1.res,AV.bool y1.hasRes]]) fun y2=>
  some (AV.tup [AV.agg [AV.int IntKind.i64 r.shard,AV.int IntKind.i64 r.self.node,AV.int IntKind.i64 r.self.boot,AV.int IntKind.i64 r.view.shard,AV.int IntKind.i64 r.view.epoch,AV.int IntKind.i64 r.view.gen,AV.int IntKind.i64 r.view.phase,Az r.view.chain,AV.int IntKind.i64 r.frozen,AV.cplx FloatKind.f64 (Gh y0.fst y0.snd).fst.floor.re (Gh y0.fst y0.snd).fst.floor.im,AV.cplx FloatKind.f64 (Gh y0.fst y0.snd).fst.last.re (Gh y0.fst y0.snd).fst.last.im,Ae (Gh y0.fst y0.snd).fst.log,Ax (putP y2.fst y2.snd),AV.cplx FloatKind.f64 r.got.re r.got.im,Ci r.synced],AV.bool true]):=by kernel_rfl
structure PushOk(r:Rep)(e:Entry):Prop where
 log:r.tail.log.length<=10000
 last:At r.tail.last
 ver:At e.ver
 seen:r.seen.length<=1 /\ ∀ a ∈ r.seen,a.sess=1
 sess:e.sess=1
abbrev RE:=Rep × Entry
def QT(a:List AV):RE:=(Cz (Ay a 0),Bf (Ay a 1))
def fP(p:RE):Prop:=PushOk p.1 p.2
def Nv(p:RE):List AV:=[.agg (Ag p.1),.agg (Ai p.2)]
def oRE(p:RE):AV:=.tup [.agg (Ag (pushP p.1 p.2).1),.bool (pushP p.1 p.2).2]
theorem qRE{R:Type}{r:Rep}{e:Entry}{P:RE->Prop}{k:RE->Option R}(h:P (r,e)):gC QT P Nv [.agg (Ag r),.agg (Ai e)] k=k (r,e):=Aw (r,e) (Prod.ext (B8 r) (GO e)) h (.refl _)
theorem aaw{r:Rep}{e:Entry}(h:PushOk r e){x:Option AV}(hx:x=gC rV WJ YZ [.agg (AK r.tail),.agg (Ai e)] fun y0=>bif !(Gh y0.1 y0.2).2 then some (.tup [.agg (Ag r),.bool false])else gC Ub Uc Ud [.agg (Ai e)] fun y1=>
  gC fN Za Ug [Ax r.seen,.agg (As (Ht y1))] fun y2=>some (.tup [.agg (Ag {r with tail:=(Gh y0.1 y0.2).1,seen:=putP y2.1 y2.2}),.bool true])):x=some (oRE (r,e)):=by
 subst hx
 rw[qTE ⟨h.log,h.last,h.ver⟩]
 unfold oRE pushP Gh
 simp only
 cases hv:AH r.tail.last e.ver with
 | false=>rfl
 | true=>
  simp only[cond_true,Bool.not_true,cond_false]
  rw[acV,qSS ⟨h.seen,h.sess⟩]
  rfl
theorem rX(p:RE)(h:fP p):Aa PG EU (Nv p) [] (oRE p) []:=ajL (aaw h (aav p.1 p.2))
def kPush:Known:=.spec EU QT fP Nv oRE
theorem kPush_ok:kPush.Ok PG:=Known.spec_ok rX
structure QU(t:Tail)(v:Ver):Prop where
 len:t.log.length<=10000
 fl:At t.floor
 la:At t.last
 v:At v
 log:∀ e ∈ t.log,At e.ver
 le:FC t.floor t.last
abbrev TV:=Tail × Ver
def dTV(a:List AV):TV:=(Eo (Ay a 0),⟨(BF a 1).1,(BF a 1).2⟩)
def rY(p:TV):Prop:=QU p.1 p.2
def rZ(p:TV):List AV:=[.agg (AK p.1),eV p.2]
def oTV(p:TV):AV:=.agg (AK (XP p.1 p.2))
theorem qTV{R:Type}{t:Tail}{v:Ver}{k:TV->Option R}(h:QU t v):gC dTV rY rZ [.agg (AK t),eV v] k=k (t,v):=Aw (t,v) (Prod.ext (Ec t) rfl) h (.refl _)
theorem At.max{a b:Ver}(ha:At a)(hb:At b):At (BB a b):=by
 rcases aeq a b with e | e <;> rw[e] <;> assumption
def mdL(f:Nat):Option Nat:=bif Nat.beq f A9 then some 5 else bif Nat.beq f Bn then some 5 else bif Nat.beq f C6 then some 0 else none
abbrev EV:=Entry × Ver
def dEV(a:List AV):EV:=(Bf (Ay a 0),match a.getD 1 .nils with
 | .tp cs _=>⟨(BF cs 0).1,(BF cs 0).2⟩
 | _=>⟨0,0⟩)
def sD(p:EV):Prop:=At p.1.ver/\At p.2
def sE(p:EV):List AV:=[.agg (Ai p.1),.tp [eV p.2] 0]
def oEV(p:EV):AV:=.bool (!AH p.2 p.1.ver)
def sG:Env:=Pt [] mdL [FD]
theorem ahf{n f:Nat}{xs:List AV}{r:AV}(e:Am sG n f xs=some r):Aa PG f xs [] r []:=aaq (ak DZ AL) e
theorem c1_eq(e:Entry)(v:Ver):Am sG 5 C6 [AV.agg (Ai e),AV.tp [eV v] 0] =
 gC (DB) (V2) (DA) ([AV.cplx FloatKind.f64 v.re v.im,AV.cplx FloatKind.f64 e.ver.re e.ver.im]) fun y0=>
 some (AV.bool !AH y0.fst y0.snd):=by kernel_rfl
theorem c1_con(p:EV)(h:sD p):Aa PG C6 (sE p) [] (oEV p) []:=ahf ((c1_eq p.1 p.2).trans (by rw[Jp h.2 h.1];rfl))
def kC1:Known:=.spec C6 dEV sD sE oEV
theorem kC1_ok:kC1.Ok PG:=Known.spec_ok c1_con
theorem qEV{R:Type}{e:Entry}{v:Ver}{k:EV->Option R}(h:At e.ver)(h':At v):gC dEV sD sE [.agg (Ai e),.tp [.cplx .f64 v.re v.im] 0] k=k (e,v):=Aw (e,v) (Prod.ext (GO e) rfl) ⟨h,h'⟩ (.refl _)
abbrev LV:=List Entry × Ver
def Zb(p:LV):Heap:=[.seq true 11 p.1.length fun i=>Ai (p.1.getD i default),.arr true 1 [[eV p.2]]]
def eLV(p:LV):List AV × Heap:=([.sl 11 0 0 p.1.length 0,.fn (.func C6) [] [.ptr 1 0 0]],Zb p)
def OD:Env:=Pt [] mdL [kC1]
def SIx(p:LV)(i:Int):St:={fr:=[(0,.sl 11 0 0 p.1.length 0),(1,.fn (.func C6) [] [.ptr 1 0 0]),(7,.int .i64 p.1.length),(8,.int .i64 i)],hp:=Zb p}
theorem ajM(N:Nat)(p:LV):Mh OD (N+1) Bn (eLV p).1 (eLV p).2=LP OD N 2 Bn (SJ 2) 0 [] N (SIx p 0):=by kernel_rfl
theorem fQ(N:Nat)(m:Nat)(p:LV)(i:Int):LP OD N 2 Bn (SJ 2) 0 [] (m+1) (SIx p i) =
 bif decide (i<(↑p.fst.length:Int))then
  bif decide (0<=i)&&decide (i<(↑p.fst.length:Int))then
   bif(0+i.toNat).blt p.fst.length then
    gC (dEV) (sD) (sE) ([AV.agg (Ai (p.fst.getD (0+i.toNat) default)),AV.tp [AV.cplx FloatKind.f64 p.snd.re p.snd.im] 0]) fun y1=>
    bif !AH y1.snd y1.fst.ver then
     some ((AV.int IntKind.i64 i,[BS.seq true 11 p.fst.length fun i=>Ai (p.fst.getD i default),BS.arr true 1 [[AV.cplx FloatKind.f64 p.snd.re p.snd.im]]]))
    else
     LP (OD) (N) (2) (Bn) (SJ 2) 0 ([]) (m) (SIx p (IntKind.i64.wrap (i+1)))
   else none
  else none
 else
  some ((AV.int IntKind.i64 (-1),[BS.seq true 11 p.fst.length fun i=>Ai (p.fst.getD i default),BS.arr true 1 [[AV.cplx FloatKind.f64 p.snd.re p.snd.im]]])):=by kernel_rfl
def D1(v:Ver):List Entry->Nat->Int
 | [],_=>-1
 | e::r,i=>if AH v e.ver=true then D1 v r (i+1)else i
def Pu(_:List AV)(h:Heap):LV:=(match Ab h 0 with
 | .seq _ _ n f=>(List.range n).map fun i=>Bf (f i)
 | _=>[],match Ab h 1 with
 | .arr _ _ [[.cplx _ a b]]=>⟨a,b⟩
 | _=>⟨0,0⟩)
def Uh(p:LV):Prop:=p.1.length<=10000/\At p.2 /\ ∀ e ∈ p.1,At e.ver
def oIx(p:LV):AV × Heap:=(.int .i64 (D1 p.2 p.1 0),Zb p)
def kIx:Known:=.specH Bn Pu Uh eLV oIx
def MR:Env:=Pt [] mdL [kC1,kIx]
def SDl(p:LV)(i j:Int)(F:Nat->Entry):St:={fr:=[(0,.sl 11 0 0 p.1.length 0),(1,.fn (.func C6) [] [.ptr 1 0 0]),(5,.int .i64 i),(6,.int .i64 j)],hp:=[.seq true 11 p.1.length fun x=>Ai (F x),.arr true 1 [[eV p.2]]]}
theorem ahg(N:Nat)(p:LV):Mh MR (N+1) A9 (eLV p).1 (eLV p).2=YA Pu Uh eLV (eLV p).1 (eLV p).2 fun y2=>
 bif decide (D1 y2.2 y2.1 0 = -1)then some (.sl 11 0 0 p.1.length 0,Zb y2)
 else LP MR N 2 A9 (SJ 2) 0 [] N {fr:=[(0,.sl 11 0 0 p.1.length 0),(1,.fn (.func C6) [] [.ptr 1 0 0]),(5,.int .i64 (D1 y2.2 y2.1 0)),(6,.int .i64 (IntKind.i64.wrap (D1 y2.2 y2.1 0+1)))],hp:=Zb y2}:=by kernel_rfl
theorem Zc(N:Nat)(m:Nat)(p:LV)(i:Int)(j:Int)(F:Nat->Entry):LP MR N 2 A9 (SJ 2) 0 [] (m+1) (SDl p i j F) =
 bif decide (j<(↑p.fst.length:Int))then
  bif decide (0<=j)&&decide (j<(↑p.fst.length:Int))then
   bif(0+j.toNat).blt p.fst.length then
    gC (dEV) (sD) (sE) ([AV.agg (Ai (F (0+j.toNat))),AV.tp [AV.cplx FloatKind.f64 p.snd.re p.snd.im] 0]) fun y2=>
    bif !!AH y2.snd y2.fst.ver then
     bif decide (0<=i)&&decide (i<(↑p.fst.length:Int))then
      bif(0+i.toNat).blt p.fst.length&&true then
       LP (MR) (N) (2) (A9) (SJ 2) 0 ([]) (m) ({fr:=[(0,AV.sl 11 0 0 p.fst.length 0),(1,AV.fn (Fn.func C6) [] [AV.ptr 1 0 0]),(5,AV.int IntKind.i64 (IntKind.i64.wrap (i+1))),(6,AV.int IntKind.i64 (IntKind.i64.wrap (j+1)))],hp:=[BS.seq true 11 p.fst.length fun i'=>bif i'.beq (0+i.toNat)then Ai (F (0+j.toNat))else Ai (F i'),BS.arr true 1 [[AV.cplx FloatKind.f64 p.snd.re p.snd.im]]]})
      else none
     else none
    else
     LP (MR) (N) (2) (A9) (SJ 2) 0 ([]) (m) (SDl p i (IntKind.i64.wrap (j+1)) F)
   else none
  else none
 else
  bif decide (0<=i)&&decide (i<=(↑p.fst.length:Int))then
   bif(p.fst.length - i.toNat).beq 0 then
    bif decide (0<=i)&&decide (i<=(↑(F4 p.fst.length 0):Int))then
     some ((AV.sl 11 0 0 i.toNat 0,[BS.seq true 11 p.fst.length fun x=>Ai (F x),BS.arr true 1 [[AV.cplx FloatKind.f64 p.snd.re p.snd.im]]]))
    else none
   else
    bif(0+i.toNat+(p.fst.length - i.toNat)).ble p.fst.length then
     bif decide (0<=i)&&decide (i<=(↑(F4 p.fst.length 0):Int))then
      some ((AV.sl 11 0 0 i.toNat 0,[BS.seq true 11 p.fst.length fun i_1=>bif i_1.blt (0+i.toNat)then Ai (F i_1)else bif i_1.blt (0+i.toNat+(p.fst.length - i.toNat))then [AV.cplx FloatKind.f64 0 0,AV.int IntKind.i64 0,AV.str [],AV.str [],AV.bool false,AV.bool false,AV.int IntKind.i64 0,AV.int IntKind.i64 0,AV.int IntKind.i64 0,AV.str [],AV.bool false]else Ai (F i_1),BS.arr true 1 [[AV.cplx FloatKind.f64 p.snd.re p.snd.im]]]))
     else none
    else none
  else none:=by kernel_rfl
theorem ahh{p:LV}{N:Nat}{r:AV}{h:Heap}(e:Mh OD N Bn (eLV p).1 (eLV p).2=some (r,h)):Aa PG Bn (eLV p).1 (eLV p).2 r h/\(eLV p).2.length<=h.length:=
 KP (Sd (ak kC1_ok AL)) Nu mixed e
theorem ahi(p:LV)(h:Uh p):Aa PG Bn (eLV p).1 (eLV p).2 (oIx p).1 (oIx p).2/\(eLV p).2.length<=(oIx p).2.length:=by
 obtain⟨h1,h2,h3⟩:=h
 have run:∀ d i m,i+d=p.1.length->d<m->LP OD (p.1.length+1) 2 Bn (SJ 2) 0 [] m (SIx p (i:Nat))=some (.int .i64 (D1 p.2 (p.1.drop i) i),Zb p):=by
  intro d
  induction d with
  | zero=>
   intro i m hi hm
   obtain⟨m,rfl⟩:∃ k,m=k+1:=⟨m - 1,by omega⟩
   rw[fQ,HM,decide_eq_false (by omega),cond_false,List.drop_eq_nil_of_le (by omega)]
   rfl
  | succ d ih=>
   intro i m hi hm
   obtain⟨m,rfl⟩:∃ k,m=k+1:=⟨m - 1,by omega⟩
   have hil:i<p.1.length:=by omega
   rw[fQ,HM,decide_eq_true hil,IS,drop_cons (z:=default) hil]
   simp only[cond_true,Bool.and_true,Int.toNat_natCast,Nat.zero_add,AB hil]
   rw[qEV (h3 _ (getD_mem hil)) h2,Bv (by omega)]
   unfold D1
   cases hv:AH p.2 (p.1.getD i default).ver with
   | true=>
    simp only[Bool.not_true,cond_false,if_true]
    exact ih (i+1) m (by omega) (by omega)
   | false=>
    simp only[Bool.not_false,cond_true]
    rfl
 exact ahh ((ajM (p.1.length+1) p).trans (run p.1.length 0 (p.1.length+1) (by omega) (by omega)))
theorem ahj:kIx.Ok PG:=Known.specH_ok ahi
theorem aax(p:LV):Pu (eLV p).1 (eLV p).2=p:=by
 show((List.range p.1.length).map (fun i=>Bf (Ai (p.1.getD i default))),(⟨p.2.re,p.2.im⟩:Ver))=p
 refine Prod.ext ?_ rfl
 refine List.ext_getElem (by simp) fun i g1 g2=>?_
 simp[GO,List.getD,List.getElem?_eq_getElem g2]
theorem qLV{R:Type}{p:LV}{P:LV->Prop}{k:LV->Option R}(h:P p):YA Pu P eLV (eLV p).1 (eLV p).2 k=k p:=qV p (aax p) h rfl
def OE(v:Ver):Nat->Nat->Nat->(Nat->Entry)->Nat × (Nat->Entry)
 | 0,_,i,F=>(i,F)
 | d+1,j,i,F=>bif AH v (F j).ver then OE v d (j+1) (i+1) (fun x=>bif Nat.beq x i then F j else F x)else OE v d (j+1) i F
def Zd(n:Nat)(r:Nat × (Nat->Entry)):Nat->Entry:=fun x=>bif Nat.blt x r.1 then r.2 x else bif Nat.blt x (r.1+(n - r.1))then default else r.2 x
theorem del_run{p:LV}(h:Uh p){N:Nat}:∀ d i j m F,j+d=p.1.length->d<m->i<j->(∀ x,j<=x->x<p.1.length->F x=p.1.getD x default) ->
  LP MR N 2 A9 (SJ 2) 0 [] m (SDl p (i:Nat) (j:Nat) F)=some (.sl 11 0 0 (OE p.2 d j i F).1 0,[.seq true 11 p.1.length fun x=>Ai (Zd p.1.length (OE p.2 d j i F) x),.arr true 1 [[eV p.2]]]):=by
 obtain⟨h1,h2,h3⟩:=h
 intro d
 induction d with
 | zero=>
  intro i j m F hj hm hij hF
  obtain⟨m,rfl⟩:∃ k,m=k+1:=⟨m - 1,by omega⟩
  have hc:F4 p.1.length 0=p.1.length:=rfl
  rw[Zc,HM,decide_eq_false (by omega),cond_false,hc]
  have hle:decide ((i:Int)<=(p.1.length:Int))=true:=decide_eq_true (by omega)
  simp only[IS,hle,Bool.and_true,cond_true,Int.toNat_natCast,beq_false (by omega:p.1.length - i ≠ 0),cond_false,Nat.zero_add,Bo (by omega:i+(p.1.length - i)<=p.1.length)]
  congr 5
  funext x
  unfold Zd OE
  cases Nat.blt x i <;> cases Nat.blt x (i+(p.1.length - i)) <;> rfl
 | succ d ih=>
  intro i j m F hj hm hij hF
  obtain⟨m,rfl⟩:∃ k,m=k+1:=⟨m - 1,by omega⟩
  have hjl:j<p.1.length:=by omega
  have hil:i<p.1.length:=by omega
  rw[Zc,HM,HM,decide_eq_true hjl,decide_eq_true hil,IS,IS]
  simp only[cond_true,Bool.and_true,Int.toNat_natCast,Nat.zero_add,AB hjl,AB hil]
  have hFj:=hF j (Nat.le_refl _) hjl
  rw[qEV (by rw[hFj];exact h3 _ (getD_mem hjl)) h2,Bv (by omega),Bv (by omega)]
  unfold OE
  cases hv:AH p.2 (F j).ver with
  | true=>
   simp only[Bool.not_true,Bool.not_false,cond_true]
   have e:(fun i'=>bif Nat.beq i' i then Ai (F j)else Ai (F i'))=fun x=>Ai (bif Nat.beq x i then F j else F x):=by
    funext x;cases Nat.beq x i <;> rfl
   rw[e]
   exact ih (i+1) (j+1) m _ (by omega) (by omega) (by omega) fun x hx hxl=>by
    rw[beq_false (by omega:x ≠ i),cond_false];exact hF x (by omega) hxl
  | false=>
   simp only[Bool.not_true,Bool.not_false,cond_false]
   exact ih i (j+1) m F (by omega) (by omega) (by omega) fun x hx hxl=>hF x (by omega) hxl
def rD(p:LV):Nat × (Nat->Entry):=OE p.2 (p.1.length - ((D1 p.2 p.1 0).toNat+1)) ((D1 p.2 p.1 0).toNat+1) (D1 p.2 p.1 0).toNat fun x=>p.1.getD x default
def kD(p:LV):Nat:=if D1 p.2 p.1 0 = -1 then p.1.length else(rD p).1
def gD(p:LV):Nat->Entry:=if D1 p.2 p.1 0 = -1 then fun x=>p.1.getD x default else Zd p.1.length (rD p)
def WN(p:LV):AV × Heap:=(.sl 11 0 0 (kD p) 0,[.seq true 11 p.1.length fun x=>Ai (gD p x),.arr true 1 [[eV p.2]]])
theorem LJ(v:Ver):∀ (l:List Entry) (i:Nat),(D1 v l i = -1/\l.filter (fun e=>AH v e.ver)=l) \/ ∃ k:Nat,k<l.length/\D1 v l i=((i+k:Nat):Int)/\(l.take (k+1)).filter (fun e=>AH v e.ver)=l.take k
 | [],i=>.inl ⟨rfl,rfl⟩
 | e::l,i=>by
  unfold D1
  cases hv:AH v e.ver with
  | true=>
   rw[if_pos rfl]
   rcases LJ v l (i+1)with ⟨h1,h2⟩ | ⟨k,h1,h2,h3⟩
   ·exact .inl ⟨h1,by rw[List.filter_cons,if_pos hv,h2]⟩
   ·refine .inr ⟨k+1,by simp;omega,by rw[h2];congr 1;omega,?_⟩
    rw[List.take_succ_cons,List.filter_cons,if_pos hv,h3,List.take_succ_cons]
  | false=>
   rw[if_neg (by simp)]
   refine .inr ⟨0,by simp,by simp,?_⟩
   simp[hv]
theorem sH{p:LV}{N:Nat}{r:AV}{h:Heap}(e:Mh MR N A9 (eLV p).1 (eLV p).2=some (r,h)):Aa PG A9 (eLV p).1 (eLV p).2 r h/\(eLV p).2.length<=h.length:=
 KP (Sd (ak kC1_ok (ak ahj AL))) Nu mixed e
theorem ahk(p:LV)(h:Uh p):Aa PG A9 (eLV p).1 (eLV p).2 (WN p).1 (WN p).2/\(eLV p).2.length<=(WN p).2.length:=by
 have key:=ahg (p.1.length+1) p
 rw[qLV h]at key
 rcases LJ p.2 p.1 0 with ⟨e1,e2⟩ | ⟨k,e1,e2,e3⟩
 ·rw[e1]at key
  have:WN p=(.sl 11 0 0 p.1.length 0,Zb p):=by unfold WN kD gD;rw[if_pos e1,if_pos e1];rfl
  rw[this]
  exact sH key
 ·rw[Nat.zero_add]at e2
  have hne:¬ (D1 p.2 p.1 0 = -1):=by rw[e2];omega
  have h1:=h.1
  rw[decide_eq_false hne,cond_false,e2,Bv (by omega)]at key
  have run:=del_run h (N:=p.1.length+1) (p.1.length - (k+1)) k (k+1) (p.1.length+1) (fun x=>p.1.getD x default) (by omega) (by omega) (by omega) (fun x _ _=>rfl)
  have:WN p=(.sl 11 0 0 (OE p.2 (p.1.length - (k+1)) (k+1) k fun x=>p.1.getD x default).1 0,[.seq true 11 p.1.length fun x=>Ai (Zd p.1.length (OE p.2 (p.1.length - (k+1)) (k+1) k fun x=>p.1.getD x default) x),.arr true 1 [[eV p.2]]]):=by
   unfold WN kD gD
   rw[if_neg hne,if_neg hne]
   unfold rD
   rw[e2,Int.toNat_natCast]
  rw[this]
  exact sH (key.trans run)
def ahl:Known:=.specH A9 Pu Uh eLV WN
theorem aeR:ahl.Ok PG:=Known.specH_ok ahk
theorem Ze{v:Ver}{l:List Entry}:∀ (d j i:Nat) (F:Nat->Entry),j+d=l.length->i=((l.take j).filter fun e=>AH v e.ver).length->(∀ x,x<i->F x=((l.take j).filter fun e=>AH v e.ver).getD x default) ->
  (∀ x,j<=x->x<l.length->F x=l.getD x default)->i<=j->(OE v d j i F).1=(l.filter fun e=>AH v e.ver).length /\ ∀ x,x<(OE v d j i F).1->(OE v d j i F).2 x=(l.filter fun e=>AH v e.ver).getD x default
 | 0,j,i,F,hj,hi,h1,_,_=>by
  have:l.take j=l:=List.take_of_length_le (by omega)
  rw[this]at hi h1
  exact⟨hi,h1⟩
 | d+1,j,i,F,hj,hi,h1,h2,hij=>by
  have hjl:j<l.length:=by omega
  have hFj:=h2 j (Nat.le_refl _) hjl
  have htk:l.take (j+1)=l.take j++[l.getD j default]:=by
   rw[List.take_add_one,List.getElem?_eq_getElem hjl]
   simp[List.getD,List.getElem?_eq_getElem hjl]
  unfold OE
  cases hv:AH v (F j).ver with
  | true=>
   simp only[cond_true]
   have hf:(l.take (j+1)).filter (fun e=>AH v e.ver)=(l.take j).filter (fun e=>AH v e.ver)++[l.getD j default]:=by
    rw[htk,List.filter_append]
    congr 1
    rw[hFj]at hv
    rw[List.filter_cons,if_pos hv,List.filter_nil]
   refine Ze d (j+1) (i+1) _ (by omega) (by rw[hf,List.length_append,<- hi];rfl) (fun x hx=>?_) (fun x hx hxl=>?_) (by omega)
   ·rw[hf]
    by_cases e:x=i
    ·subst e
     rw[beq_true rfl,cond_true,hFj]
     rw[hi];simp[List.getD]
    ·rw[beq_false e,cond_false,h1 x (by omega)]
     unfold List.getD
     rw[List.getElem?_append_left (by omega)]
   ·rw[beq_false (by omega:x ≠ i),cond_false];exact h2 x (by omega) hxl
  | false=>
   simp only[cond_false]
   have hf:(l.take (j+1)).filter (fun e=>AH v e.ver)=(l.take j).filter (fun e=>AH v e.ver):=by
    rw[htk,List.filter_append]
    rw[hFj]at hv
    rw[List.filter_cons,if_neg (by rw[hv];simp),List.filter_nil,List.append_nil]
   exact Ze d (j+1) i F (by omega) (by rw[hf];exact hi) (by rw[hf];exact h1) (fun x hx hxl=>h2 x (by omega) hxl) (by omega)
theorem ajN(p:LV):kD p=(p.1.filter fun e=>AH p.2 e.ver).length /\ ∀ x,x<kD p->gD p x=(p.1.filter fun e=>AH p.2 e.ver).getD x default:=by
 unfold kD gD
 rcases LJ p.2 p.1 0 with ⟨e1,e2⟩ | ⟨k,e1,e2,e3⟩
 ·rw[if_pos e1,if_pos e1,e2]
  exact⟨rfl,fun x _=>rfl⟩
 ·rw[Nat.zero_add]at e2
  have hne:¬ (D1 p.2 p.1 0 = -1):=by rw[e2];omega
  rw[if_neg hne,if_neg hne]
  unfold rD
  rw[e2,Int.toNat_natCast]
  obtain⟨h1,h2⟩:=Ze (v:=p.2) (l:=p.1) (p.1.length - (k+1)) (k+1) k (fun x=>p.1.getD x default) (by omega) (by rw[e3,List.length_take];omega) (fun x hx=>by
   rw[e3]
   unfold List.getD
   rw[List.getElem?_take,if_pos hx]) (fun x _ _=>rfl) (by omega)
  refine⟨h1,fun x hx=>?_⟩
  unfold Zd
  rw[AB hx,cond_true]
  exact h2 x hx
theorem aeS(n:Nat)(f:Nat->List AV):Mh Ew 2 AJ [AV.tr 11 (n+1) f] [] =
 bif((0+(n+1))*112).ble 140737488355328&&(0+(n+1)).ble 140737488355328 then
  some ((AV.sl 11 0 0 (n+1) 0,[BS.seq true 11 (n+1) f]))
 else none:=by kernel_rfl
def pNe(l:List Entry):Prop:=l.length<=10000/\l ≠ []
theorem dC(l:List Entry)(h:pNe l):Aa PG AJ [Ae l] [] (YD 11 Ai default l).1 (YD 11 Ai default l).2:=by
 obtain⟨h1,h2⟩:=h
 cases l with
 | nil=>exact absurd rfl h2
 | cons a r=>
  have k:=aeS r.length fun i=>Ai ((a::r).getD i default)
  simp only[List.length_cons]at h1
  simp only[mC (n:=0+(r.length+1)) (b:=112) (by omega) (by omega),YS,Bool.and_true,cond_true]at k
  exact(KP (eX (md:=fun _=>none) (l:=[]) fun k hk=>by cases hk) WB mixed k).1
def Zf:Known:=.specB AJ (dL Bf) pNe Pm (fun l=>YD 11 Ai default l)
theorem dD:Zf.Ok PG:=Known.specB_ok dC
def mD:Env:=Pt [] mdL [QQ,Zf,ahl]
theorem ajO{n f:Nat}{xs:List AV}{r:AV}(e:Am mD n f xs=some r):Aa PG f xs [] r []:=aaq (ak Np (ak dD (ak aeR AL))) e
def Zg:Env:=MN [QQ]
theorem sI{n f:Nat}{xs:List AV}{r:AV}(e:Am Zg n f xs=some r):Aa PG f xs [] r []:=Iq (md:=fun _=>none) (ak Np AL) e
theorem ahm(f:Ver)(l:Ver)(v:Ver):Am Zg 9 HK [AV.agg [eV f,eV l,AV.nils],eV v] =
 gC (DB) (V2) (DA) ([AV.cplx FloatKind.f64 f.re f.im,AV.cplx FloatKind.f64 v.re v.im]) fun y0=>
 gC (DB) (V2) (DA) ([AV.cplx FloatKind.f64 l.re l.im,AV.cplx FloatKind.f64 v.re v.im]) fun y1=>
 some (AV.agg [AV.cplx FloatKind.f64 (BB y0.fst y0.snd).re (BB y0.fst y0.snd).im,AV.cplx FloatKind.f64 (BB y1.fst y1.snd).re (BB y1.fst y1.snd).im,AV.nils]):=by kernel_rfl
theorem ahn(f:Ver)(l:Ver)(v:Ver):Am Zg 9 HK [AV.agg [eV f,eV l,AV.trl 11 []],eV v] =
 gC (DB) (V2) (DA) ([AV.cplx FloatKind.f64 f.re f.im,AV.cplx FloatKind.f64 v.re v.im]) fun y2=>
 gC (DB) (V2) (DA) ([AV.cplx FloatKind.f64 l.re l.im,AV.cplx FloatKind.f64 v.re v.im]) fun y3=>
 some (AV.agg [AV.cplx FloatKind.f64 (BB y2.fst y2.snd).re (BB y2.fst y2.snd).im,AV.cplx FloatKind.f64 (BB y3.fst y3.snd).re (BB y3.fst y3.snd).im,AV.trl 11 []]):=by kernel_rfl
theorem aho(f:Ver)(l:Ver)(v:Ver)(lg:List Entry):Am mD 9 HK [AV.agg [eV f,eV l,Ae lg],eV v] =
 gC (dL Bf) (pNe) (Pm) ([Ae lg]) fun y4=>
 YA (Pu) (Uh) (eLV) ([AV.sl 11 0 0 y4.length 0,AV.fn (Fn.func C6) [] [AV.ptr 1 0 0]]) ([BS.seq true 11 y4.length fun i=>Ai (y4.getD i default),BS.arr true 1 [[AV.cplx FloatKind.f64 v.re v.im]]]) fun y5=>
 gC (DB) (V2) (DA) ([AV.cplx FloatKind.f64 f.re f.im,AV.cplx FloatKind.f64 y5.snd.re y5.snd.im]) fun y6=>
 gC (DB) (V2) (DA) ([AV.cplx FloatKind.f64 l.re l.im,AV.cplx FloatKind.f64 y5.snd.re y5.snd.im]) fun y7=>
 bif((kD y5).beq 0||(kD y5).ble y5.fst.length)&&true then
  some (AV.agg [AV.cplx FloatKind.f64 (BB y6.fst y6.snd).re (BB y6.fst y6.snd).im,AV.cplx FloatKind.f64 (BB y7.fst y7.snd).re (BB y7.fst y7.snd).im,AV.tr 11 (kD y5) fun i=>Ai (gD y5 i)])
 else none:=by kernel_rfl
theorem aay(p:TV)(h:rY p):Aa PG HK (rZ p) [] (oTV p) []:=by
 obtain⟨⟨f,l,lg⟩,v⟩:=p
 have h:QU ⟨f,l,lg⟩ v:=h
 have hf:=h.fl
 have hla:=h.la
 have hv:=h.v
 simp only at hf hla
 cases lg with
 | nil=>
  refine Aa.split (Ov.of [] [eV v] (.agg (Ov.of [eV f,eV l] [] .nil))) ?_ ?_
  ·have k:=ahm f l v
   rw[Jp hf hv,Jp hla hv]at k
   exact(sI k).res (Ix Dg)
  ·have k:=ahn f l v
   rw[Jp hf hv,Jp hla hv]at k
   exact(sI k).res (Ix fM)
 | cons a r=>
  have k:=aho f l v (a::r)
  have hp:Uh (a::r,v):=⟨h.len,hv,h.log⟩
  have e0:gC (R:=AV) (dL Bf) pNe Pm [Ae (a::r)]=fun k=>k (a::r):=by funext k;exact Aw _ (Es _) ⟨h.len,by simp⟩ (.refl _)
  rw[e0]at k
  have k:Am mD 9 HK [.agg [eV f,eV l,Ae (a::r)],eV v]=YA Pu Uh eLV (eLV (a::r,v)).1 (eLV (a::r,v)).2 fun y5=>gC DB V2 DA [.cplx .f64 f.re f.im,.cplx .f64 y5.2.re y5.2.im] fun y6=>gC DB V2 DA [.cplx .f64 l.re l.im,.cplx .f64 y5.2.re y5.2.im] fun y7=>
   bif((kD y5).beq 0||(kD y5).ble y5.1.length)&&true then some (.agg [eV (BB y6.1 y6.2),eV (BB y7.1 y7.2),.tr 11 (kD y5) fun i=>Ai (gD y5 i)])else none:=k
  rw[qLV hp,Jp hf hv,Jp hla hv]at k
  obtain⟨g1,g2⟩:=ajN (a::r,v)
  have hle:(kD (a::r,v)).ble (a::r).length=true:=Bo (by rw[g1];exact List.length_filter_le _ _)
  simp only[hle,Bool.or_true,Bool.and_true,cond_true]at k
  refine(ajO k).res (Ix ?_)
  show AR _ (Ae ((a::r).filter fun e=>AH v e.ver))
  unfold Ae C8
  rw[<- g1]
  exact AR.trs fun i hi=>by rw[g2 i hi];exact .refl _
def mE:Known:=.spec HK dTV rY rZ oTV
theorem Zh:mE.Ok PG:=Known.spec_ok aay
def sJ:List Known:=[lV,mE,Mo,kPush]
theorem sK:∀ k ∈ sJ,k.Ok PG:=ak Vq (ak Zh (ak Iw (ak kPush_ok AL)))
def Zi:Env:=MN sJ
theorem ahp{n f:Nat}{xs:List AV}{r:AV}(e:Am Zi n f xs=some r):Aa PG f xs [] r []:=Iq (md:=fun _=>none) sK e
theorem aaz(r:Rep)(v:Ver):Am Zi 9 Is [AV.agg (Ag r),eV v] =
 gC (CQ) (Cx) (CR) ([AV.agg (Ag r)]) fun y8=>
 gC (dTV) (rY) (rZ) ([AV.agg (AK y8.tail),AV.cplx FloatKind.f64 v.re v.im]) fun y9=>
 some (AV.agg [AV.int IntKind.i64 y8.shard,AV.int IntKind.i64 y8.self.node,AV.int IntKind.i64 y8.self.boot,AV.int IntKind.i64 y8.view.shard,AV.int IntKind.i64 y8.view.epoch,AV.int IntKind.i64 y8.view.gen,AV.int IntKind.i64 y8.view.phase,Az y8.view.chain,AV.int IntKind.i64 y8.frozen,AV.cplx FloatKind.f64 (BB y9.fst.floor y9.snd).re (BB y9.fst.floor y9.snd).im,AV.cplx FloatKind.f64 (BB y9.fst.last y9.snd).re (BB y9.fst.last y9.snd).im,Ae (List.filter (fun e=>AH y9.snd e.ver) y9.fst.log),Ax y8.seen,AV.cplx FloatKind.f64 y8.got.re y8.got.im,Ci y8.synced]):=by kernel_rfl
def dRV(a:List AV):Rep × Ver:=(Cz (Ay a 0),⟨(BF a 1).1,(BF a 1).2⟩)
def fR(p:Rep × Ver):Prop:=Cx p.1/\QU p.1.tail p.2
def sL(p:Rep × Ver):List AV:=[.agg (Ag p.1),eV p.2]
theorem qRV{R:Type}{r:Rep}{v:Ver}{k:Rep × Ver->Option R}(h:Cx r)(h':QU r.tail v):gC dRV fR sL [.agg (Ag r),eV v] k=k (r,v):=Aw (r,v) (Prod.ext (B8 r) rfl) ⟨h,h'⟩ (.refl _)
theorem sM(p:Rep × Ver)(h:fR p):Aa PG Is (sL p) [] (.agg (Ag (Jw p.1 p.2))) []:=by
 obtain⟨r,v⟩:=p
 have k:=aaz r v
 rw[Sa (P:=Cx) h.1]at k
 have k:Am Zi 9 Is [.agg (Ag r),eV v]=gC dTV rY rZ [.agg (AK r.tail),eV v] fun y=>some (.agg (Ag {r with tail:=XP y.1 y.2})):=k
 rw[qTV h.2]at k
 exact ahp k
def sN:Known:=.spec Is dRV fR sL (fun p=>.agg (Ag (Jw p.1 p.2)))
theorem sO:sN.Ok PG:=Known.spec_ok sM
def ac6:List Known:=[Vo,kPush]
theorem aaA:∀ k ∈ ac6,k.Ok PG:=ak OB (ak kPush_ok AL)
def Pw:Env:=Pt [] (fun f=>bif Nat.beq f EU then some 0 else none) ac6
theorem ajP{n f:Nat}{xs:List AV}{r:AV}(e:Am Pw n f xs=some r):Aa PG f xs [] r []:=aaq aaA e
def z15:List AV:=[.int .i64 0,.int .i64 0,.int .i64 0,.int .i64 0,.int .i64 0,.int .i64 0,.int .i64 0,.nils,.int .i64 0,.cplx .f64 0 0,.cplx .f64 0 0,.nils,.nils,.cplx .f64 0 0,.nils]
def STk(l:List Entry)(r:Rep)(i:Int):St:={fr:=[(1,Ae l),(2,.ptr 0 0 0),(4,.ptr 1 0 0),(5,.int .i64 i)],hp:=[.arr true 15 [Ag r],.arr true 15 [z15]]}
def mF(l:List Entry)(r:Rep)(i:Int)(K:Rep->Int->Option AV):Option AV:=
 bif decide (i=(l.length:Int))then some (.agg (Ag r))else rg i l.length <|
  gC Nq At Nr [eV (l.getD i.toNat default).ver] fun y0=>gC Nq At Nr [eV r.tail.last] fun y1=>
  bif decide ((nu y0:Int)=IntKind.i64.wrap ((nu y1:Int)+1))then rg i l.length <| gC QT fP Nv [.agg (Ag r),.agg (Ai (l.getD i.toNat default))] fun y2=>K (pushP y2.1 y2.2).1 (IntKind.i64.wrap (i+1))
  else K r (IntKind.i64.wrap (i+1))
theorem aaB(N:Nat)(r:Rep)(l:List Entry):Am Pw (N+1) DW [.agg (Ag r),Ae l]=mF l r 0 fun r i=>JP Pw N 0 DW Bp 0 N (STk l r i):=by kernel_rfl
theorem WO(N m:Nat)(r:Rep)(l:List Entry)(i:Int):JP Pw N 0 DW Bp 0 (m+1) (STk l r i)=mF l r i fun r i=>JP Pw N 0 DW Bp 0 m (STk l r i):=by kernel_rfl
structure Hy(r:Rep)(l:List Entry):Prop where
 log:r.tail.log.length+l.length<=10000
 last:At r.tail.last
 seen:r.seen.length<=1 /\ ∀ a ∈ r.seen,a.sess=1
 ent:∀ e ∈ l,At e.ver/\e.sess=1
theorem Hy.push{r:Rep}{e:Entry}{l:List Entry}(h:Hy r (e::l)):PushOk r e:=⟨by have:=h.log;simp only[List.length_cons]at this;omega,h.last,(h.ent e (by simp)).1,h.seen,(h.ent e (by simp)).2⟩
theorem aaC{l:List Seen}{s:Seen}(h:l.length<=1 /\ ∀ a ∈ l,a.sess=1)(hs:s.sess=1):(putP l s).length<=1 /\ ∀ a ∈ putP l s,a.sess=1:=by
 cases l with
 | nil=>exact⟨by simp[putP],fun a ha=>by simp[putP]at ha;rw[ha];exact hs⟩
 | cons b l=>
  have:l=[]:=by cases l with
   | nil=>rfl
   | cons c d=>simp at h
  subst this
  show(bif decide (b.num<s.num)then [s]else [b]).length<=1 /\ ∀ a ∈ (bif decide (b.num<s.num)then [s]else [b]),a.sess=1
  cases decide (b.num<s.num)with
  | true=>exact⟨by simp,fun a ha=>by simp at ha;rw[ha];exact hs⟩
  | false=>exact h
theorem Hy.next{r:Rep}{e:Entry}{l:List Entry}(h:Hy r (e::l)):Hy r l/\Hy (pushP r e).1 l:=by
 have h1:=h.log
 simp only[List.length_cons]at h1
 refine⟨⟨by omega,h.last,h.seen,fun x hx=>h.ent x (by simp[hx])⟩,?_⟩
 unfold pushP
 cases AH r.tail.last e.ver with
 | false=>exact⟨by simp only[cond_false];omega,h.last,h.seen,fun x hx=>h.ent x (by simp[hx])⟩
 | true=>exact⟨by simp only[cond_true,pushR,List.length_append,List.length_cons,List.length_nil];omega,(h.ent e (by simp)).1,aaC h.seen (h.ent e (by simp)).2,fun x hx=>h.ent x (by simp[hx])⟩
theorem QV{l:List Entry}{K:Rep->Int->Option AV}{r:Rep}{i:Nat}(h:Hy r (l.drop i))(hl:l.length<=10000)(hi:i<=l.length)(hK:∀ r',i<l.length->Hy r' (l.drop (i+1))->K r' ((i+1:Nat):Int)=some (.agg (Ag (Lf r' (l.drop (i+1)))))) :
  mF l r (i:Int) K=some (.agg (Ag (Lf r (l.drop i)))):=by
 unfold mF
 by_cases e:i=l.length
 ·rw[decide_eq_true (by rw[e]),cond_true,List.drop_eq_nil_of_le (by omega)];rfl
 ·have hil:i<l.length:=by omega
  rw[decide_eq_false (by omega),cond_false,Bi hil,Int.toNat_natCast]
  rw[drop_cons (z:=default) hil]at h ⊢
  obtain⟨n1,n2⟩:=h.next
  have hpush:PushOk r (l.getD i default):=h.push
  have hver:At (l.getD i default).ver:=(h.ent _ (List.mem_cons_self)).1
  rw[show(fun y0=>gC Nq At Nr [eV r.tail.last] fun y1=>bif decide ((nu y0:Int)=IntKind.i64.wrap ((nu y1:Int)+1))then rg (i:Int) l.length <| gC QT fP Nv [.agg (Ag r),.agg (Ai (l.getD i default))] fun y2=>K (pushP y2.1 y2.2).1 (IntKind.i64.wrap ((i:Int)+1))else K r (IntKind.i64.wrap ((i:Int)+1))) =
   fun y0=>bif decide ((nu y0:Int)=IntKind.i64.wrap ((nu r.tail.last:Int)+1))then K (pushP r (l.getD i default)).1 (IntKind.i64.wrap ((i:Int)+1))else K r (IntKind.i64.wrap ((i:Int)+1)) from by
    funext y0
    have q1:=qV1 (R:=AV) h.last (k:=fun y1=>bif decide ((nu y0:Int)=IntKind.i64.wrap ((nu y1:Int)+1))then rg (i:Int) l.length <| gC QT fP Nv [.agg (Ag r),.agg (Ai (l.getD i default))] fun y2=>K (pushP y2.1 y2.2).1 (IntKind.i64.wrap ((i:Int)+1))else K r (IntKind.i64.wrap ((i:Int)+1)))
    refine q1.trans ?_
    rw[Bi hil,qRE (r:=r) (e:=l.getD i default) (P:=fP) hpush]]
  have q0:=qV1 (R:=AV) hver (k:=fun y0=>bif decide ((nu y0:Int)=IntKind.i64.wrap ((nu r.tail.last:Int)+1))then K (pushP r (l.getD i default)).1 (IntKind.i64.wrap ((i:Int)+1))else K r (IntKind.i64.wrap ((i:Int)+1)))
  refine q0.trans ?_
  have hnl:=h.last.lt.2
  have hw:IntKind.i64.wrap ((nu r.tail.last:Int)+1)=((nu r.tail.last+1:Nat):Int):=wrap64 (by omega)
  rw[hw,Bv (by omega),R7]
  unfold Lf
  cases decide (nu (l.getD i default).ver=nu r.tail.last+1)with
  | true=>exact hK _ hil n2
  | false=>exact hK _ hil n1
theorem aaD(p:Rep × List Entry)(h:Hy p.1 p.2):Aa PG DW [.agg (Ag p.1),Ae p.2] [] (.agg (Ag (Lf p.1 p.2))) []:=by
 obtain⟨r,l⟩:=p
 have h:Hy r l:=h
 have hl:l.length<=10000:=by have:=h.log;omega
 have run:∀ d i m r,i+d=l.length->d<m->Hy r (l.drop i)->JP Pw (l.length+1) 0 DW Bp 0 m (STk l r (i:Nat))=some (.agg (Ag (Lf r (l.drop i)))):=by
  intro d
  induction d with
  | zero=>
   intro i m r hi hm h
   obtain⟨m,rfl⟩:∃ k,m=k+1:=⟨m - 1,by omega⟩
   rw[WO]
   exact QV h hl (by omega) fun r' hlt _=>by omega
  | succ d ih=>
   intro i m r hi hm h
   obtain⟨m,rfl⟩:∃ k,m=k+1:=⟨m - 1,by omega⟩
   rw[WO]
   exact QV h hl (by omega) fun r' _ h'=>ih (i+1) m r' (by omega) (by omega) h'
 refine ajP ((aaB (l.length+1) r l).trans ?_)
 have:=QV (l:=l) (K:=fun r i=>JP Pw (l.length+1) 0 DW Bp 0 (l.length+1) (STk l r i)) (r:=r) (i:=0) (by rw[List.drop_zero];exact h) hl (by omega) fun r' hlt h'=>run (l.length - 1) 1 (l.length+1) r' (by omega) (by omega) h'
 rw[List.drop_zero]at this
 exact this
def dRL(a:List AV):Rep × List Entry:=(Cz (Ay a 0),AN Bf (a.getD 1 .nils))
def pRL(p:Rep × List Entry):Prop:=Hy p.1 p.2
def eRL(p:Rep × List Entry):List AV:=[.agg (Ag p.1),Ae p.2]
def ac7:Known:=.spec DW dRL pRL eRL (fun p=>.agg (Ag (Lf p.1 p.2)))
theorem aaE:ac7.Ok PG:=Known.spec_ok aaD
def Dm(m:Msg)(k:Int):Msg:=⟨k,m.src,m.dst,m.boot,m.sboot,m.shard,m.epoch,m.gen,m.sess,m.num,m.a,m.code,m.has,m.fresh,m.key,m.val,m.ver,m.floor,m.op,m.entries,m.chain,m.views,m.image⟩
def ac8:List Known:=[lV,Ue,YY,ac7,mE,FD,QQ,YR,Sb,kBehind,kTo,lR,Ke,Lh,Ml]
theorem aaF:∀ k ∈ ac8,k.Ok PG:=ak Vq (ak QS (ak WG (ak aaE (ak Zh (ak DZ (ak Np (ak WC (ak Po (ak kBehind_ok (ak rN (ak YV (ak Kf (ak KS (ak LH AL))))))))))))))
def XR:Env:=MN ac8
theorem Nw{n f:Nat}{xs:List AV}{r:AV}(e:Am XR n f xs=some r):Aa PG f xs [] r []:=Iq (md:=fun _=>none) aaF e
theorem h8(r:Rep)(m:Msg):Am XR 9 DU [AV.agg (Ag r),AV.agg (Ac (Dm m 8))] =
 gC (CQ) (Cx) (CR) ([AV.agg (Ag r)]) fun y0=>
 bif !decide ((Dm m 8).dst=y0.self.node)then
  some (AV.tup [AV.agg (Ag y0),AV.nils])
 else
  bif !decide ((Dm m 8).boot=y0.self.boot)then
   some (AV.tup [AV.agg (Ag y0),AV.nils])
  else
   bif !decide ((Dm m 8).shard=y0.shard)then
    some (AV.tup [AV.agg (Ag y0),AV.nils])
   else
    bif decide ((Dm m 8).epoch<=y0.view.epoch)then
     some (AV.tup [AV.agg (Ag y0),AV.nils])
    else
     bif decide ((Dm m 8).epoch<y0.frozen)then
      some (AV.tup [AV.agg (Ag y0),AV.nils])
     else
      some (AV.tup [AV.agg [AV.int IntKind.i64 y0.shard,AV.int IntKind.i64 y0.self.node,AV.int IntKind.i64 y0.self.boot,AV.int IntKind.i64 y0.view.shard,AV.int IntKind.i64 y0.view.epoch,AV.int IntKind.i64 y0.view.gen,AV.int IntKind.i64 y0.view.phase,Az y0.view.chain,AV.int IntKind.i64 m.epoch,AV.cplx FloatKind.f64 y0.tail.floor.re y0.tail.floor.im,AV.cplx FloatKind.f64 y0.tail.last.re y0.tail.last.im,Ae y0.tail.log,Ax y0.seen,AV.cplx FloatKind.f64 y0.got.re y0.got.im,Ci y0.synced],AV.trl 31 [[AV.int IntKind.i64 9,AV.int IntKind.i64 y0.self.node,AV.int IntKind.i64 m.src,AV.int IntKind.i64 0,AV.int IntKind.i64 y0.self.boot,AV.int IntKind.i64 y0.shard,AV.int IntKind.i64 m.epoch,AV.int IntKind.i64 0,AV.int IntKind.i64 0,AV.int IntKind.i64 0,AV.int IntKind.i64 y0.view.epoch,AV.int IntKind.i64 0,AV.bool !decide (y0.view.phase=0),AV.bool false,AV.str [],AV.str [],AV.cplx FloatKind.f64 y0.tail.last.re y0.tail.last.im,AV.cplx FloatKind.f64 0 0,AV.int IntKind.i64 0,AV.str [],AV.str [],AV.str [],AV.bool false,AV.nils,AV.nils,AV.nils,AV.cplx FloatKind.f64 0 0,AV.cplx FloatKind.f64 0 0,AV.int IntKind.i64 0,AV.nils,AV.nils]]]):=by kernel_rfl
def Zj(o:Rep × List Msg):AV:=.tup [.agg (Ag o.1),AG o.2]
def LK(r:Rep):Option AV:=some (.tup [.agg (Ag r),.nils])
theorem gate{R:Type}{a b c:Bool}{X K:Option R}:(bif !a then X else bif !b then X else bif !c then X else K)=bif a&&(b&&c)then K else X:=by cases a <;> cases b <;> cases c <;> rfl
theorem ajQ{R:Type}{a b:Bool}{X K:Option R}:(bif a then X else bif b then X else K)=bif !a && !b then K else X:=by cases a <;> cases b <;> rfl
theorem Mx{r:Rep}:AR (.tup [.agg (Ag r),.nils]) (Zj (r,[])):=.tup (.cons (.refl _) (.cons Dg .nil))
theorem KT{m:Msg}{k:Int}(h:m.kind=k):Dm m k=m:=by cases m;simp only at h;subst h;rfl
def Zk(r:Rep)(m:Msg)(l:List Member)(ph:Int)(fl la:Ver)(lg se:AV)(go:Ver)(sy:AV):List AV:=
 [.int .i64 r.shard,.int .i64 r.self.node,.int .i64 r.self.boot,.int .i64 m.shard,.int .i64 m.epoch,.int .i64 m.gen,.int .i64 ph,Az l,.int .i64 r.frozen,eV fl,eV la,lg,se,eV go,sy]
def gt{R:Type}(y:Rep)(m:Msg)(X K:Option R):Option R:=bif !decide (m.dst=y.self.node)then X else bif !decide (m.boot=y.self.boot)then X else bif !decide (m.shard=y.shard)then X else K
theorem ajR{R:Type}{y:Rep}{m:Msg}{X K:Option R}:gt y m X K=bif QO y m then K else X:=gate
def ahq(m:Msg)(l:List Member):Msg:=⟨10,m.src,m.dst,m.boot,m.sboot,m.shard,m.epoch,m.gen,m.sess,m.num,m.a,m.code,m.has,m.fresh,m.key,m.val,m.ver,m.floor,m.op,m.entries,l,m.views,m.image⟩
theorem aeT{m:Msg}(h:m.kind=10):ahq m m.chain=m:=by cases m;simp only at h;subst h;rfl
def agK(cs:List AV):Option AV:=gC CQ Gg CR [.agg cs] fun y=>some (.tup [.agg cs,AG (AD y)])
def mG(y:Rep)(m:Msg)(l:List Member)(ph:Int)(sy:AV):Option AV:=gC (dL Ca) CH T7 [Az l] fun a=>
 bif m.fresh then gC dI2 pI2 eI2 [.int .i64 m.epoch,.int .i64 0] fun b=>agK (Zk y m a ph (vr b.1 b.2) (vr b.1 b.2) .nils .nils (vr b.1 b.2) sy)
 else agK (Zk y m a ph y.tail.floor y.tail.last (Ae y.tail.log) (Ax y.seen) y.tail.last sy)
def mH(y:Rep)(m:Msg)(K:Option AV):Option AV:=
 bif m.fresh then bif !decide (y.view.phase=0)then bif !decide (y.frozen<=m.epoch)then bif !decide (m.epoch=y.frozen)then LK y else K else K else bif !decide (y.frozen<=m.epoch)then LK y else K
 else bif !decide (y.view.phase=0)then bif !decide (m.epoch=y.frozen)then LK y else K else LK y
def H10(m:Msg)(K:Rep->Option AV):Rep->Option AV:=fun y=>gt y m (LK y) <| bif decide (m.epoch<0)then LK y else bif decide (1099511627776<m.epoch)then LK y else bif decide (m.epoch<=y.view.epoch)then LK y else K y
theorem ajS(r:Rep)(m:Msg)(a:Member):Am XR 9 DU [.agg (Ag r),.agg (Ac (ahq m [a]))] =
  gC CQ Cx CR [.agg (Ag r)] (H10 m fun y=>bif !(Qa [a] y.self)then LK y else mH y m (mG y m [a] 3 (.trl 1 [[.bool true]]))):=by kernel_rfl
theorem ahr{m:Msg}{K:Rep->Option AV}{r:Rep}(h0:0<=m.epoch)(h1:m.epoch<=1099511627776):H10 m K r=bif QO r m then bif decide (m.epoch<=r.view.epoch)then LK r else K r else LK r:=by
 unfold H10
 rw[ajR,decide_eq_false (by omega:¬ m.epoch<0),decide_eq_false (by omega:¬ 1099511627776<m.epoch)]
 rfl
theorem Zl{r:Rep}{m:Msg}{K:Option AV}:mH r m K=bif(m.fresh&&decide (r.frozen<=m.epoch))||(!decide (r.view.phase=0)&&decide (m.epoch=r.frozen))then K else LK r:=by
 unfold mH
 cases m.fresh <;> cases decide (r.view.phase=0) <;> cases decide (r.frozen<=m.epoch) <;> cases decide (m.epoch=r.frozen) <;> rfl
theorem qI2{R:Type}{a b:Int}{k:Nat × Nat->Option R}(ha:0<=a)(hb:0<=b):gC dI2 pI2 eI2 [.int .i64 a,.int .i64 b] k=k (a.toNat,b.toNat):=by
 refine Aw (a.toNat,b.toNat) rfl trivial ?_
 show Ch _ [.int .i64 (a.toNat:Int),.int .i64 (b.toNat:Int)]
 rw[Int.toNat_of_nonneg ha,Int.toNat_of_nonneg hb]
 exact .refl _
theorem sP{cs:List AV}{R':Rep}(hd:Cz cs=R')(hs:Ch cs (Ag R'))(h:Gg R'):agK cs=some (.tup [.agg cs,AG (AD R')]):=by
 unfold agK
 exact Aw (dec:=CQ) (pre:=Gg) (enc:=CR) R' hd h (.cons (.agg hs) .nil)
theorem aeU{r:Rep}{m:Msg}{l:List Member}{sy:AV}{bs:List Bool}(hl:CH l)(hml:m.chain=l)(h0:0<=m.epoch)(hsy:AN HE sy=bs)(hsb:AR sy (Ci bs))(hbs:bs=true::List.replicate (m.chain.length - 1) false)(hR:Gg (KR r m)) :
  ∃ v,mG r m l (bif decide (m.chain.length=1)then 3 else 2) sy=some v/\AR v (Zj (KR r m,AD (KR r m))):=by
 unfold mG
 rw[acT hl]
 have dR:∀ (fl la go:Ver) (lg se:AV),Cz (Zk r m l (bif decide (m.chain.length=1)then 3 else 2) fl la lg se go sy)=⟨r.shard,⟨r.self.node,r.self.boot⟩,⟨m.shard,m.epoch,m.gen,bif decide (m.chain.length=1)then 3 else 2,l⟩,r.frozen,⟨fl,la,AN Bf lg⟩,AN BZ se,go,bs⟩:=by
  intro fl la go lg se
  show(⟨r.shard,⟨r.self.node,r.self.boot⟩,⟨m.shard,m.epoch,m.gen,bif decide (m.chain.length=1)then 3 else 2,AN Ca (Az l)⟩,r.frozen,⟨fl,la,AN Bf lg⟩,AN BZ se,go,AN HE sy⟩:Rep)=_
  rw[EL,hsy]
 cases hf:m.fresh with
 | true=>
  rw[cond_true,qI2 h0 (by decide)]
  have e:KR r m=⟨r.shard,⟨r.self.node,r.self.boot⟩,⟨m.shard,m.epoch,m.gen,bif decide (m.chain.length=1)then 3 else 2,l⟩,r.frozen,tail0 m.epoch,[],vr m.epoch.toNat 0,bs⟩:=by
   unfold KR lI
   rw[hf,hbs,hml];rfl
  have hd:=dR (vr m.epoch.toNat 0) (vr m.epoch.toNat 0) (vr m.epoch.toNat 0) .nils .nils
  rw[e]at hR ⊢
  have hs:Ch (Zk r m l (bif decide (m.chain.length=1)then 3 else 2) (vr m.epoch.toNat 0) (vr m.epoch.toNat 0) .nils .nils (vr m.epoch.toNat 0) sy) (Ag ⟨r.shard,⟨r.self.node,r.self.boot⟩,⟨m.shard,m.epoch,m.gen,bif decide (m.chain.length=1)then 3 else 2,l⟩,r.frozen,tail0 m.epoch,[],vr m.epoch.toNat 0,bs⟩):=
   El (by repeat' (first | exact trivial | exact Dg | exact hsb | exact AR.refl _ | refine⟨?_,?_⟩))
  exact⟨_,sP hd hs hR,.tup (.cons (.agg hs) (.refl _))⟩
 | false=>
  rw[cond_false]
  have e:KR r m=⟨r.shard,⟨r.self.node,r.self.boot⟩,⟨m.shard,m.epoch,m.gen,bif decide (m.chain.length=1)then 3 else 2,l⟩,r.frozen,r.tail,r.seen,r.tail.last,bs⟩:=by
   unfold KR lI
   rw[hf,hbs,hml];rfl
  have hd:=dR r.tail.floor r.tail.last r.tail.last (Ae r.tail.log) (Ax r.seen)
  rw[Es,EE]at hd
  rw[e]at hR ⊢
  have hs:Ch (Zk r m l (bif decide (m.chain.length=1)then 3 else 2) r.tail.floor r.tail.last (Ae r.tail.log) (Ax r.seen) r.tail.last sy) (Ag ⟨r.shard,⟨r.self.node,r.self.boot⟩,⟨m.shard,m.epoch,m.gen,bif decide (m.chain.length=1)then 3 else 2,l⟩,r.frozen,r.tail,r.seen,r.tail.last,bs⟩):=
   El (by repeat' (first | exact trivial | exact hsb | exact AR.refl _ | refine⟨?_,?_⟩))
  exact⟨_,sP hd hs hR,.tup (.cons (.agg hs) (.refl _))⟩
def aaG(a:List AV):Rep × Msg:=(Cz (Ay a 0),BJ (Ay a 1))
def mI(p:Rep × Msg):List AV:=[.agg (Ag p.1),.agg (Ac p.2)]
def ahs(p:Rep × Msg):AV:=Zj (GH p.1 p.2)
end Go.Wk
end
noncomputable section
set_option linter.unusedVariables false
set_option linter.unusedSimpArgs false
namespace Go.AM
def D9(c c':AV):Prop:=∀ (w:World) (I:Nat->Prop) (φ:Phi) (u:Value),RV w I φ c u->RV w I φ c' u
def DC(cs cs':List AV):Prop:=cs.length=cs'.length /\ ∀ (k:Nat) c c',cs[k]? = some c->cs'[k]? = some c'->D9 c c'
theorem D9.refl(c:AV):D9 c c:=fun _ _ _ _ h=>h
theorem DC.refl(cs:List AV):DC cs cs:=⟨rfl,fun k c c' e e'=>by rw[e]at e';cases e';exact .refl _⟩
theorem DC.nil:DC [] []:=.refl _
theorem DC.cons{c c':AV}{cs cs':List AV}(h:D9 c c')(h':DC cs cs'):DC (c::cs) (c'::cs'):=by
 refine⟨by simp[h'.1],fun k x x' e e'=>?_⟩
 cases k with
 | zero=>simp at e e';exact e ▸ e' ▸ h
 | succ k=>exact h'.2 k x x' (by simpa using e) (by simpa using e')
theorem DC.get{cs cs':List AV}(h:DC cs cs'){k:Nat}{c':AV}(e:cs'[k]? = some c'):∃ c,cs[k]? = some c/\D9 c c':=by
 have hl:k<cs.length:=by
  rw[h.1]
  rcases Nat.lt_or_ge k cs'.length with h1 | h1
  ·exact h1
  ·rw[List.getElem?_eq_none h1]at e;cases e
 exact⟨_,List.getElem?_eq_getElem hl,h.2 k _ _ (List.getElem?_eq_getElem hl) e⟩
theorem D9.of{c c':AV}(h:AR c c')(hc:BP c=true):D9 c c':=fun w I φ u hv=>
 (h w I u (hv.free hc)).mono (fun _ hB=>⟨hB,rfl⟩) (fun _=>Nat.le_refl _) (Phi.no_le φ)
inductive GB:BS->BS->Prop
 | refl (x:BS):GB x x
 | arr (m:Bool) (sz:Nat) (es es':List (List AV)) (hl:es.length=es'.length) (h:∀ (i:Nat) cs cs',es[i]? = some cs->es'[i]? = some cs'->DC cs cs'):GB (.arr m sz es) (.arr m sz es')
 | seq (m:Bool) (sz n k:Nat) (f g:Nat->List AV) (hk:k<=n) (h:∀ i,i<k->Ch (f i) (g i)):GB (.seq m sz n f) (.seq m sz k g)
 | one (m:Bool) (sz:Nat) (cs:List AV) (g:Nat->List AV) (h:Ch cs (g 0)) (hf:cs.all BP=true):GB (.arr m sz [cs]) (.seq m sz 1 g)
 | zero (m:Bool) (sz:Nat) (g:Nat->List AV):GB (.arr m sz []) (.seq m sz 0 g)
 | pmap (m:Bool) (ks:List (List UInt8)) (v v':List UInt8->AV) (h:∀ s ∈ ks,AR (v s) (v' s)):GB (.pmap m ks v) (.pmap m ks v')
theorem GB.kind{x y:BS}(h:GB x y):live y=live x/\An y=An x/\(y=.none->x=.none)/\(Dt x->Dt y):=by
 cases h with
 | refl=>exact⟨rfl,rfl,id,id⟩
 | arr=>exact⟨rfl,rfl,fun e=>by(cases e),id⟩
 | seq m sz n k f g hk h=>exact⟨rfl,rfl,fun e=>by(cases e),fun e=>by simp only[Dt]at e ⊢;omega⟩
 | one=>exact⟨rfl,rfl,fun e=>by(cases e),fun e=>e.elim⟩
 | zero=>exact⟨rfl,rfl,fun e=>by(cases e),fun e=>e.elim⟩
 | pmap=>exact⟨rfl,rfl,fun e=>by(cases e),fun e=>e.elim⟩
theorem GB.rb{w:World}{I:Nat->Prop}{φ:Phi}{B o sz:Nat}{x y:BS}(h:GB x y)(hr:RB w I φ B o sz x):RB w I φ B o sz y:=by
 cases h with
 | refl=>exact hr
 | arr m s es es' hl h=>
  obtain⟨h1,h2,h3,h4⟩:=hr
  have old:∀ (i:Nat) cs',es'[i]? = some cs' -> ∃ cs,es[i]? = some cs/\DC cs cs':=by
   intro i cs' e
   have hi:i<es.length:=by
    rw[hl]
    rcases Nat.lt_or_ge i es'.length with h | h
    ·exact h
    ·rw[List.getElem?_eq_none h]at e;cases e
   exact⟨_,List.getElem?_eq_getElem hi,h i _ _ (List.getElem?_eq_getElem hi) e⟩
  refine⟨h1,h2,fun i cs' e=>?_,fun i cs' k c' e e'=>?_⟩
  ·obtain⟨cs,e1,e2⟩:=old i cs' e
   rw[<- e2.1];exact h3 i cs e1
  ·obtain⟨cs,e1,e2⟩:=old i cs' e
   obtain⟨c,e3,e4⟩:=e2.get e'
   obtain⟨u,a1,a2,a3⟩:=h4 i cs k c e1 e3
   exact⟨u,a1,a2,e4 _ _ _ _ a3⟩
 | seq m s n k0 f g hk h=>
  obtain⟨h1,h2,h3,h4⟩:=hr
  refine⟨h1,h2,fun i hi=>?_,fun i k c' hi e=>?_⟩
  ·rw[<- (h i hi).1];exact h3 i (Nat.lt_of_lt_of_le hi hk)
  ·obtain⟨c,e1,e2⟩:=(h i hi).get e
   obtain⟨u,a1,a2,a3⟩:=h4 i k c (Nat.lt_of_lt_of_le hi hk) e1
   exact⟨u,a1,a2,e2 w I u a3⟩
 | pmap m ks v v' h=>
  obtain⟨h1,h2,mes,clock,h3,h4⟩:=hr
  exact⟨h1,h2,mes,clock,h3,h4.1,fun i s e a b=>let ⟨x,y⟩:=h4.2.1 i s e a b;⟨x,h s (List.mem_of_getElem? a) w I _ y⟩,h4.2.2⟩
 | zero m s g=>
  obtain⟨h1,h2,h3,h4⟩:=hr
  exact⟨h1,h2,fun i hi=>absurd hi (Nat.not_lt_zero i),fun i k c' hi=>absurd hi (Nat.not_lt_zero i)⟩
 | one m s cs g h hf=>
  obtain⟨h1,h2,h3,h4⟩:=hr
  have zero:∀ i,i<1->i=0:=fun i hi=>by omega
  refine⟨h1,h2,fun i hi=>?_,fun i k c' hi e=>?_⟩
  ·rw[zero i hi,<- h.1];exact h3 0 cs rfl
  ·rw[zero i hi]at e ⊢
   obtain⟨c,e1,e2⟩:=h.get e
   obtain⟨u,a1,a2,a3⟩:=h4 0 cs k c rfl e1
   exact⟨u,a1,a2,e2 w I u (a3.free ((List.all_eq_true.1 hf) c (List.mem_of_getElem? e1)))⟩
def HSub(h h':Heap):Prop:=h.length=h'.length /\ ∀ b,GB (Ab h b) (Ab h' b)
theorem HSub.refl(h:Heap):HSub h h:=⟨rfl,fun b=>.refl _⟩
theorem HSub.nil:HSub [] []:=.refl _
theorem HSub.cons{x y:BS}{h h':Heap}(hx:GB x y)(hh:HSub h h'):HSub (x::h) (y::h'):=by
 refine⟨by simp[hh.1],fun b=>?_⟩
 cases b with
 | zero=>exact hx
 | succ b=>exact hh.2 b
theorem HSub.rh{w:World}{I:Nat->Prop}{φ:Phi}{h h':Heap}(s:HSub h h')(hh:RH w I φ (Ab h)):RH w I φ (Ab h'):=by
 have k:=fun b=>(s.2 b).kind
 refine⟨fun b e=>hh.none b ((k b).2.2.1 e),fun b e=>?_,fun b b' B o sz o' sz' e e'=>hh.inj b b' B o sz o' sz' ((k b).2.1 ▸ e) ((k b').2.1 ▸ e'),fun b B o sz e=>hh.disj b B o sz ((k b).2.1 ▸ e),
  fun b B o sz e e'=>hh.imm b B o sz ((k b).1 ▸ e) ((k b).2.1 ▸ e'),hh.lt⟩
 rcases hh.blk b ((k b).1 ▸ e)with ⟨B,o,sz,e1,r⟩ | ⟨e1,hp⟩
 ·exact .inl ⟨B,o,sz,e1,(s.2 b).rb r⟩
 ·exact .inr ⟨e1,(k b).2.2.2 hp⟩
theorem HSub.mut{φ:Phi}{h h':Heap}(s:HSub h h'){B:Nat}(hm:Ds φ (Ab h') B):Ds φ (Ab h) B:=by
 obtain⟨b,o,sz,e,e'⟩:=hm
 exact⟨b,o,sz,(s.2 b).kind.2.1 ▸ e,e'⟩
theorem Aa.sub{P:Program}{f:Nat}{args args':List AV}{hp hp' rh:Heap}{r:AV}(h:Aa P f args' hp' r rh)(ha:DC args args')(hs:HSub hp hp'):Aa P f args hp r rh:=by
 intro w I φ ra hh hx
 refine(h w I φ ra (hs.rh hh) ⟨ha.1.symm.trans hx.1,fun k c' u e e'=>?_⟩).mono fun u w' ⟨φ',I',a1,a2,a3⟩=>⟨φ',I',a1,a2,?_⟩
 ·obtain⟨c,e1,e2⟩:=ha.get e
  exact e2 _ _ _ _ (hx.2 k c u e1 e')
 ·exact⟨fun b p hb e=>a3.le b p (hs.1 ▸ hb) e,a3.Ile,fun B hB=>(a3.Inew B hB).imp id (Or.imp hs.mut id),fun B hB=>(a3.mt B hB).imp hs.mut id,a3.ext.weaken fun B hB=>hs.mut hB⟩
theorem Aa.resub{P:Program}{f:Nat}{args:List AV}{hp rh rh':Heap}{r r':AV}(h:Aa P f args hp r rh)(ha:D9 r r')(hs:HSub rh rh'):Aa P f args hp r' rh':=by
 intro w I φ ra hh hx
 exact(h w I φ ra hh hx).mono fun u w' ⟨φ',I',a1,a2,a3⟩=>⟨φ',I',ha _ _ _ _ a1,hs.rh a2,⟨a3.le,a3.Ile,a3.Inew,fun B hB=>a3.mt B (hs.mut hB),a3.ext⟩⟩
def gPG{X:Type}(dec:List AV->Heap->X)(pre:X->Prop)(enc:X->List AV × Heap)(args:List AV)(hp:Heap):Prop:=pre (dec args hp)/\DC args (enc (dec args hp)).1/\HSub hp (enc (dec args hp)).2
def Known.specG{X:Type}(f:Nat)(dec:List AV->Heap->X)(pre:X->Prop)(enc:X->List AV × Heap)(out:X->AV × Heap):Known:=
 {f:=f,ans:=fun args hp=>some {X:=X,g:=cd (gPG dec pre enc args hp),a:=dec args hp,r:=out}}
theorem Known.specG_ok{P:Program}{X:Type}{f:Nat}{dec:List AV->Heap->X}{pre:X->Prop}{enc:X->List AV × Heap}{out:X->AV × Heap}
  (h:∀ x,pre x->Aa P f (enc x).1 (enc x).2 (out x).1 (out x).2/\(enc x).2.length<=(out x).2.length):(Known.specG f dec pre enc out).Ok P:=by
 intro args hp A e hg
 cases e
 obtain⟨h1,h2,h3⟩:=QK.1 hg
 have:=h _ h1
 exact⟨this.1.sub h2 h3,by rw[h3.1];exact this.2⟩
def BG{R:Type}{X:Type}(dec:List AV->Heap->X)(pre:X->Prop)(enc:X->List AV × Heap)(A:List AV)(H:Heap)(k:X->Option R):Option R:=gX (gPG dec pre enc A H) (dec A H) k
theorem BT{R:Type}{X:Type}{dec:List AV->Heap->X}{pre:X->Prop}{enc:X->List AV × Heap}{A:List AV}{H:Heap}{k:X->Option R}(x:X)(h1:dec A H=x)(h2:pre x)(h3:DC A (enc x).1)(h4:HSub H (enc x).2) :
  BG dec pre enc A H k=k x:=by
 subst h1;exact lF ⟨h2,h3,h4⟩
theorem D9.sn{sz b n cm:Nat}:D9 (.sl sz b 0 n cm) (.sn sz b n):=by
 intro w I φ u h
 cases h with
 | sl _ _ B o _ _ _ cap q hφ hq hl hc hs=>
  rw[Nat.zero_mul,Nat.add_zero]at hq
  rw[Nat.zero_add]at hs
  subst hq
  exact .sn sz b n B _ cap hφ hl hs
 | sle _ _ _ a=>exact .sn0 sz b _
theorem D9.unsn{sz b n:Nat}(hn:0<n):D9 (.sn sz b n) (.sl sz b 0 n n):=by
 intro w I φ u h
 cases h with
 | sn0=>exact absurd hn (Nat.lt_irrefl 0)
 | sn _ _ _ B o cap hφ hl hs=>exact .sl sz b B o 0 n n cap o hφ (by simp) hl hl (by simpa using hs)
theorem Aa.nilSn{P:Program}{f:Nat}{args:List AV}(h:Aa P f args [] .nils [])(sz:Nat)(g:Nat->List AV):Aa P f args [] (.sn sz 0 0) [.seq true sz 0 g]:=by
 intro w I φ ra hh hx
 refine(h w I φ ra hh hx).mono fun u w' ⟨φ',I',a1,a2,a3⟩=>?_
 have hp:=a2.phan (nx:=0) (Ij 0) true sz g
 have e:AZ (Ab []) 0 (.seq true sz 0 g)=Ab [.seq true sz 0 g]:=by
  funext b
  cases b with
  | zero=>rw[AS];rfl
  | succ b=>rw[AQ _ _ (Nat.succ_ne_zero b),Ij];simp[Ab]
 rw[e]at hp
 refine⟨φ',I',?_,hp.1,a3.trans (hp.2 _)⟩
 cases a1
 exact .sn0 _ _ _
theorem Aa.blkSn{P:Program}{f:Nat}{args:List AV}{sz n cm:Nat}{x:BS}{g:Nat->List AV}(h:Aa P f args [] (.sl sz 0 0 n cm) [x])(hx:GB x (.seq true sz n g)) :
  Aa P f args [] (.sn sz 0 n) [.seq true sz n g]:=by
 intro w I φ ra hh hx'
 have hs:HSub [x] [.seq true sz n g]:=.cons hx .nil
 refine(h w I φ ra hh hx').mono fun u w' ⟨φ',I',a1,a2,a3⟩=>⟨φ',I',D9.sn w' I' φ' u a1,hs.rh a2,⟨a3.le,a3.Ile,a3.Inew,fun B hB=>a3.mt B (hs.mut hB),a3.ext⟩⟩
def up(c k:Nat)(i:Nat):Option Nat:=bif Nat.blt i c then some i else some (i+k)
def Ct(c base:Nat)(r:AV)(h:Heap):Option (AV × Heap):=
 let s:=OW c [0] {fr:=[(0,r)],hp:=h}
 some (ren (up c (base - c)) (A3 s.fr 0),(s.hp.take c).map (BE (up c (base - c)))++(List.replicate (base - c) .dead++(s.hp.drop c).map (BE (up c (base - c)))))
def Bz(c:Nat)(env:Env)(n f:Nat)(args:List AV)(hp:Heap):Option (AV × Heap):=D5 (R:=AV × Heap) env n f args hp (Ct c hp.length)
theorem N1{c:Nat}{P:Program}{f:Nat}{args:List AV}{hp hp':Heap}{res r:AV}{h:Heap}(hc:c<=hp.length)(k1:Ct c hp.length res hp'=some (r,h))(k2:hp.length<=hp'.length)(hcon:Aa P f args hp res hp') :
  Aa P f args hp r h/\hp.length<=h.length:=by
 have hlen:c<=(OW c [0] {fr:=[(0,res)],hp:=hp'}).hp.length:=by
  show c<=(MB [0] (Jt c [0] {fr:=[(0,res)],hp:=hp'}).hp).length
  rw[Pb];exact TU (Nat.le_trans hc k2)
 simp only[Ct,Option.some.injEq,Prod.mk.injEq]at k1
 obtain⟨rfl,rfl⟩:=k1
 refine⟨fun w I φ ra hh hx=>(hcon w I φ ra hh hx).mono fun u w' ⟨φ',I',a1,a2,a3⟩=>?_,by simp;omega⟩
 have hs:Cd w' I' φ' {fr:=[(0,res)],hp:=hp'} {tmps:=#[u],defers:=[]}:=by
  refine⟨a2,fun t=>?_⟩
  cases t with
  | zero=>exact a1
  | succ t=>exact .undef _
 obtain⟨_,φ2,n2,n3⟩:=Yv c [0] hs (Nat.le_trans hc k2)
 generalize OW c [0] {fr:=[(0,res)],hp:=hp'}=s at *
 have st:=(a3.mono hc).trans n3
 obtain⟨k,hk⟩:∃ k,k=hp.length - c:=⟨_,rfl⟩
 rw[<- hk]
 let φ3:Phi:=fun b=>if b<c then φ2 b else if b<hp.length then φ b else φ2 (b - k)
 have hρ:∀ i b',up c k i=some b'->φ3 b'=φ2 i:=by
  intro i b' e
  unfold up at e
  by_cases hi:i<c
  ·rw[AB hi,cond_true]at e;cases e;simp only[φ3,if_pos hi]
  ·rw[CI (by omega),cond_false]at e
   cases e
   simp only[φ3,if_neg (by omega:¬ i+k<c),if_neg (by omega:¬ i+k<hp.length),Nat.add_sub_cancel]
 have hg:∀ b,Ab ((s.hp.take c).map (BE (up c k))++(List.replicate k .dead++(s.hp.drop c).map (BE (up c k)))) b =
   if b<c then BE (up c k) (Ab s.hp b)else if b<hp.length then .dead else BE (up c k) (Ab s.hp (b - k)):=by
  intro b
  have hN:∀ i,(s.hp.length<=i)->BE (up c k) (Ab s.hp i)=.none:=fun i hi=>by rw[E0 hi];rfl
  have hl1:((s.hp.take c).map (BE (up c k))).length=c:=by simp;omega
  by_cases h1:b<c
  ·rw[if_pos h1]
   simp only[Ab,List.getD]
   rw[List.getElem?_append_left (by omega)]
   simp only[List.getElem?_map,List.getElem?_take,if_pos h1]
   rw[List.getElem?_eq_getElem (by omega:b<s.hp.length)];rfl
  ·rw[if_neg h1]
   by_cases h2:b<hp.length
   ·rw[if_pos h2]
    simp only[Ab,List.getD]
    rw[List.getElem?_append_right (by omega),List.getElem?_append_left (by simp;omega),List.getElem?_replicate,if_pos (by rw[hl1];omega)];rfl
   ·rw[if_neg h2]
    simp only[Ab,List.getD]
    rw[List.getElem?_append_right (by omega),List.getElem?_append_right (by simp;omega),hl1]
    simp only[List.getElem?_map,List.getElem?_drop,List.length_replicate]
    rw[show c+(b - c - k)=b - k by omega]
    cases e:s.hp[b - k]? with
    | none=>rfl
    | some x=>rfl
 have key:∀ b,live (Ab ((s.hp.take c).map (BE (up c k))++(List.replicate k .dead++(s.hp.drop c).map (BE (up c k)))) b)=true ->
   ∃ i,(i<c/\b=i\/c<=i/\b=i+k)/\Ab ((s.hp.take c).map (BE (up c k))++(List.replicate k .dead++(s.hp.drop c).map (BE (up c k)))) b=BE (up c k) (Ab s.hp i)/\φ3 b=φ2 i/\live (Ab s.hp i)=true:=by
  intro b hl
  rw[hg b]at hl ⊢
  by_cases h1:b<c
  ·rw[if_pos h1]at hl ⊢
   exact⟨b,.inl ⟨h1,rfl⟩,rfl,by simp only[φ3,if_pos h1],(Bb _ _).1 hl⟩
  ·rw[if_neg h1]at hl ⊢
   by_cases h2:b<hp.length
   ·rw[if_pos h2]at hl;cases hl
   ·rw[if_neg h2]at hl ⊢
    exact⟨b - k,.inr ⟨by omega,by omega⟩,rfl,by simp only[φ3,if_neg h1,if_neg h2],(Bb _ _).1 hl⟩
 have hmut:∀ b,An (Ab ((s.hp.take c).map (BE (up c k))++(List.replicate k .dead++(s.hp.drop c).map (BE (up c k)))) b)=true ->
   ∃ i,(i<c/\b=i\/c<=i/\b=i+k)/\φ3 b=φ2 i/\An (Ab s.hp i)=true:=by
  intro b hm
  obtain⟨i,h1,h2,h3,h4⟩:=key b (A5 hm)
  rw[h2]at hm
  exact⟨i,h1,h3,(Bb _ _).2.1 hm⟩
 refine⟨φ3,I',?_,⟨fun b e=>?_,fun b hl=>?_,fun b b' B o sz o' sz' hm hm' e e'=>?_,fun b B o sz hm e=>?_,fun b B o sz hl hm e=>?_,n2.hh.lt⟩,⟨fun b p hb e=>?_,st.Ile,st.Inew,fun B hB=>?_,st.ext⟩⟩
 ·exact(n2.fr 0).ren hρ
 ·rw[hg b]at e
  by_cases h1:b<c
  ·rw[if_pos h1]at e;simp only[φ3,if_pos h1];exact n2.hh.none b ((Bb _ _).2.2.1 e)
  ·rw[if_neg h1]at e
   by_cases h2:b<hp.length
   ·rw[if_pos h2]at e;cases e
   ·rw[if_neg h2]at e;simp only[φ3,if_neg h1,if_neg h2];exact n2.hh.none _ ((Bb _ _).2.2.1 e)
 ·obtain⟨i,h1,h2,h3,h4⟩:=key b hl
  rcases n2.hh.blk i h4 with ⟨B,o,sz,e,r⟩ | ⟨e,hp⟩
  ·exact .inl ⟨B,o,sz,h3.trans e,by rw[h2];exact r.ren hρ⟩
  ·exact .inr ⟨h3.trans e,by rw[h2];exact Fo _ hp⟩
 ·obtain⟨i,h1,h3,h4⟩:=hmut b hm
  obtain⟨i',h1',h3',h4'⟩:=hmut b' hm'
  have:=n2.hh.inj i i' B o sz o' sz' h4 h4' (h3 ▸ e) (h3' ▸ e')
  omega
 ·obtain⟨i,h1,h3,h4⟩:=hmut b hm
  exact n2.hh.disj i B o sz h4 (h3 ▸ e)
 ·obtain⟨i,h1,h2,h3,h4⟩:=key b hl
  rw[h2]at hl hm
  exact n2.hh.imm i B o sz h4 (by rw[<- (Bb (up c k) _).2.2.2 hl];exact hm) (h3 ▸ e)
 ·by_cases h1:b<c
  ·simp only[φ3,if_pos h1];exact st.le b p h1 e
  ·simp only[φ3,if_neg h1,if_pos hb];exact e
 ·obtain⟨b,o,sz,hm,e⟩:=hB
  obtain⟨i,h1,h3,h4⟩:=hmut b hm
  exact st.mt B ⟨i,o,sz,h4,h3 ▸ e⟩
theorem Zm{c:Nat}{P:Program}{env:Env}(henv:C5 P env)(hcode:Gb P env)(hm:P.follows .mixedOrders=true){n f:Nat}{args:List AV}{hp:Heap}{r:AV}{h:Heap}(hc:c<=hp.length)
  (e:Bz c env n f args hp=some (r,h)):Aa P f args hp r h/\hp.length<=h.length:=by
 obtain⟨res,hp',k1,k2,hcon⟩:=K9 henv hcode hm n f args hp _ _ e
 exact N1 hc k1 k2 hcon
end Go.AM
end
noncomputable section
namespace Go.Md
open Go.AM
structure Item where
 key:List UInt8
 val:List UInt8
 has:Bool
 ver:Ver
deriving DecidableEq,Inhabited
def Af(x:Item):List AV:=[.str x.key,.str x.val,.bool x.has,.cplx .f64 x.ver.re x.ver.im]
def Bd(cs:List AV):Item:=⟨Gy cs 0,Gy cs 1,Im cs 2,⟨(BF cs 3).1,(BF cs 3).2⟩⟩
theorem dE(x:Item):Bd (Af x)=x:=rfl
def Al(l:List Item):AV:=C8 4 Af default l
theorem E4(l:List Item):AN Bd (Al l)=l:=ES dE l
structure Pump where
 num:Int
 out:List Entry
 done:List Item
deriving DecidableEq,Inhabited
def Bg(x:Pump):List AV:=[.int .i64 x.num,Ae x.out,Al x.done]
def Df(cs:List AV):Pump:=⟨Aq cs 0,FB Bf cs 1,FB Bd cs 2⟩
theorem HN(x:Pump):Df (Bg x)=x:=by
 show(⟨x.num,AN Bf (Ae x.out),AN Bd (Al x.done)⟩:Pump)=x
 rw[Es,E4]
structure Wait where
 ver:Ver
 dst:Int
 sess:Int
 num:Int
deriving DecidableEq,Inhabited
def Ba(x:Wait):List AV:=[.cplx .f64 x.ver.re x.ver.im,.int .i64 x.dst,.int .i64 x.sess,.int .i64 x.num]
def IU(cs:List AV):Wait:=⟨⟨(BF cs 0).1,(BF cs 0).2⟩,Aq cs 1,Aq cs 2,Aq cs 3⟩
theorem dF(x:Wait):IU (Ba x)=x:=rfl
def DO(l:List Wait):AV:=C8 4 Ba default l
theorem aaH(l:List Wait):AN IU (DO l)=l:=ES dF l
structure Ask where
 num:Int
 key:List UInt8
 calls:List Msg
deriving DecidableEq,Inhabited
def B4(x:Ask):List AV:=[.int .i64 x.num,.str x.key,AG x.calls]
def Gi(cs:List AV):Ask:=⟨Aq cs 0,Gy cs 1,FB BJ cs 2⟩
theorem Mq(x:Ask):Gi (B4 x)=x:=by
 show(⟨x.num,x.key,AN BJ (AG x.calls)⟩:Ask)=x
 rw[R4]
def CG(l:List Ask):AV:=C8 3 B4 default l
theorem aeV(l:List Ask):AN Gi (CG l)=l:=ES Mq l
structure Desk where
 rep:Rep
 pump:Pump
 clean:List Item
 busy:Bool
 waits:List Wait
 asks:List Ask
 next:Int
deriving DecidableEq,Inhabited
def AP(x:Desk):List AV:=[.int .i64 x.rep.shard,.int .i64 x.rep.self.node,.int .i64 x.rep.self.boot,.int .i64 x.rep.view.shard,.int .i64 x.rep.view.epoch,.int .i64 x.rep.view.gen,.int .i64 x.rep.view.phase,Az x.rep.view.chain,.int .i64 x.rep.frozen,.cplx .f64 x.rep.tail.floor.re x.rep.tail.floor.im,.cplx .f64 x.rep.tail.last.re x.rep.tail.last.im,Ae x.rep.tail.log,Ax x.rep.seen,.cplx .f64 x.rep.got.re x.rep.got.im,Ci x.rep.synced,.int .i64 x.pump.num,Ae x.pump.out,Al x.pump.done,Al x.clean,.bool x.busy,DO x.waits,CG x.asks,.int .i64 x.next]
def IW(cs:List AV):Desk:=⟨⟨Aq cs 0,⟨Aq cs 1,Aq cs 2⟩,⟨Aq cs 3,Aq cs 4,Aq cs 5,Aq cs 6,FB Ca cs 7⟩,Aq cs 8,⟨⟨(BF cs 9).1,(BF cs 9).2⟩,⟨(BF cs 10).1,(BF cs 10).2⟩,FB Bf cs 11⟩,FB BZ cs 12,⟨(BF cs 13).1,(BF cs 13).2⟩,FB HE cs 14⟩,⟨Aq cs 15,FB Bf cs 16,FB Bd cs 17⟩,FB Bd cs 18,Im cs 19,FB IU cs 20,FB Gi cs 21,Aq cs 22⟩
theorem Jq(x:Desk):IW (AP x)=x:=by
 show(⟨⟨x.rep.shard,⟨x.rep.self.node,x.rep.self.boot⟩,⟨x.rep.view.shard,x.rep.view.epoch,x.rep.view.gen,x.rep.view.phase,AN Ca (Az x.rep.view.chain)⟩,x.rep.frozen,⟨⟨x.rep.tail.floor.re,x.rep.tail.floor.im⟩,⟨x.rep.tail.last.re,x.rep.tail.last.im⟩,AN Bf (Ae x.rep.tail.log)⟩,AN BZ (Ax x.rep.seen),⟨x.rep.got.re,x.rep.got.im⟩,AN HE (Ci x.rep.synced)⟩,⟨x.pump.num,AN Bf (Ae x.pump.out),AN Bd (Al x.pump.done)⟩,AN Bd (Al x.clean),x.busy,AN IU (DO x.waits),AN Gi (CG x.asks),x.next⟩:Desk)=x
 simp only[EL,Es,EE,Pe,E4,aaH,aeV]
structure Conf where
 nodes:Int
 chain:Int
 shards:Int
 clients:Int
 maxKey:Int
 maxVal:Int
 high:Int
 low:Int
 room:Int
 maxLog:Int
 batch:Int
 sessions:Int
 suspect:Int
 patience:Int
 maxSeq:Int
deriving DecidableEq,Inhabited
def Cp(x:Conf):List AV:=[.int .i64 x.nodes,.int .i64 x.chain,.int .i64 x.shards,.int .i64 x.clients,.int .i64 x.maxKey,.int .i64 x.maxVal,.int .i64 x.high,.int .i64 x.low,.int .i64 x.room,.int .i64 x.maxLog,.int .i64 x.batch,.int .i64 x.sessions,.int .i64 x.suspect,.int .i64 x.patience,.int .i64 x.maxSeq]
def HO(cs:List AV):Conf:=⟨Aq cs 0,Aq cs 1,Aq cs 2,Aq cs 3,Aq cs 4,Aq cs 5,Aq cs 6,Aq cs 7,Aq cs 8,Aq cs 9,Aq cs 10,Aq cs 11,Aq cs 12,Aq cs 13,Aq cs 14⟩
theorem N2(x:Conf):HO (Cp x)=x:=rfl
end Go.Md
end
noncomputable section
open Go Go.AM Go.Md
namespace Go.Hd
open Go.Wk
set_option maxRecDepth 100000
set_option maxHeartbeats 400000
def asc(f:Nat):List (Nat × Nat)->Option Nat
 | []=>none
 | (g,m)::r=>bif Nat.beq f g then some m else asc f r
def BU(lv:List (Nat × Nat × List Nat))(md:List (Nat × Nat))(fz:List (Nat × Nat × List Nat))(l:List Known):Env:=
 {Vm (fun f=>asc f md) (Nm l)with live:=fun f b=>QI f b (lv++Vl),frz:=fun f b=>QI f b fz}
theorem Ft{lv:List (Nat × Nat × List Nat)}{md:List (Nat × Nat)}{fz:List (Nat × Nat × List Nat)}{l:List Known}(h:∀ k ∈ l,k.Ok PG):C5 PG (BU lv md fz l):=⟨lE rfl,TX h⟩
theorem Dn{lv:List (Nat × Nat × List Nat)}{md:List (Nat × Nat)}{fz:List (Nat × Nat × List Nat)}{l:List Known}:Gb PG (BU lv md fz l):=QH rfl
theorem BN{lv:List (Nat × Nat × List Nat)}{md:List (Nat × Nat)}{fz:List (Nat × Nat × List Nat)}{l:List Known}(h:∀ k ∈ l,k.Ok PG){n f:Nat}{args:List AV}{r:AV}(e:Am (BU lv md fz l) n f args=some r):Aa PG f args [] r []:=
 Td (Ft h) Dn mixed e
theorem conC{lv:List (Nat × Nat × List Nat)}{md:List (Nat × Nat)}{fz:List (Nat × Nat × List Nat)}{l:List Known}(h:∀ k ∈ l,k.Ok PG){c n f:Nat}{args:List AV}{hp:Heap}{r:AV}{h':Heap}(hc:c<=hp.length)
  (e:Bz c (BU lv md fz l) n f args hp=some (r,h')):Aa PG f args hp r h'/\hp.length<=h'.length:=Zm (Ft h) Dn mixed hc e
theorem Zn{lv:List (Nat × Nat × List Nat)}{md:List (Nat × Nat)}{fz:List (Nat × Nat × List Nat)}{l:List Known}(h:∀ k ∈ l,k.Ok PG){n f:Nat}{args:List AV}{r:AV}{h':Heap}
  (e:Bz 0 (BU lv md fz l) n f args []=some (r,h')):Aa PG f args [] r h':=(Zm (Ft h) Dn mixed (Nat.le_refl 0) e).1
theorem Hg{F sz b:Nat}(hb:b<=1000)(hn:Am Ew 2 F [.nils]=some .nils)(he:Mh Ew 2 F [.trl sz []] []=some (.sl sz 0 0 0 0,[.arr true sz []]))
  (hs:∀ n f,Mh Ew 2 F [.tr sz (n+1) f] []=bif Nat.ble ((0+(n+1))*b) 140737488355328&&Nat.ble (0+(n+1)) 140737488355328 then some (.sl sz 0 0 (n+1) 0,[.seq true sz (n+1) f])else none)
  {n:Nat} (f:Nat->List AV) (h:n<=100000):Aa PG F [.tr sz n f] [] (.sn sz 0 n) [.seq true sz n f]:=by
 have e0:Ew=BU [] [] [] []:=rfl
 rw[e0]at hn he hs
 cases n with
 | zero=>
  refine Aa.split (Ov.of [] [] .nil) ((BN (fun k hk=>by cases hk) hn).nilSn sz f) ?_
  have:=(KP (Ft (fun k hk=>by cases hk)) Dn mixed he).1
  exact this.blkSn (.zero true sz f)
 | succ n=>
  have h1:n+1<=100000:=h
  have:=hs n f
  rw[Bo (by have:=Nat.mul_le_mul h1 hb;rw[Nat.zero_add];omega),Bo (by omega)]at this
  have:=(KP (Ft (fun k hk=>by cases hk)) Dn mixed this).1
  exact this.blkSn (.refl _)
theorem Nx{n:Nat}(f:Nat->List AV)(h:n<=100000):Aa PG Bq [.tr 4 n f] [] (.sn 4 0 n) [.seq true 4 n f]:=Hg (b:=56) (by omega) (by kernel_rfl) (by kernel_rfl) (fun n f=>by kernel_rfl) f h
theorem WQ{n:Nat}(f:Nat->List AV)(h:n<=100000):Aa PG FU [.tr 4 n f] [] (.sn 4 0 n) [.seq true 4 n f]:=Hg (b:=40) (by omega) (by kernel_rfl) (by kernel_rfl) (fun n f=>by kernel_rfl) f h
theorem Zo{n:Nat}(f:Nat->List AV)(h:n<=100000):Aa PG Gz [.tr 3 n f] [] (.sn 3 0 n) [.seq true 3 n f]:=Hg (b:=48) (by omega) (by kernel_rfl) (by kernel_rfl) (fun n f=>by kernel_rfl) f h
theorem Gj{n:Nat}(f:Nat->List AV)(h:n<=100000):Aa PG AJ [.tr 11 n f] [] (.sn 11 0 n) [.seq true 11 n f]:=Hg (b:=112) (by omega) (by kernel_rfl) (by kernel_rfl) (fun n f=>by kernel_rfl) f h
theorem Zp{n:Nat}(f:Nat->List AV)(h:n<=100000):Aa PG GA [.tr 31 n f] [] (.sn 31 0 n) [.seq true 31 n f]:=Hg (b:=392) (by omega) (by kernel_rfl) (by kernel_rfl) (fun n f=>by kernel_rfl) f h
theorem sQ{n:Nat}(f:Nat->List AV)(h:n<=100000):Aa PG FV [.tr 5 n f] [] (.sn 5 0 n) [.seq true 5 n f]:=Hg (b:=56) (by omega) (by kernel_rfl) (by kernel_rfl) (fun n f=>by kernel_rfl) f h
def Et(a:List AV):Nat × (Nat->List AV):=match a.getD 0 .nils with
 | .tr _ n f=>(n,f)
 | .trl _ es=>(es.length,fun i=>es.getD i [])
 | _=>(0,fun _=>[])
def Eu(sz:Nat)(p:Nat × (Nat->List AV)):List AV:=[.tr sz p.1 p.2]
def Ev(p:Nat × (Nat->List AV)):Prop:=p.1<=100000
def Ny(F sz:Nat):Known:=.specB F Et Ev (Eu sz) (fun p=>(.sn sz 0 p.1,[.seq true sz p.1 p.2]))
def FN(F sz:Nat):Known:=.spec F Et Ev (Eu sz) (fun p=>.tr sz p.1 p.2)
theorem Iy{F sz:Nat}(h:∀ {n:Nat} (f:Nat->List AV),n<=100000->Aa PG F [.tr sz n f] [] (.sn sz 0 n) [.seq true sz n f]):(Ny F sz).Ok PG:=Known.specB_ok fun p hp=>h p.2 hp
theorem Dp{F sz:Nat}(h:∀ {n:Nat} (f:Nat->List AV),n<=100000->Aa PG F [.tr sz n f] [] (.sn sz 0 n) [.seq true sz n f]):(FN F sz).Ok PG:=Known.spec_ok fun p hp=>
 (h p.2 hp).snapped (by
  show(match IK 400 (Ab [.seq true sz p.1 p.2]) (.sn sz 0 p.1)with
   | some (r,_,g)=>bif g then some r else none
   | none=>none)=_
  show(bif Nat.ble p.1 p.1 then some (AV.tr sz p.1 p.2)else none)=_
  rw[Bo (Nat.le_refl _)];rfl)
theorem WR{R:Type}{sz n:Nat}{f:Nat->List AV}{k:Nat × (Nat->List AV)->Option R}(h:n<=100000):gC Et Ev (Eu sz) [.tr sz n f] k=k (n,f):=Aw (n,f) rfl h (.refl _)
def By{X:Type}(P:X->Bool):List X->Nat->Int
 | [],_=>-1
 | x::r,i=>bif P x then(i:Int)else By P r (i+1)
theorem HP{X:Type}{P:X->Bool}:∀ (l:List X) (i:Nat),By P l i = -1 ↔ ∀ x ∈ l,P x=false
 | [],i=>⟨fun _ _ h=>by simp at h,fun _=>rfl⟩
 | x::r,i=>by
  unfold By
  cases h:P x with
  | true=>exact⟨fun e=>by rw[cond_true]at e;omega,fun e=>by have:=e x (by simp);rw[h]at this;cases this⟩
  | false=>
   rw[cond_false,HP r (i+1)]
   exact⟨fun e y hy=>(List.mem_cons.1 hy).elim (fun q=>q ▸ h) (e y),fun e y hy=>e y (by simp[hy])⟩
theorem N3{X:Type}{P:X->Bool}(z:X):∀ (l:List X) (i:Nat),By P l i ≠ -1 -> ∃ k,By P l i=((i+k:Nat):Int)/\k<l.length/\P (l.getD k z)=true /\ ∀ x ∈ l.take k,P x=false
 | [],i,h=>absurd rfl h
 | x::r,i,h=>by
  unfold By at h ⊢
  cases hx:P x with
  | true=>exact⟨0,by simp,by simp,by simpa using hx,by simp⟩
  | false=>
   rw[hx,cond_false]at h
   obtain⟨k,h1,h2,h3,h4⟩:=N3 z r (i+1) h
   refine⟨k+1,?_,by simpa using h2,by simpa using h3,fun y hy=>?_⟩
   ·rw[cond_false,h1];congr 1;omega
   ·rw[List.take_succ_cons]at hy
    exact(List.mem_cons.1 hy).elim (fun q=>q ▸ hx) (h4 y)
theorem OF{X R:Type}{p:X->Bool}{l:List X}{z:X}{L:Nat->Int->Option R}{A:Int->Option R}(hn:l.length<=100000)
  (hst:∀ m (i:Int),L (m+1) i=bif decide (i<(l.length:Int))then rg i l.length (bif Nat.blt i.toNat l.length then bif p (l.getD i.toNat z)then A i else L m (IntKind.i64.wrap (i+1))else none)else A (-1)) :
  ∀ (d i m:Nat),i+d=l.length->d<m->L m (i:Nat)=A (By p (l.drop i) i):=by
 intro d
 induction d with
 | zero=>
  intro i m hi hm
  obtain⟨m,rfl⟩:∃ k,m=k+1:=⟨m - 1,by omega⟩
  rw[hst,decide_eq_false (by omega),cond_false,List.drop_eq_nil_of_le (by omega)]
  rfl
 | succ d ih=>
  intro i m hi hm
  obtain⟨m,rfl⟩:∃ k,m=k+1:=⟨m - 1,by omega⟩
  have hil:i<l.length:=by omega
  rw[hst,decide_eq_true (by omega),cond_true,Bi hil,Int.toNat_natCast,AB hil,cond_true,Bv (by omega),ih (i+1) m (by omega) (by omega),drop_cons (z:=z) hil]
  show _=A (bif p (l.getD i z)then(i:Int)else By p (l.drop (i+1)) (i+1))
  cases p (l.getD i z) <;> rfl
def LN{X:Type}(F:Nat->X)(i:Nat)(x:X):Nat->X:=fun k=>bif k.beq i then x else F k
theorem Px{X:Type}(e:X->List AV)(F:Nat->X)(i:Nat)(x:X):(fun k=>bif k.beq i then e x else e (F k))=fun k=>e (LN F i x k):=by
 funext k
 unfold LN
 cases k.beq i <;> rfl
theorem aeW{X:Type}(F:Nat->X)(i:Nat)(x:X):LN F i x i=x:=by unfold LN;rw[AM.beq_true rfl];rfl
theorem fU{X:Type}(F:Nat->X){i k:Nat}(x:X)(h:k ≠ i):LN F i x k=F k:=by unfold LN;rw[AM.beq_false h];rfl
theorem ac9{X:Type}{p:X->Bool}{x:X}(h:p x=true):([x].filter fun x=>!p x)=[]:=by rw[List.filter_cons,h];rfl
theorem ajT{X:Type}{p:X->Bool}{x:X}(h:p x=false):([x].filter fun x=>!p x)=[x]:=by rw[List.filter_cons,h];rfl
theorem del_run{X R:Type}{p:X->Bool}{l:List X}{z:X}{L:Nat->(Nat->X)->Int->Int->Option R}{A:(Nat->X)->Nat->Option R}(hn:l.length<=100000)
  (hst:∀ m F (i j:Int),L (m+1) F i j=bif decide (j<(l.length:Int))then rg j l.length (bif Nat.blt j.toNat l.length then bif !p (F j.toNat)then rg i l.length (bif Nat.blt i.toNat l.length&&true then L m (LN F i.toNat (F j.toNat)) (IntKind.i64.wrap (i+1)) (IntKind.i64.wrap (j+1))else none)else L m F i (IntKind.i64.wrap (j+1))else none)else
   bif decide (0<=i)&&decide (i<=(l.length:Int))then A F i.toNat else none) :
  ∀ (d i j m:Nat) (F:Nat->X),j+d=l.length->d<m->i<j->i=((l.take j).filter fun x=>!p x).length->(∀ x,x<i->F x=((l.take j).filter fun x=>!p x).getD x z)->(∀ x,j<=x->x<l.length->F x=l.getD x z) ->
   ∃ G:Nat->X,L m F (i:Nat) (j:Nat)=A G (l.filter fun x=>!p x).length /\ ∀ x,x<(l.filter fun x=>!p x).length->G x=(l.filter fun x=>!p x).getD x z:=by
 intro d
 induction d with
 | zero=>
  intro i j m F hj hm hij hi h1 h2
  obtain⟨m,rfl⟩:∃ k,m=k+1:=⟨m - 1,by omega⟩
  have ht:l.take j=l:=List.take_of_length_le (by omega)
  rw[ht]at hi h1
  rw[hst,decide_eq_false (by omega),cond_false,decide_eq_true (by omega),decide_eq_true (by omega),Bool.and_true,cond_true,Int.toNat_natCast]
  exact⟨F,by rw[<- hi],fun x hx=>h1 x (by omega)⟩
 | succ d ih=>
  intro i j m F hj hm hij hi h1 h2
  obtain⟨m,rfl⟩:∃ k,m=k+1:=⟨m - 1,by omega⟩
  have hjl:j<l.length:=by omega
  have hx:F j=l.getD j z:=h2 j (Nat.le_refl _) hjl
  have ht:l.take (j+1)=l.take j++[l.getD j z]:=by
   rw[List.take_add_one,List.getD,List.getElem?_eq_getElem hjl];rfl
  rw[hst,decide_eq_true (by omega),cond_true,Bi hjl,Int.toNat_natCast,AB hjl,cond_true,hx]
  cases hp:p (l.getD j z)with
  | true=>
   rw[Bool.not_true,cond_false,Bv (by omega)]
   have hf:((l.take (j+1)).filter fun x=>!p x)=((l.take j).filter fun x=>!p x):=by
    rw[ht,List.filter_append,ac9 hp,List.append_nil]
   exact ih i (j+1) m F (by omega) (by omega) (by omega) (by rw[hf];exact hi) (fun x hx=>by rw[hf];exact h1 x hx) (fun x hx hx'=>h2 x (by omega) hx')
  | false=>
   have hil:i<l.length:=by omega
   rw[Bool.not_false,cond_true,Bi hil,Int.toNat_natCast,AB hil,Bool.and_true,cond_true,Bv (by omega),Bv (by omega)]
   have hf:((l.take (j+1)).filter fun x=>!p x)=((l.take j).filter fun x=>!p x)++[l.getD j z]:=by
    rw[ht,List.filter_append,ajT hp]
   refine ih (i+1) (j+1) m _ (by omega) (by omega) (by omega) (by rw[hf,List.length_append,<- hi];rfl) (fun x hx=>?_) (fun x hx hx'=>?_)
   ·rw[hf]
    by_cases hxi:x=i
    ·subst hxi
     rw[aeW]
     simp only[List.getD]
     rw[List.getElem?_append_right (by omega),show x - ((l.take j).filter fun x=>!p x).length=0 by omega];rfl
    ·rw[fU _ _ hxi,h1 x (by omega)]
     simp only[List.getD]
     rw[List.getElem?_append_left (by omega)]
   ·rw[fU _ _ (by omega)];exact h2 x (by omega) hx'
theorem filter_none{X:Type}{p:X->Bool}{l:List X}(h:∀ x ∈ l,p x=false):(l.filter fun x=>!p x)=l:=List.filter_eq_self.2 fun x hx=>by simp[h x hx]
theorem getD_take{X:Type}{l:List X}{k x:Nat}{z:X}(h:x<k):(l.take k).getD x z=l.getD x z:=by
 simp only[List.getD,List.getElem?_take,if_pos h]
def Bc{X:Type}(sz:Nat)(e:X->List AV)(z:X)(l:List X):BS:=.seq true sz l.length fun i=>e (l.getD i z)
theorem aeX{X:Type}{sz n:Nat}{e:X->List AV}{z:X}{l:List X}{f:Nat->List AV}(hn:l.length<=n)(h:∀ i,i<l.length->f i=e (l.getD i z)):GB (.seq true sz n f) (Bc sz e z l):=
 .seq true sz n l.length f _ hn fun i hi=>by rw[h i hi];exact .refl _
theorem Sf{X:Type}{p:X->Bool}{l:List X}{z:X}{L:Nat->(Nat->X)->Int->Int->Option (AV × Heap)}{A:(Nat->X)->Nat->Option (AV × Heap)}{m:Nat}(hn:l.length<=100000)(hm:l.length<m)
  (hst:∀ m F (i j:Int),L (m+1) F i j=bif decide (j<(l.length:Int))then rg j l.length (bif Nat.blt j.toNat l.length then bif !p (F j.toNat)then rg i l.length (bif Nat.blt i.toNat l.length&&true then L m (LN F i.toNat (F j.toNat)) (IntKind.i64.wrap (i+1)) (IntKind.i64.wrap (j+1))else none)else L m F i (IntKind.i64.wrap (j+1))else none)else
   bif decide (0<=i)&&decide (i<=(l.length:Int))then A F i.toNat else none) (hi:By p l 0 ≠ -1) :
  ∃ G:Nat->X,L m (fun i=>l.getD i z) (By p l 0) (IntKind.i64.wrap (By p l 0+1))=A G (l.filter fun x=>!p x).length/\0<l.length/\(l.filter fun x=>!p x).length<=l.length /\ ∀ x,x<(l.filter fun x=>!p x).length->G x=(l.filter fun x=>!p x).getD x z:=by
 obtain⟨k,h1,h2,h3,h4⟩:=N3 z l 0 hi
 rw[Nat.zero_add]at h1
 have hf0:((l.take k).filter fun x=>!p x)=l.take k:=filter_none h4
 have ht:l.take (k+1)=l.take k++[l.getD k z]:=by
  rw[List.take_add_one,List.getD,List.getElem?_eq_getElem h2];rfl
 have hf:((l.take (k+1)).filter fun x=>!p x)=l.take k:=by
  rw[ht,List.filter_append,hf0];rw[ac9 h3,List.append_nil]
 obtain⟨G,g1,g2⟩:=del_run hn hst (l.length - (k+1)) k (k+1) m (fun i=>l.getD i z) (by omega) (by omega) (by omega) (by rw[hf];simp;omega) (fun x hx=>by rw[hf,getD_take hx]) (fun x _ _=>rfl)
 refine⟨G,?_,by omega,List.length_filter_le _ _,g2⟩
 rw[h1,Bv (by omega)];exact g1
abbrev Itm:=Md.Item
abbrev Txt:=List UInt8
def Iz{X:Type}(d:List AV->X):BS->List X
 | .seq _ _ n f=>(List.range n).map fun i=>d (f i)
 | .arr _ _ es=>es.map d
 | _=>[]
theorem Hh{X:Type}{sz:Nat}{e:X->List AV}{d:List AV->X}{z:X}(h:∀ x,d (e x)=x)(l:List X):Iz d (Bc sz e z l)=l:=by
 show(List.range l.length).map (fun i=>d (e (l.getD i z)))=l
 refine List.ext_getElem (by simp) fun i g1 g2=>?_
 simp[h,List.getD,List.getElem?_eq_getElem g2]
def aht:BS->AV
 | .arr _ _ [[c]]=>c
 | .seq _ _ _ f=>(f 0).getD 0 .undef
 | _=>.undef
def OG:BS->List AV
 | .arr _ _ [c]=>c
 | .seq _ _ _ f=>f 0
 | _=>[]
def ajU(b:BS):Txt:=match aht b with
 | .str s=>s
 | _=>[]
def ahu(a:List AV):Txt:=match a.getD 1 .nils with
 | .tp [.str s] _=>s
 | _=>[]
def al5(a:List AV):List AV:=match a.getD 1 .nils with
 | .tp cs _=>cs
 | _=>[]
def mJ(b:BS):List Txt × (Txt->Int):=match b with
 | .pmap _ ks val=>(ks,fun k=>match val k with
  | .int _ n=>n
  | _=>0)
 | _=>([],fun _=>0)
def eO(l:List Known):Env:=BU [] [(Au,5),(Ao,5),(Kc,0)] [] l
def fO:AV:=.fn (.func Kc) [] [.ptr 1 0 0]
def hO(y:Txt):Heap:=[.arr true 1 [[.str y]]]
def pO(y:Txt)(x:Itm):Bool:=Ah x.key y
def xCO:List AV->Itm × Txt:=fun a=>(Bd (Ay a 0),ahu a)
def sR(q:Itm × Txt):List AV:=[.agg (Af q.1),.tp [.str q.2] 0]
theorem ajV(q:Itm × Txt):Am (eO []) 9 Kc (sR q)=some (.bool (pO q.2 q.1)):=by kernel_rfl
def Zq:Known:=.spec Kc xCO (fun _=>True) sR (fun q=>.bool (pO q.2 q.1))
theorem Ui:Zq.Ok PG:=Known.spec_ok fun q _=>BN (fun k hk=>by cases hk) (ajV q)
theorem ahv(q:Itm × Txt):xCO (sR q)=q:=Prod.ext rfl rfl
def gO{R:Type}(q:Itm × Txt)(k:Itm × Txt->Option R):Option R:=gC xCO (fun _=>True) sR (sR q) k
theorem ada{R:Type}(q:Itm × Txt)(k:Itm × Txt->Option R):gO q k=k q:=Aw q (ahv q) trivial (.refl _)
def SIO(n:Nat)(F:Nat->Itm)(y:Txt)(i:Int):St:={fr:=[(0,.sn 4 0 n),(1,fO),(7,.int .i64 n),(8,.int .i64 i)],hp:=.seq true 4 n (fun i=>Af (F i))::hO y}
def LIO(N m n:Nat)(F:Nat->Itm)(y:Txt)(i:Int):Option (AV × Heap):=LP (eO [Zq]) N 2 Au (Ct 2 2) 0 [] m (SIO n F y i)
abbrev YO:=List Itm × Txt
def FQ(p:YO):List AV × Heap:=([.sn 4 0 p.1.length,fO],Bc 4 Af default p.1::hO p.2)
theorem ajW(N:Nat)(p:YO):Bz 2 (eO [Zq]) (N+1) Au (FQ p).1 (FQ p).2=LIO N N p.1.length (fun i=>p.1.getD i default) p.2 0:=by kernel_rfl
theorem ajX(N m n:Nat)(F:Nat->Itm)(y:Txt)(i:Int):LIO N (m+1) n F y i=bif decide (i<(n:Int))then rg i n (bif Nat.blt i.toNat n then gO (F i.toNat,y) (fun q=>bif pO q.2 q.1 then some (.int .i64 i,.seq true 4 n (fun i=>Af (F i))::hO y)else LIO N m n F y (IntKind.i64.wrap (i+1)))else none)else some (.int .i64 (-1),.seq true 4 n (fun i=>Af (F i))::hO y):=by kernel_rfl
def fV(_:List AV)(h:Heap):YO:=(Iz Bd (Ab h 0),ajU (Ab h 1))
theorem sS(p:YO):fV (FQ p).1 (FQ p).2=p:=Prod.ext (Hh (sz:=4) (fun _=>rfl) p.1) rfl
def GW(p:YO):Prop:=p.1.length<=100000
theorem ahw(p:YO)(h:GW p):Aa PG Au (FQ p).1 (FQ p).2 (.int .i64 (By (pO p.2) p.1 0)) (FQ p).2/\(FQ p).2.length<=(FQ p).2.length:=by
 obtain⟨N,hN⟩:∃ N,N=200000:=⟨_,rfl⟩
 refine conC (ak Ui AL) (c:=2) (n:=N+1) (Nat.le_refl 2) ((ajW N p).trans ?_)
 have:=OF (p:=pO p.2) (l:=p.1) (z:=default) (L:=fun m i=>LIO N m p.1.length (fun i=>p.1.getD i default) p.2 i) (A:=fun i=>some (.int .i64 i,(FQ p).2)) h
  (fun m i=>by rw[ajX,ada];rfl) p.1.length 0 N (by omega) (by unfold GW at h;omega)
 rw[List.drop_zero]at this
 exact this
def sU:Known:=.specG Au fV GW FQ (fun p=>(.int .i64 (By (pO p.2) p.1 0),(FQ p).2))
theorem Zr:sU.Ok PG:=Known.specG_ok ahw
def SDO(n:Nat)(F:Nat->Itm)(y:Txt)(i j:Int):St:={fr:=[(0,.sn 4 0 n),(1,fO),(5,.int .i64 i),(6,.int .i64 j)],hp:=.seq true 4 n (fun i=>Af (F i))::hO y}
def fX(N m n:Nat)(F:Nat->Itm)(y:Txt)(i j:Int):Option (AV × Heap):=LP (eO [sU,Zq]) N 2 Ao (Ct 2 2) 0 [] m (SDO n F y i j)
theorem ajY(N:Nat)(p:YO):Bz 2 (eO [sU,Zq]) (N+1) Ao (FQ p).1 (FQ p).2=BG fV GW FQ (FQ p).1 (FQ p).2 fun q=>
 bif decide (By (pO q.2) q.1 0 = -1)then some (.sn 4 0 p.1.length,(FQ q).2)
 else LP (eO [sU,Zq]) N 2 Ao (Ct 2 2) 0 [] N {fr:=[(0,.sn 4 0 p.1.length),(1,fO),(5,.int .i64 (By (pO q.2) q.1 0)),(6,.int .i64 (IntKind.i64.wrap (By (pO q.2) q.1 0+1)))],hp:=(FQ q).2}:=by kernel_rfl
def AO(n:Nat)(y:Txt)(F:Nat->Itm)(i:Nat):Option (AV × Heap):=
 bif Nat.blt 0 n then bif(n - i).beq 0 then some (.sn 4 0 i,.seq true 4 n (fun i=>Af (F i))::hO y)
 else bif(i+(n - i)).ble n then some (.sn 4 0 i,.seq true 4 n (fun k=>bif k.blt i then Af (F k)else bif k.blt (i+(n - i))then Af default else Af (F k))::hO y)else none
 else none
theorem ajZ(N m n:Nat)(F:Nat->Itm)(y:Txt)(i j:Int):fX N (m+1) n F y i j =
 bif decide (j<(n:Int))then rg j n (bif Nat.blt j.toNat n then gO (F j.toNat,y) (fun q=>bif !pO q.2 q.1 then rg i n (bif Nat.blt i.toNat n&&true then LP (eO [sU,Zq]) N 2 Ao (Ct 2 2) 0 [] m
  {fr:=[(0,.sn 4 0 n),(1,fO),(5,.int .i64 (IntKind.i64.wrap (i+1))),(6,.int .i64 (IntKind.i64.wrap (j+1)))],hp:=.seq true 4 n (fun k=>bif k.beq i.toNat then Af (F j.toNat)else Af (F k))::hO y}else none)
  else fX N m n F y i (IntKind.i64.wrap (j+1)))else none)
 else bif decide (0<=i)&&decide (i<=(n:Int))then bif Nat.blt 0 n then bif(n - i.toNat).beq 0 then bif decide (0<=i)&&decide (i<=(n:Int))then some (.sn 4 0 i.toNat,.seq true 4 n (fun i=>Af (F i))::hO y)else none
  else bif(i.toNat+(n - i.toNat)).ble n then bif decide (0<=i)&&decide (i<=(n:Int))then some (.sn 4 0 i.toNat,.seq true 4 n (fun k=>bif k.blt i.toNat then Af (F k)else bif k.blt (i.toNat+(n - i.toNat))then Af default else Af (F k))::hO y)else none else none
  else none else none:=by kernel_rfl
theorem ahx(N m n:Nat)(F:Nat->Itm)(y:Txt)(i j:Int):fX N (m+1) n F y i j =
 bif decide (j<(n:Int))then rg j n (bif Nat.blt j.toNat n then bif !pO y (F j.toNat)then rg i n (bif Nat.blt i.toNat n&&true then fX N m n (LN F i.toNat (F j.toNat)) y (IntKind.i64.wrap (i+1)) (IntKind.i64.wrap (j+1))else none)else fX N m n F y i (IntKind.i64.wrap (j+1))else none)
 else bif decide (0<=i)&&decide (i<=(n:Int))then AO n y F i.toNat else none:=by
 rw[ajZ,ada,Px Af]
 unfold AO
 cases decide (0<=i)&&decide (i<=(n:Int)) <;> rfl
def fY(p:YO):AV × Heap:=(.sn 4 0 (p.1.filter fun x=>!pO p.2 x).length,Bc 4 Af default (p.1.filter fun x=>!pO p.2 x)::hO p.2)
theorem ahy(p:YO)(h:GW p):Aa PG Ao (FQ p).1 (FQ p).2 (fY p).1 (fY p).2/\(FQ p).2.length<=(fY p).2.length:=by
 obtain⟨N,hN⟩:∃ N,N=200000:=⟨_,rfl⟩
 have hq:∀ {K:YO->Option (AV × Heap)},BG fV GW FQ (FQ p).1 (FQ p).2 K=K p:=fun {K}=>BT p (sS p) h (.refl _) (.refl _)
 have e:=ajY N p
 rw[hq]at e
 by_cases hi:By (pO p.2) p.1 0 = -1
 ·rw[decide_eq_true hi,cond_true]at e
  have c:=(conC (ak Zr (ak Ui AL)) (c:=2) (hp:=(FQ p).2) (Nat.le_refl 2) e)
  have hf:=filter_none ((HP p.1 0).1 hi)
  refine⟨?_,Nat.le_refl _⟩
  unfold fY
  rw[hf]
  exact c.1
 ·rw[decide_eq_false hi,cond_false]at e
  have hp:=h
  unfold GW at hp
  obtain⟨G,g1,g2,g3,g4⟩:=Sf (p:=pO p.2) (z:=default) (L:=fun m F i j=>fX N m p.1.length F p.2 i j) (A:=AO p.1.length p.2) (m:=N) hp (by omega) (fun m F i j=>ahx N m p.1.length F p.2 i j) hi
  have e2:=e.trans g1
  generalize hk:(p.1.filter fun x=>!pO p.2 x).length=k at *
  have hl:(Bc 4 Af default (p.1.filter fun x=>!pO p.2 x))=.seq true 4 k fun i=>Af ((p.1.filter fun x=>!pO p.2 x).getD i default):=by unfold Bc;rw[hk]
  unfold AO at e2
  rw[AB g2,cond_true]at e2
  refine⟨?_,Nat.le_refl _⟩
  unfold fY
  rw[hl,hk]
  cases hz:(p.1.length - k).beq 0 with
  | true=>
   rw[hz,cond_true]at e2
   have c:=(conC (ak Zr (ak Ui AL)) (c:=2) (hp:=(FQ p).2) (Nat.le_refl 2) e2).1
   exact c.resub (.refl _) (.cons (.seq true 4 p.1.length k _ _ g3 fun i hi=>by rw[g4 i hi];exact .refl _) (.refl _))
  | false=>
   rw[hz,cond_false,Bo (by omega),cond_true]at e2
   have c:=(conC (ak Zr (ak Ui AL)) (c:=2) (hp:=(FQ p).2) (Nat.le_refl 2) e2).1
   exact c.resub (.refl _) (.cons (.seq true 4 p.1.length k _ _ g3 fun i hi=>by rw[AB hi,cond_true,g4 i hi];exact .refl _) (.refl _))
def kDO:Known:=.specG Ao fV GW FQ fY
theorem ahz:kDO.Ok PG:=Known.specG_ok ahy
def eF(l:List Known):Env:=BU [] [(Au,5),(Ao,5),(ET,5)] [] l
def fF:AV:=.fn (.func ET) [] [.ptr 1 0 0]
def hF(y:List Txt × (Txt->Int)):Heap:=[.arr true 1 [[.mp 2]],.pmap true y.1 fun k=>.int .i64 (y.2 k)]
def pF(y:List Txt × (Txt->Int))(x:Itm):Bool:=bif BI x.key y.1 then decide (0<y.2 x.key)else false
def tF{R:Type}(y:List Txt × (Txt->Int))(x:Itm)(k:Bool->Option R):Option R:=bif BI x.key y.1 then k (decide (0<y.2 x.key))else k false
theorem aj0{R:Type}(y:List Txt × (Txt->Int))(x:Itm)(k:Bool->Option R):tF y x k=k (pF y x):=by
 unfold tF pF
 first | rfl | (cases BI x.key y.1 <;> rfl)
def xCF:List AV->Heap->Itm × List Txt × (Txt->Int):=fun a h=>(Bd (Ay a 0),mJ (Ab h 1))
def SM(q:Itm × List Txt × (Txt->Int)):List AV × Heap:=([.agg (Af q.1),.ptr 0 0 0],[.arr true 1 [[.mp 1]],.pmap true q.2.1 fun k=>.int .i64 (q.2.2 k)])
theorem aj1(q:Itm × List Txt × (Txt->Int)):Bz 2 (eF []) 9 ET (SM q).1 (SM q).2=tF q.2 q.1 fun b=>some (.bool b,(SM q).2):=by kernel_rfl
def Zt:Known:=.specG ET xCF (fun _=>True) SM (fun q=>(.bool (pF q.2 q.1),(SM q).2))
theorem Uj:Zt.Ok PG:=Known.specG_ok fun q _=>conC (fun k hk=>by cases hk) (c:=2) (n:=9) (Nat.le_refl 2) ((aj1 q).trans (aj0 _ _ _))
theorem ahA(q:Itm × List Txt × (Txt->Int)):xCF (SM q).1 (SM q).2=q:=rfl
def gF{R:Type}(q:Itm × List Txt × (Txt->Int))(k:Itm × List Txt × (Txt->Int)->Option R):Option R:=BG xCF (fun _=>True) SM (SM q).1 (SM q).2 k
theorem gF_eq{R:Type}(q:Itm × List Txt × (Txt->Int))(k:Itm × List Txt × (Txt->Int)->Option R):gF q k=k q:=BT q (ahA q) trivial (.refl _) (.refl _)
def SIF(n:Nat)(F:Nat->Itm)(y:List Txt × (Txt->Int))(i:Int):St:={fr:=[(0,.sn 4 0 n),(1,fF),(7,.int .i64 n),(8,.int .i64 i)],hp:=.seq true 4 n (fun i=>Af (F i))::hF y}
def LIF(N m n:Nat)(F:Nat->Itm)(y:List Txt × (Txt->Int))(i:Int):Option (AV × Heap):=LP (eF [Zt]) N 3 Au (Ct 3 3) 0 [] m (SIF n F y i)
abbrev YF:=List Itm × List Txt × (Txt->Int)
def E8(p:YF):List AV × Heap:=([.sn 4 0 p.1.length,fF],Bc 4 Af default p.1::hF p.2)
theorem aj2(N:Nat)(p:YF):Bz 3 (eF [Zt]) (N+1) Au (E8 p).1 (E8 p).2=LIF N N p.1.length (fun i=>p.1.getD i default) p.2 0:=by kernel_rfl
theorem aj3(N m n:Nat)(F:Nat->Itm)(y:List Txt × (Txt->Int))(i:Int):LIF N (m+1) n F y i=bif decide (i<(n:Int))then rg i n (bif Nat.blt i.toNat n then gF (F i.toNat,y) (fun q=>bif pF q.2 q.1 then some (.int .i64 i,.seq true 4 n (fun i=>Af (F i))::hF y)else LIF N m n F y (IntKind.i64.wrap (i+1)))else none)else some (.int .i64 (-1),.seq true 4 n (fun i=>Af (F i))::hF y):=by kernel_rfl
def Zu(_:List AV)(h:Heap):YF:=(Iz Bd (Ab h 0),mJ (Ab h 2))
theorem sV(p:YF):Zu (E8 p).1 (E8 p).2=p:=Prod.ext (Hh (sz:=4) (fun _=>rfl) p.1) rfl
def QW(p:YF):Prop:=p.1.length<=100000
theorem ahB(p:YF)(h:QW p):Aa PG Au (E8 p).1 (E8 p).2 (.int .i64 (By (pF p.2) p.1 0)) (E8 p).2/\(E8 p).2.length<=(E8 p).2.length:=by
 obtain⟨N,hN⟩:∃ N,N=200000:=⟨_,rfl⟩
 refine conC (ak Uj AL) (c:=3) (n:=N+1) (Nat.le_refl 3) ((aj2 N p).trans ?_)
 have:=OF (p:=pF p.2) (l:=p.1) (z:=default) (L:=fun m i=>LIF N m p.1.length (fun i=>p.1.getD i default) p.2 i) (A:=fun i=>some (.int .i64 i,(E8 p).2)) h
  (fun m i=>by rw[aj3,gF_eq];rfl) p.1.length 0 N (by omega) (by unfold QW at h;omega)
 rw[List.drop_zero]at this
 exact this
def sW:Known:=.specG Au Zu QW E8 (fun p=>(.int .i64 (By (pF p.2) p.1 0),(E8 p).2))
theorem Zv:sW.Ok PG:=Known.specG_ok ahB
def SDF(n:Nat)(F:Nat->Itm)(y:List Txt × (Txt->Int))(i j:Int):St:={fr:=[(0,.sn 4 0 n),(1,fF),(5,.int .i64 i),(6,.int .i64 j)],hp:=.seq true 4 n (fun i=>Af (F i))::hF y}
def fZ(N m n:Nat)(F:Nat->Itm)(y:List Txt × (Txt->Int))(i j:Int):Option (AV × Heap):=LP (eF [sW,Zt]) N 3 Ao (Ct 3 3) 0 [] m (SDF n F y i j)
theorem aj4(N:Nat)(p:YF):Bz 3 (eF [sW,Zt]) (N+1) Ao (E8 p).1 (E8 p).2=BG Zu QW E8 (E8 p).1 (E8 p).2 fun q=>
 bif decide (By (pF q.2) q.1 0 = -1)then some (.sn 4 0 p.1.length,(E8 q).2)
 else LP (eF [sW,Zt]) N 3 Ao (Ct 3 3) 0 [] N {fr:=[(0,.sn 4 0 p.1.length),(1,fF),(5,.int .i64 (By (pF q.2) q.1 0)),(6,.int .i64 (IntKind.i64.wrap (By (pF q.2) q.1 0+1)))],hp:=(E8 q).2}:=by kernel_rfl
def AF(n:Nat)(y:List Txt × (Txt->Int))(F:Nat->Itm)(i:Nat):Option (AV × Heap):=
 bif Nat.blt 0 n then bif(n - i).beq 0 then some (.sn 4 0 i,.seq true 4 n (fun i=>Af (F i))::hF y)
 else bif(i+(n - i)).ble n then some (.sn 4 0 i,.seq true 4 n (fun k=>bif k.blt i then Af (F k)else bif k.blt (i+(n - i))then Af default else Af (F k))::hF y)else none
 else none
theorem aj5(N m n:Nat)(F:Nat->Itm)(y:List Txt × (Txt->Int))(i j:Int):fZ N (m+1) n F y i j =
 bif decide (j<(n:Int))then rg j n (bif Nat.blt j.toNat n then gF (F j.toNat,y) (fun q=>bif !pF q.2 q.1 then rg i n (bif Nat.blt i.toNat n&&true then LP (eF [sW,Zt]) N 3 Ao (Ct 3 3) 0 [] m
  {fr:=[(0,.sn 4 0 n),(1,fF),(5,.int .i64 (IntKind.i64.wrap (i+1))),(6,.int .i64 (IntKind.i64.wrap (j+1)))],hp:=.seq true 4 n (fun k=>bif k.beq i.toNat then Af (F j.toNat)else Af (F k))::hF y}else none)
  else fZ N m n F y i (IntKind.i64.wrap (j+1)))else none)
 else bif decide (0<=i)&&decide (i<=(n:Int))then bif Nat.blt 0 n then bif(n - i.toNat).beq 0 then bif decide (0<=i)&&decide (i<=(n:Int))then some (.sn 4 0 i.toNat,.seq true 4 n (fun i=>Af (F i))::hF y)else none
  else bif(i.toNat+(n - i.toNat)).ble n then bif decide (0<=i)&&decide (i<=(n:Int))then some (.sn 4 0 i.toNat,.seq true 4 n (fun k=>bif k.blt i.toNat then Af (F k)else bif k.blt (i.toNat+(n - i.toNat))then Af default else Af (F k))::hF y)else none else none
  else none else none:=by kernel_rfl
theorem ahC(N m n:Nat)(F:Nat->Itm)(y:List Txt × (Txt->Int))(i j:Int):fZ N (m+1) n F y i j =
 bif decide (j<(n:Int))then rg j n (bif Nat.blt j.toNat n then bif !pF y (F j.toNat)then rg i n (bif Nat.blt i.toNat n&&true then fZ N m n (LN F i.toNat (F j.toNat)) y (IntKind.i64.wrap (i+1)) (IntKind.i64.wrap (j+1))else none)else fZ N m n F y i (IntKind.i64.wrap (j+1))else none)
 else bif decide (0<=i)&&decide (i<=(n:Int))then AF n y F i.toNat else none:=by
 rw[aj5,gF_eq,Px Af]
 unfold AF
 cases decide (0<=i)&&decide (i<=(n:Int)) <;> rfl
def gA(p:YF):AV × Heap:=(.sn 4 0 (p.1.filter fun x=>!pF p.2 x).length,Bc 4 Af default (p.1.filter fun x=>!pF p.2 x)::hF p.2)
theorem ahD(p:YF)(h:QW p):Aa PG Ao (E8 p).1 (E8 p).2 (gA p).1 (gA p).2/\(E8 p).2.length<=(gA p).2.length:=by
 obtain⟨N,hN⟩:∃ N,N=200000:=⟨_,rfl⟩
 have hq:∀ {K:YF->Option (AV × Heap)},BG Zu QW E8 (E8 p).1 (E8 p).2 K=K p:=fun {K}=>BT p (sV p) h (.refl _) (.refl _)
 have e:=aj4 N p
 rw[hq]at e
 by_cases hi:By (pF p.2) p.1 0 = -1
 ·rw[decide_eq_true hi,cond_true]at e
  have c:=(conC (ak Zv (ak Uj AL)) (c:=3) (hp:=(E8 p).2) (Nat.le_refl 3) e)
  have hf:=filter_none ((HP p.1 0).1 hi)
  refine⟨?_,Nat.le_refl _⟩
  unfold gA
  rw[hf]
  exact c.1
 ·rw[decide_eq_false hi,cond_false]at e
  have hp:=h
  unfold QW at hp
  obtain⟨G,g1,g2,g3,g4⟩:=Sf (p:=pF p.2) (z:=default) (L:=fun m F i j=>fZ N m p.1.length F p.2 i j) (A:=AF p.1.length p.2) (m:=N) hp (by omega) (fun m F i j=>ahC N m p.1.length F p.2 i j) hi
  have e2:=e.trans g1
  generalize hk:(p.1.filter fun x=>!pF p.2 x).length=k at *
  have hl:(Bc 4 Af default (p.1.filter fun x=>!pF p.2 x))=.seq true 4 k fun i=>Af ((p.1.filter fun x=>!pF p.2 x).getD i default):=by unfold Bc;rw[hk]
  unfold AF at e2
  rw[AB g2,cond_true]at e2
  refine⟨?_,Nat.le_refl _⟩
  unfold gA
  rw[hl,hk]
  cases hz:(p.1.length - k).beq 0 with
  | true=>
   rw[hz,cond_true]at e2
   have c:=(conC (ak Zv (ak Uj AL)) (c:=3) (hp:=(E8 p).2) (Nat.le_refl 3) e2).1
   exact c.resub (.refl _) (.cons (.seq true 4 p.1.length k _ _ g3 fun i hi=>by rw[g4 i hi];exact .refl _) (.refl _))
  | false=>
   rw[hz,cond_false,Bo (by omega),cond_true]at e2
   have c:=(conC (ak Zv (ak Uj AL)) (c:=3) (hp:=(E8 p).2) (Nat.le_refl 3) e2).1
   exact c.resub (.refl _) (.cons (.seq true 4 p.1.length k _ _ g3 fun i hi=>by rw[AB hi,cond_true,g4 i hi];exact .refl _) (.refl _))
def kDF:Known:=.specG Ao Zu QW E8 gA
theorem ahE:kDF.Ok PG:=Known.specG_ok ahD
def eT(l:List Known):Env:=BU [] [(Au,5),(Ao,5),(Ge,5)] [] l
def fT:AV:=.fn (.func Ge) [] [.ptr 1 0 0]
def hT(y:List Txt × (Txt->Int)):Heap:=[.arr true 1 [[.mp 2]],.pmap true y.1 fun k=>.int .i64 (y.2 k)]
def pT(y:List Txt × (Txt->Int))(x:Itm):Bool:=bif BI x.key y.1 then decide (y.2 x.key=0)else true
def tT{R:Type}(y:List Txt × (Txt->Int))(x:Itm)(k:Bool->Option R):Option R:=bif BI x.key y.1 then k (decide (y.2 x.key=0))else k true
theorem aj6{R:Type}(y:List Txt × (Txt->Int))(x:Itm)(k:Bool->Option R):tT y x k=k (pT y x):=by
 unfold tT pT
 first | rfl | (cases BI x.key y.1 <;> rfl)
def xCT:List AV->Heap->Itm × List Txt × (Txt->Int):=fun a h=>(Bd (Ay a 0),mJ (Ab h 1))
def SN(q:Itm × List Txt × (Txt->Int)):List AV × Heap:=([.agg (Af q.1),.ptr 0 0 0],[.arr true 1 [[.mp 1]],.pmap true q.2.1 fun k=>.int .i64 (q.2.2 k)])
theorem aj7(q:Itm × List Txt × (Txt->Int)):Bz 2 (eT []) 9 Ge (SN q).1 (SN q).2=tT q.2 q.1 fun b=>some (.bool b,(SN q).2):=by kernel_rfl
def Zw:Known:=.specG Ge xCT (fun _=>True) SN (fun q=>(.bool (pT q.2 q.1),(SN q).2))
theorem Uk:Zw.Ok PG:=Known.specG_ok fun q _=>conC (fun k hk=>by cases hk) (c:=2) (n:=9) (Nat.le_refl 2) ((aj7 q).trans (aj6 _ _ _))
theorem ahF(q:Itm × List Txt × (Txt->Int)):xCT (SN q).1 (SN q).2=q:=rfl
def gT{R:Type}(q:Itm × List Txt × (Txt->Int))(k:Itm × List Txt × (Txt->Int)->Option R):Option R:=BG xCT (fun _=>True) SN (SN q).1 (SN q).2 k
theorem adb{R:Type}(q:Itm × List Txt × (Txt->Int))(k:Itm × List Txt × (Txt->Int)->Option R):gT q k=k q:=BT q (ahF q) trivial (.refl _) (.refl _)
def SIT(n:Nat)(F:Nat->Itm)(y:List Txt × (Txt->Int))(i:Int):St:={fr:=[(0,.sn 4 0 n),(1,fT),(7,.int .i64 n),(8,.int .i64 i)],hp:=.seq true 4 n (fun i=>Af (F i))::hT y}
def LIT(N m n:Nat)(F:Nat->Itm)(y:List Txt × (Txt->Int))(i:Int):Option (AV × Heap):=LP (eT [Zw]) N 3 Au (Ct 3 3) 0 [] m (SIT n F y i)
abbrev YT:=List Itm × List Txt × (Txt->Int)
def E9(p:YT):List AV × Heap:=([.sn 4 0 p.1.length,fT],Bc 4 Af default p.1::hT p.2)
theorem aj8(N:Nat)(p:YT):Bz 3 (eT [Zw]) (N+1) Au (E9 p).1 (E9 p).2=LIT N N p.1.length (fun i=>p.1.getD i default) p.2 0:=by kernel_rfl
theorem aj9(N m n:Nat)(F:Nat->Itm)(y:List Txt × (Txt->Int))(i:Int):LIT N (m+1) n F y i=bif decide (i<(n:Int))then rg i n (bif Nat.blt i.toNat n then gT (F i.toNat,y) (fun q=>bif pT q.2 q.1 then some (.int .i64 i,.seq true 4 n (fun i=>Af (F i))::hT y)else LIT N m n F y (IntKind.i64.wrap (i+1)))else none)else some (.int .i64 (-1),.seq true 4 n (fun i=>Af (F i))::hT y):=by kernel_rfl
def Zx(_:List AV)(h:Heap):YT:=(Iz Bd (Ab h 0),mJ (Ab h 2))
theorem sY(p:YT):Zx (E9 p).1 (E9 p).2=p:=Prod.ext (Hh (sz:=4) (fun _=>rfl) p.1) rfl
def SO(p:YT):Prop:=p.1.length<=100000
theorem ahG(p:YT)(h:SO p):Aa PG Au (E9 p).1 (E9 p).2 (.int .i64 (By (pT p.2) p.1 0)) (E9 p).2/\(E9 p).2.length<=(E9 p).2.length:=by
 obtain⟨N,hN⟩:∃ N,N=200000:=⟨_,rfl⟩
 refine conC (ak Uk AL) (c:=3) (n:=N+1) (Nat.le_refl 3) ((aj8 N p).trans ?_)
 have:=OF (p:=pT p.2) (l:=p.1) (z:=default) (L:=fun m i=>LIT N m p.1.length (fun i=>p.1.getD i default) p.2 i) (A:=fun i=>some (.int .i64 i,(E9 p).2)) h
  (fun m i=>by rw[aj9,adb];rfl) p.1.length 0 N (by omega) (by unfold SO at h;omega)
 rw[List.drop_zero]at this
 exact this
def sZ:Known:=.specG Au Zx SO E9 (fun p=>(.int .i64 (By (pT p.2) p.1 0),(E9 p).2))
theorem Zy:sZ.Ok PG:=Known.specG_ok ahG
def SDT(n:Nat)(F:Nat->Itm)(y:List Txt × (Txt->Int))(i j:Int):St:={fr:=[(0,.sn 4 0 n),(1,fT),(5,.int .i64 i),(6,.int .i64 j)],hp:=.seq true 4 n (fun i=>Af (F i))::hT y}
def gB(N m n:Nat)(F:Nat->Itm)(y:List Txt × (Txt->Int))(i j:Int):Option (AV × Heap):=LP (eT [sZ,Zw]) N 3 Ao (Ct 3 3) 0 [] m (SDT n F y i j)
theorem aka(N:Nat)(p:YT):Bz 3 (eT [sZ,Zw]) (N+1) Ao (E9 p).1 (E9 p).2=BG Zx SO E9 (E9 p).1 (E9 p).2 fun q=>
 bif decide (By (pT q.2) q.1 0 = -1)then some (.sn 4 0 p.1.length,(E9 q).2)
 else LP (eT [sZ,Zw]) N 3 Ao (Ct 3 3) 0 [] N {fr:=[(0,.sn 4 0 p.1.length),(1,fT),(5,.int .i64 (By (pT q.2) q.1 0)),(6,.int .i64 (IntKind.i64.wrap (By (pT q.2) q.1 0+1)))],hp:=(E9 q).2}:=by kernel_rfl
def AT(n:Nat)(y:List Txt × (Txt->Int))(F:Nat->Itm)(i:Nat):Option (AV × Heap):=
 bif Nat.blt 0 n then bif(n - i).beq 0 then some (.sn 4 0 i,.seq true 4 n (fun i=>Af (F i))::hT y)
 else bif(i+(n - i)).ble n then some (.sn 4 0 i,.seq true 4 n (fun k=>bif k.blt i then Af (F k)else bif k.blt (i+(n - i))then Af default else Af (F k))::hT y)else none
 else none
theorem akb(N m n:Nat)(F:Nat->Itm)(y:List Txt × (Txt->Int))(i j:Int):gB N (m+1) n F y i j =
 bif decide (j<(n:Int))then rg j n (bif Nat.blt j.toNat n then gT (F j.toNat,y) (fun q=>bif !pT q.2 q.1 then rg i n (bif Nat.blt i.toNat n&&true then LP (eT [sZ,Zw]) N 3 Ao (Ct 3 3) 0 [] m
  {fr:=[(0,.sn 4 0 n),(1,fT),(5,.int .i64 (IntKind.i64.wrap (i+1))),(6,.int .i64 (IntKind.i64.wrap (j+1)))],hp:=.seq true 4 n (fun k=>bif k.beq i.toNat then Af (F j.toNat)else Af (F k))::hT y}else none)
  else gB N m n F y i (IntKind.i64.wrap (j+1)))else none)
 else bif decide (0<=i)&&decide (i<=(n:Int))then bif Nat.blt 0 n then bif(n - i.toNat).beq 0 then bif decide (0<=i)&&decide (i<=(n:Int))then some (.sn 4 0 i.toNat,.seq true 4 n (fun i=>Af (F i))::hT y)else none
  else bif(i.toNat+(n - i.toNat)).ble n then bif decide (0<=i)&&decide (i<=(n:Int))then some (.sn 4 0 i.toNat,.seq true 4 n (fun k=>bif k.blt i.toNat then Af (F k)else bif k.blt (i.toNat+(n - i.toNat))then Af default else Af (F k))::hT y)else none else none
  else none else none:=by kernel_rfl
theorem ahH(N m n:Nat)(F:Nat->Itm)(y:List Txt × (Txt->Int))(i j:Int):gB N (m+1) n F y i j =
 bif decide (j<(n:Int))then rg j n (bif Nat.blt j.toNat n then bif !pT y (F j.toNat)then rg i n (bif Nat.blt i.toNat n&&true then gB N m n (LN F i.toNat (F j.toNat)) y (IntKind.i64.wrap (i+1)) (IntKind.i64.wrap (j+1))else none)else gB N m n F y i (IntKind.i64.wrap (j+1))else none)
 else bif decide (0<=i)&&decide (i<=(n:Int))then AT n y F i.toNat else none:=by
 rw[akb,adb,Px Af]
 unfold AT
 cases decide (0<=i)&&decide (i<=(n:Int)) <;> rfl
def gE(p:YT):AV × Heap:=(.sn 4 0 (p.1.filter fun x=>!pT p.2 x).length,Bc 4 Af default (p.1.filter fun x=>!pT p.2 x)::hT p.2)
theorem ahI(p:YT)(h:SO p):Aa PG Ao (E9 p).1 (E9 p).2 (gE p).1 (gE p).2/\(E9 p).2.length<=(gE p).2.length:=by
 obtain⟨N,hN⟩:∃ N,N=200000:=⟨_,rfl⟩
 have hq:∀ {K:YT->Option (AV × Heap)},BG Zx SO E9 (E9 p).1 (E9 p).2 K=K p:=fun {K}=>BT p (sY p) h (.refl _) (.refl _)
 have e:=aka N p
 rw[hq]at e
 by_cases hi:By (pT p.2) p.1 0 = -1
 ·rw[decide_eq_true hi,cond_true]at e
  have c:=(conC (ak Zy (ak Uk AL)) (c:=3) (hp:=(E9 p).2) (Nat.le_refl 3) e)
  have hf:=filter_none ((HP p.1 0).1 hi)
  refine⟨?_,Nat.le_refl _⟩
  unfold gE
  rw[hf]
  exact c.1
 ·rw[decide_eq_false hi,cond_false]at e
  have hp:=h
  unfold SO at hp
  obtain⟨G,g1,g2,g3,g4⟩:=Sf (p:=pT p.2) (z:=default) (L:=fun m F i j=>gB N m p.1.length F p.2 i j) (A:=AT p.1.length p.2) (m:=N) hp (by omega) (fun m F i j=>ahH N m p.1.length F p.2 i j) hi
  have e2:=e.trans g1
  generalize hk:(p.1.filter fun x=>!pT p.2 x).length=k at *
  have hl:(Bc 4 Af default (p.1.filter fun x=>!pT p.2 x))=.seq true 4 k fun i=>Af ((p.1.filter fun x=>!pT p.2 x).getD i default):=by unfold Bc;rw[hk]
  unfold AT at e2
  rw[AB g2,cond_true]at e2
  refine⟨?_,Nat.le_refl _⟩
  unfold gE
  rw[hl,hk]
  cases hz:(p.1.length - k).beq 0 with
  | true=>
   rw[hz,cond_true]at e2
   have c:=(conC (ak Zy (ak Uk AL)) (c:=3) (hp:=(E9 p).2) (Nat.le_refl 3) e2).1
   exact c.resub (.refl _) (.cons (.seq true 4 p.1.length k _ _ g3 fun i hi=>by rw[g4 i hi];exact .refl _) (.refl _))
  | false=>
   rw[hz,cond_false,Bo (by omega),cond_true]at e2
   have c:=(conC (ak Zy (ak Uk AL)) (c:=3) (hp:=(E9 p).2) (Nat.le_refl 3) e2).1
   exact c.resub (.refl _) (.cons (.seq true 4 p.1.length k _ _ g3 fun i hi=>by rw[AB hi,cond_true,g4 i hi];exact .refl _) (.refl _))
def kDT:Known:=.specG Ao Zx SO E9 gE
theorem ahJ:kDT.Ok PG:=Known.specG_ok ahI
def eW(l:List Known):Env:=BU [] [(CV,5),(BO,5),(FM,0)] [] l
def fW:AV:=.fn (.func FM) [] [.ptr 1 0 0]
def hW(y:Msg):Heap:=[.arr true 31 [Ac y]]
def pW(y:Msg)(x:Wait):Bool:=decide (x.sess=y.sess)
def xCW:List AV->Wait × Msg:=fun a=>(IU (Ay a 0),BJ (al5 a))
def tA(q:Wait × Msg):List AV:=[.agg (Ba q.1),.tp (Ac q.2) 0]
theorem akc(q:Wait × Msg):Am (eW []) 9 FM (tA q)=some (.bool (pW q.2 q.1)):=by kernel_rfl
def Zz:Known:=.spec FM xCW (fun _=>True) tA (fun q=>.bool (pW q.2 q.1))
theorem Ul:Zz.Ok PG:=Known.spec_ok fun q _=>BN (fun k hk=>by cases hk) (akc q)
theorem ahK(q:Wait × Msg):xCW (tA q)=q:=Prod.ext rfl (Db q.2)
def gW{R:Type}(q:Wait × Msg)(k:Wait × Msg->Option R):Option R:=gC xCW (fun _=>True) tA (tA q) k
theorem ade{R:Type}(q:Wait × Msg)(k:Wait × Msg->Option R):gW q k=k q:=Aw q (ahK q) trivial (.refl _)
def SIW(n:Nat)(F:Nat->Wait)(y:Msg)(i:Int):St:={fr:=[(0,.sn 4 0 n),(1,fW),(7,.int .i64 n),(8,.int .i64 i)],hp:=.seq true 4 n (fun i=>Ba (F i))::hW y}
def LIW(N m n:Nat)(F:Nat->Wait)(y:Msg)(i:Int):Option (AV × Heap):=LP (eW [Zz]) N 2 CV (Ct 2 2) 0 [] m (SIW n F y i)
abbrev YW:=List Wait × Msg
def EW(p:YW):List AV × Heap:=([.sn 4 0 p.1.length,fW],Bc 4 Ba default p.1::hW p.2)
theorem akd(N:Nat)(p:YW):Bz 2 (eW [Zz]) (N+1) CV (EW p).1 (EW p).2=LIW N N p.1.length (fun i=>p.1.getD i default) p.2 0:=by kernel_rfl
theorem ake(N m n:Nat)(F:Nat->Wait)(y:Msg)(i:Int):LIW N (m+1) n F y i=bif decide (i<(n:Int))then rg i n (bif Nat.blt i.toNat n then gW (F i.toNat,y) (fun q=>bif pW q.2 q.1 then some (.int .i64 i,.seq true 4 n (fun i=>Ba (F i))::hW y)else LIW N m n F y (IntKind.i64.wrap (i+1)))else none)else some (.int .i64 (-1),.seq true 4 n (fun i=>Ba (F i))::hW y):=by kernel_rfl
def ZA(_:List AV)(h:Heap):YW:=(Iz IU (Ab h 0),BJ (OG (Ab h 1)))
theorem tB(p:YW):ZA (EW p).1 (EW p).2=p:=Prod.ext (Hh (sz:=4) (fun _=>rfl) p.1) (Db p.2)
def SP(p:YW):Prop:=p.1.length<=100000
theorem ahL(p:YW)(h:SP p):Aa PG CV (EW p).1 (EW p).2 (.int .i64 (By (pW p.2) p.1 0)) (EW p).2/\(EW p).2.length<=(EW p).2.length:=by
 obtain⟨N,hN⟩:∃ N,N=200000:=⟨_,rfl⟩
 refine conC (ak Ul AL) (c:=2) (n:=N+1) (Nat.le_refl 2) ((akd N p).trans ?_)
 have:=OF (p:=pW p.2) (l:=p.1) (z:=default) (L:=fun m i=>LIW N m p.1.length (fun i=>p.1.getD i default) p.2 i) (A:=fun i=>some (.int .i64 i,(EW p).2)) h
  (fun m i=>by rw[ake,ade];rfl) p.1.length 0 N (by omega) (by unfold SP at h;omega)
 rw[List.drop_zero]at this
 exact this
def tC:Known:=.specG CV ZA SP EW (fun p=>(.int .i64 (By (pW p.2) p.1 0),(EW p).2))
theorem ZB:tC.Ok PG:=Known.specG_ok ahL
def SDW(n:Nat)(F:Nat->Wait)(y:Msg)(i j:Int):St:={fr:=[(0,.sn 4 0 n),(1,fW),(5,.int .i64 i),(6,.int .i64 j)],hp:=.seq true 4 n (fun i=>Ba (F i))::hW y}
def gI(N m n:Nat)(F:Nat->Wait)(y:Msg)(i j:Int):Option (AV × Heap):=LP (eW [tC,Zz]) N 2 BO (Ct 2 2) 0 [] m (SDW n F y i j)
theorem akf(N:Nat)(p:YW):Bz 2 (eW [tC,Zz]) (N+1) BO (EW p).1 (EW p).2=BG ZA SP EW (EW p).1 (EW p).2 fun q=>
 bif decide (By (pW q.2) q.1 0 = -1)then some (.sn 4 0 p.1.length,(EW q).2)
 else LP (eW [tC,Zz]) N 2 BO (Ct 2 2) 0 [] N {fr:=[(0,.sn 4 0 p.1.length),(1,fW),(5,.int .i64 (By (pW q.2) q.1 0)),(6,.int .i64 (IntKind.i64.wrap (By (pW q.2) q.1 0+1)))],hp:=(EW q).2}:=by kernel_rfl
def AW(n:Nat)(y:Msg)(F:Nat->Wait)(i:Nat):Option (AV × Heap):=
 bif Nat.blt 0 n then bif(n - i).beq 0 then some (.sn 4 0 i,.seq true 4 n (fun i=>Ba (F i))::hW y)
 else bif(i+(n - i)).ble n then some (.sn 4 0 i,.seq true 4 n (fun k=>bif k.blt i then Ba (F k)else bif k.blt (i+(n - i))then Ba default else Ba (F k))::hW y)else none
 else none
theorem akg(N m n:Nat)(F:Nat->Wait)(y:Msg)(i j:Int):gI N (m+1) n F y i j =
 bif decide (j<(n:Int))then rg j n (bif Nat.blt j.toNat n then gW (F j.toNat,y) (fun q=>bif !pW q.2 q.1 then rg i n (bif Nat.blt i.toNat n&&true then LP (eW [tC,Zz]) N 2 BO (Ct 2 2) 0 [] m
  {fr:=[(0,.sn 4 0 n),(1,fW),(5,.int .i64 (IntKind.i64.wrap (i+1))),(6,.int .i64 (IntKind.i64.wrap (j+1)))],hp:=.seq true 4 n (fun k=>bif k.beq i.toNat then Ba (F j.toNat)else Ba (F k))::hW y}else none)
  else gI N m n F y i (IntKind.i64.wrap (j+1)))else none)
 else bif decide (0<=i)&&decide (i<=(n:Int))then bif Nat.blt 0 n then bif(n - i.toNat).beq 0 then bif decide (0<=i)&&decide (i<=(n:Int))then some (.sn 4 0 i.toNat,.seq true 4 n (fun i=>Ba (F i))::hW y)else none
  else bif(i.toNat+(n - i.toNat)).ble n then bif decide (0<=i)&&decide (i<=(n:Int))then some (.sn 4 0 i.toNat,.seq true 4 n (fun k=>bif k.blt i.toNat then Ba (F k)else bif k.blt (i.toNat+(n - i.toNat))then Ba default else Ba (F k))::hW y)else none else none
  else none else none:=by kernel_rfl
theorem ahM(N m n:Nat)(F:Nat->Wait)(y:Msg)(i j:Int):gI N (m+1) n F y i j =
 bif decide (j<(n:Int))then rg j n (bif Nat.blt j.toNat n then bif !pW y (F j.toNat)then rg i n (bif Nat.blt i.toNat n&&true then gI N m n (LN F i.toNat (F j.toNat)) y (IntKind.i64.wrap (i+1)) (IntKind.i64.wrap (j+1))else none)else gI N m n F y i (IntKind.i64.wrap (j+1))else none)
 else bif decide (0<=i)&&decide (i<=(n:Int))then AW n y F i.toNat else none:=by
 rw[akg,ade,Px Ba]
 unfold AW
 cases decide (0<=i)&&decide (i<=(n:Int)) <;> rfl
def gJ(p:YW):AV × Heap:=(.sn 4 0 (p.1.filter fun x=>!pW p.2 x).length,Bc 4 Ba default (p.1.filter fun x=>!pW p.2 x)::hW p.2)
theorem ahN(p:YW)(h:SP p):Aa PG BO (EW p).1 (EW p).2 (gJ p).1 (gJ p).2/\(EW p).2.length<=(gJ p).2.length:=by
 obtain⟨N,hN⟩:∃ N,N=200000:=⟨_,rfl⟩
 have hq:∀ {K:YW->Option (AV × Heap)},BG ZA SP EW (EW p).1 (EW p).2 K=K p:=fun {K}=>BT p (tB p) h (.refl _) (.refl _)
 have e:=akf N p
 rw[hq]at e
 by_cases hi:By (pW p.2) p.1 0 = -1
 ·rw[decide_eq_true hi,cond_true]at e
  have c:=(conC (ak ZB (ak Ul AL)) (c:=2) (hp:=(EW p).2) (Nat.le_refl 2) e)
  have hf:=filter_none ((HP p.1 0).1 hi)
  refine⟨?_,Nat.le_refl _⟩
  unfold gJ
  rw[hf]
  exact c.1
 ·rw[decide_eq_false hi,cond_false]at e
  have hp:=h
  unfold SP at hp
  obtain⟨G,g1,g2,g3,g4⟩:=Sf (p:=pW p.2) (z:=default) (L:=fun m F i j=>gI N m p.1.length F p.2 i j) (A:=AW p.1.length p.2) (m:=N) hp (by omega) (fun m F i j=>ahM N m p.1.length F p.2 i j) hi
  have e2:=e.trans g1
  generalize hk:(p.1.filter fun x=>!pW p.2 x).length=k at *
  have hl:(Bc 4 Ba default (p.1.filter fun x=>!pW p.2 x))=.seq true 4 k fun i=>Ba ((p.1.filter fun x=>!pW p.2 x).getD i default):=by unfold Bc;rw[hk]
  unfold AW at e2
  rw[AB g2,cond_true]at e2
  refine⟨?_,Nat.le_refl _⟩
  unfold gJ
  rw[hl,hk]
  cases hz:(p.1.length - k).beq 0 with
  | true=>
   rw[hz,cond_true]at e2
   have c:=(conC (ak ZB (ak Ul AL)) (c:=2) (hp:=(EW p).2) (Nat.le_refl 2) e2).1
   exact c.resub (.refl _) (.cons (.seq true 4 p.1.length k _ _ g3 fun i hi=>by rw[g4 i hi];exact .refl _) (.refl _))
  | false=>
   rw[hz,cond_false,Bo (by omega),cond_true]at e2
   have c:=(conC (ak ZB (ak Ul AL)) (c:=2) (hp:=(EW p).2) (Nat.le_refl 2) e2).1
   exact c.resub (.refl _) (.cons (.seq true 4 p.1.length k _ _ g3 fun i hi=>by rw[AB hi,cond_true,g4 i hi];exact .refl _) (.refl _))
def kDW:Known:=.specG BO ZA SP EW gJ
theorem ahO:kDW.Ok PG:=Known.specG_ok ahN
theorem Py{X:Type}(e:X->List AV)(z:X)(l k:List X):Be l.length (fun i=>e (l.getD i z)) (View.fn k.length fun i=>e (k.getD i z))=fun i=>e ((l++k).getD i z):=YB e z l k
theorem Pz{X:Type}(e:X->List AV)(z:X)(l:List X)(x:X):Be l.length (fun i=>e (l.getD i z)) (View.list [e x])=fun i=>e ((l++[x]).getD i z):=YC e z l [x]
theorem Vt{X:Type}(sz:Nat)(e:X->List AV)(z:X)(l:List X)(x:X):BS.seq true sz (l.length+1) (Be l.length (fun i=>e (l.getD i z)) (View.list [e x]))=Bc sz e z (l++[x]):=by
 unfold Bc;rw[Pz,List.length_append];rfl
theorem aeY{X:Type}(sz:Nat)(e:X->List AV)(z:X)(l k:List X):BS.seq true sz (l.length+k.length) (Be l.length (fun i=>e (l.getD i z)) (View.fn k.length fun i=>e (k.getD i z)))=Bc sz e z (l++k):=by
 unfold Bc;rw[Py,List.length_append]
def Um(l:List Known):Env:=BU [] [(Bq,1),(Ao,5),(Au,0),(Iv,1),(Kb,0),(Mj,0)] [] l
theorem ahP(l:List Itm)(key:Txt):Bz 0 (Um [Ny Bq 4,kDO]) 9 Iv [Al l,AV.str key] [] =
 gC (Et) (Ev) (Eu 4) ([AV.tr 4 l.length fun i=>Af (l.getD i default)]) fun y0=>
 BG (fV) (GW) (FQ) ([AV.sn 4 0 y0.fst,AV.fn (Fn.func 153) [] [AV.ptr 1 0 0]]) ([BS.seq true 4 y0.fst y0.snd,BS.arr true 1 [[AV.str key]]]) fun y1=>
 some ((AV.sn 4 0 (List.filter (fun x=>!pO y1.snd x) y1.fst).length,[BS.seq true 4 (List.filter (fun x=>!pO y1.snd x) y1.fst).length fun i=>Af ((List.filter (fun x=>!pO y1.snd x) y1.fst).getD i default)])):=by kernel_rfl
def Ce(l:List Itm)(key:Txt):List Itm:=l.filter fun x=>!Ah x.key key
def KU(p:YO):List AV:=[Al p.1,.str p.2]
def MS(a:List AV):YO:=(AN Bd (a.getD 0 .nils),Gy a 1)
theorem Sg(p:YO):MS (KU p)=p:=Prod.ext (E4 p.1) rfl
theorem ZC:(Ny Bq 4).Ok PG:=Iy Nx
theorem WT:(FN Bq 4).Ok PG:=Dp Nx
theorem gK(p:YO)(h:GW p):Aa PG Iv (KU p) [] (.sn 4 0 (Ce p.1 p.2).length) [Bc 4 Af default (Ce p.1 p.2)]:=by
 refine Zn (ak ZC (ak ahz AL)) ((ahP p.1 p.2).trans ?_)
 rw[WR h]
 exact BT (p.1,p.2) (sS (p.1,p.2)) h (.refl _) (.refl _)
def aaI:Known:=.specB Iv MS GW KU (fun p=>(.sn 4 0 (Ce p.1 p.2).length,[Bc 4 Af default (Ce p.1 p.2)]))
theorem gL:aaI.Ok PG:=Known.specB_ok gK
theorem ahQ{R:Type}{l:List Itm}{key:Txt}{k:YO->Option R}(h:l.length<=100000):gC MS GW KU [.tr 4 l.length fun i=>Af (l.getD i default),.str key] k=k (l,key):=Aw (l,key) (Sg (l,key)) h (.refl _)
def adf:Known:=.spec Iv MS GW KU (fun p=>Al (Ce p.1 p.2))
theorem snL{X:Type}(sz:Nat)(e:X->List AV)(z:X)(l:List X):Bp (.sn sz 0 l.length) [Bc sz e z l]=some (C8 sz e z l):=by
 show(bif Nat.ble l.length l.length then some (C8 sz e z l)else none)=_
 rw[Bo (Nat.le_refl _)];rfl
theorem aaJ:adf.Ok PG:=Known.spec_ok fun p h=>(gK p h).snapped (snL _ _ _ _)
theorem size_eq(x:Itm):Am (Um []) 9 Mj [AV.agg (Af x)] =
 some (AV.int IntKind.i64 (IntKind.i64.wrap (IntKind.i64.wrap ((↑x.key.length:Int)+(↑x.val.length:Int))+1))):=by kernel_rfl
def QX(x:Itm):Nat:=x.key.length+x.val.length+1
def E2(x:Itm):Prop:=x.key.length<=2000/\x.val.length<=2000
theorem w64{n:Nat}(h:n<=1000000000):IntKind.i64.wrap (n:Int)=n:=wrap64 (by omega)
theorem mK{a b:Nat}(h:a+b<=1000000000):IntKind.i64.wrap ((a:Int)+(b:Int))=((a+b:Nat):Int):=by rw[show(a:Int)+(b:Int)=((a+b:Nat):Int) by omega];exact w64 h
theorem aaK(x:Itm)(h:E2 x):Aa PG Mj [.agg (Af x)] [] (.int .i64 (QX x)) []:=by
 have:=h.1;have:=h.2
 refine BN (fun k hk=>by cases hk) ((size_eq x).trans ?_)
 rw[mK (by omega),show((x.key.length+x.val.length:Nat):Int)+1=((x.key.length+x.val.length+1:Nat):Int) by omega,w64 (by omega)];rfl
def mL:Known:=.spec Mj (fun a=>Bd (Ay a 0)) E2 (fun x=>[.agg (Af x)]) (fun x=>.int .i64 (QX x))
theorem gM:mL.Ok PG:=Known.spec_ok aaK
def ahR{R:Type}(x:Itm)(k:Itm->Option R):Option R:=gC (fun a=>Bd (Ay a 0)) E2 (fun x=>[.agg (Af x)]) [.agg (Af x)] k
theorem gN{R:Type}{x:Itm}{k:Itm->Option R}(h:E2 x):ahR x k=k x:=Aw x rfl h (.refl _)
def SSz(l:List Itm)(s i:Int):St:={fr:=[(3,.int .i64 s),(6,Al l),(7,.int .i64 l.length),(8,.int .i64 i)],hp:=[]}
def LSz(N m:Nat)(l:List Itm)(s i:Int):Option AV:=LP (Um [mL]) N 0 Kb Bp 0 [] m (SSz l s i)
theorem aeZ(N:Nat)(l:List Itm):Am (Um [mL]) (N+1) Kb [Al l]=LSz N N l 0 0:=by kernel_rfl
theorem gQ(N m:Nat)(l:List Itm)(s i:Int):LSz N (m+1) l s i=bif decide (i<(l.length:Int))then rg i l.length (ahR (l.getD i.toNat default) fun y=>LSz N m l (IntKind.i64.wrap (s+QX y)) (IntKind.i64.wrap (i+1)))else some (.int .i64 s):=by kernel_rfl
def GF(l:List Itm):Nat:=(l.map QX).sum
theorem ae0(a b:List Itm):GF (a++b)=GF a+GF b:=by simp[GF]
theorem tD{l:List Itm}(h:∀ x ∈ l,E2 x):GF l<=4001*l.length:=by
 induction l with
 | nil=>simp[GF]
 | cons x r ih=>
  have:=ih fun y hy=>h y (by simp[hy])
  have h1:=h x (by simp)
  have h2:QX x<=4001:=by unfold QX;have:=h1.1;have:=h1.2;omega
  have:GF (x::r)=QX x+GF r:=by simp[GF]
  rw[this,List.length_cons];omega
def GX(l:List Itm):Prop:=l.length<=100000 /\ ∀ x ∈ l,E2 x
theorem gR{l:List Itm}(h:GX l){i:Nat}(hi:i<l.length):E2 (l.getD i default):=h.2 _ (getD_mem hi)
theorem aaL{l:List Itm}{i:Nat}(h:i<l.length):GF (l.take (i+1))=GF (l.take i)+QX (l.getD i default):=by
 rw[List.take_add_one,ae0,List.getElem?_eq_getElem h]
 simp[GF,List.getD,List.getElem?_eq_getElem h]
theorem aaM(l:List Itm)(h:GX l):Aa PG Kb [Al l] [] (.int .i64 (GF l)) []:=by
 obtain⟨N,hN⟩:∃ N,N=200000:=⟨_,rfl⟩
 have hl:=h.1
 refine BN (ak gM AL) ((aeZ N l).trans ?_)
 have:=Oz (n:=l.length) (fun i m=>LSz N m l (GF (l.take i):Nat) (i:Nat)=some (.int .i64 (GF l:Nat))) (fun m=>?_) (fun i m hi ih=>?_) 0 N (Nat.zero_le _) (by omega)
 ·simpa [GF] using this
 ·rw[gQ,decide_eq_false (by omega),cond_false,List.take_of_length_le (Nat.le_refl _)]
 ·have hb:=tD (l:=l.take (i+1)) fun x hx=>h.2 x (List.mem_of_mem_take hx)
  rw[List.length_take]at hb
  have e:=aaL hi
  rw[gQ,decide_eq_true (by omega),cond_true,Bi hi,Int.toNat_natCast,gN (gR h hi),mK (by omega),Bv (by omega),<- e]
  exact ih
def kSz:Known:=.spec Kb (fun a=>AN Bd (a.getD 0 .nils)) GX (fun l=>[Al l]) (fun l=>.int .i64 (GF l))
theorem ahS:kSz.Ok PG:=Known.spec_ok aaM
theorem qSz{R:Type}{l:List Itm}{k:List Itm->Option R}(h:GX l):gC (fun a=>AN Bd (a.getD 0 .nils)) GX (fun l=>[Al l]) [Al l] k=k l:=Aw l (E4 l) h (.refl _)
abbrev LX:=List Itm × Itm × Int
def QY(p:LX):List AV:=[Al p.1,.agg (Af p.2.1),.int .i64 p.2.2]
def gS:List Known:=[mL,aaI,kSz,FN Bq 4]
theorem ahT:∀ k ∈ gS,k.Ok PG:=ak gM (ak gL (ak ahS (ak WT AL)))
def SPu(l:List Itm)(room s g:Int):St:={fr:=[(2,.int .i64 room),(7,.sn 4 0 l.length),(8,.int .i64 s),(9,.int .i64 g)],hp:=[Bc 4 Af default l]}
theorem ahU(N:Nat)(p:LX):Am (Um gS) (N+1) Gd (QY p) =
 gC (MS) (GW) (KU) ([AV.tr 4 p.fst.length fun i=>Af (p.fst.getD i default),AV.str p.snd.fst.key]) fun y0=>
 bif(Ce y0.fst y0.snd).length.ble (Ce y0.fst y0.snd).length then
  bif(((Ce y0.fst y0.snd).length+1)*56).ble 140737488355328&&((Ce y0.fst y0.snd).length+1).ble 140737488355328 then
   bif((Ce y0.fst y0.snd).length+1).ble ((Ce y0.fst y0.snd).length+1)&&true then
    gC (fun a=>AN Bd (a.getD 0 AV.nils)) (GX) (fun l=>[Al l]) ([AV.tr 4 ((Ce y0.fst y0.snd).length+1) (Be (Ce y0.fst y0.snd).length (fun i=>Af ((Ce y0.fst y0.snd).getD i default)) (View.list [Af p.snd.fst]))]) fun y1=>
    LP (Um gS) (N) 0 (Gd) Bp 0 [] (N) ({fr:=[(2,AV.int IntKind.i64 p.snd.snd),(7,AV.sn 4 0 ((Ce y0.fst y0.snd).length+1)),(8,AV.int IntKind.i64 (↑(GF y1):Int)),(9,AV.int IntKind.i64 0)],hp:=[BS.seq true 4 ((Ce y0.fst y0.snd).length+1) (Be (Ce y0.fst y0.snd).length (fun i=>Af ((Ce y0.fst y0.snd).getD i default)) (View.list [Af p.snd.fst]))]})
   else none
  else none
 else none:=by kernel_rfl
theorem tE(N:Nat)(m:Nat)(l:List Itm)(room:Int)(s:Int)(g:Int):LP (Um gS) N 0 Gd Bp 0 [] (m+1) (SPu l room s g) =
 bif decide (g<(↑l.length:Int))then
  bif decide (room<s)then
   bif decide (0<=g)&&decide (g<(↑l.length:Int))then
    bif g.toNat.blt l.length then
     gC (fun a=>Bd (Ay a 0)) (E2) (fun x=>[AV.agg (Af x)]) ([AV.agg (Af (l.getD g.toNat default))]) fun y2=>
     LP (Um gS) (N) (0) (Gd) (Bp) 0 ([]) (m) (SPu l room (IntKind.i64.wrap (s - (↑(QX y2):Int))) (IntKind.i64.wrap (g+1)))
    else none
   else none
  else
   bif decide ((↑l.length:Int)<=(↑l.length:Int))then
    bif decide ((↑l.length:Int)<=(↑(↑l.length:Int).toNat:Int))then
     bif decide (0<=g)&&decide (g<=(↑(↑l.length:Int).toNat:Int))then
      bif Nat.blt 0 l.length then
       bif(((↑l.length:Int).toNat - g.toNat).beq 0||((↑l.length:Int).toNat - g.toNat+g.toNat).ble l.length)&&true then
        gC (Et) (Ev) (Eu 4) ([AV.tr 4 ((↑l.length:Int).toNat - g.toNat) fun i=>Af (l.getD (i+g.toNat) default)]) fun y3=>
        some (AV.tr 4 y3.fst y3.snd)
       else none
      else none
     else none
    else none
   else none
 else
  bif decide ((↑l.length:Int)<=(↑l.length:Int))then
   bif decide ((↑l.length:Int)<=(↑(↑l.length:Int).toNat:Int))then
    bif decide (0<=g)&&decide (g<=(↑(↑l.length:Int).toNat:Int))then
     bif Nat.blt 0 l.length then
      bif(((↑l.length:Int).toNat - g.toNat).beq 0||((↑l.length:Int).toNat - g.toNat+g.toNat).ble l.length)&&true then
       gC (Et) (Ev) (Eu 4) ([AV.tr 4 ((↑l.length:Int).toNat - g.toNat) fun i=>Af (l.getD (i+g.toNat) default)]) fun y4=>
       some (AV.tr 4 y4.fst y4.snd)
      else none
     else none
    else none
   else none
  else none:=by kernel_rfl
def N4(room:Int):List Itm->List Itm
 | []=>[]
 | x::r=>bif decide (room<(GF (x::r):Int))then N4 room r else x::r
def putP(p:LX):List Itm:=N4 p.2.2 (Ce p.1 p.2.1.key++[p.2.1])
def LO(p:LX):Prop:=GX p.1/\E2 p.2.1/\p.1.length<=10000
theorem KV(l:List Itm)(k:Txt):(Ce l k).length<=l.length:=List.length_filter_le _ _
theorem ae1{l:List Itm}{k:Txt}(h:GX l):GX (Ce l k):=⟨Nat.le_trans (KV l k) h.1,fun x hx=>h.2 x ((List.mem_filter.1 hx).1)⟩
theorem ZD(room:Int):∀ l,(N4 room l).length<=l.length
 | []=>Nat.le_refl _
 | x::r=>by
  unfold N4
  cases decide (room<(GF (x::r):Int))with
  | true=>have:=ZD room r;simp;omega
  | false=>exact Nat.le_refl _
theorem gU{l:List Itm}{g:Nat}(hg:g<=l.length)(h0:0<l.length)(hl:l.length<=100000){K:Nat × (Nat->List AV)->Option AV} :
  (bif decide ((l.length:Int)<=(l.length:Int))then bif decide ((l.length:Int)<=(((l.length:Int).toNat:Nat):Int))then bif decide ((0:Int)<=(g:Int))&&decide ((g:Int)<=(((l.length:Int).toNat:Nat):Int))then bif Nat.blt 0 l.length then
   bif(((l.length:Int).toNat - (g:Int).toNat).beq 0||((l.length:Int).toNat - (g:Int).toNat+(g:Int).toNat).ble l.length)&&true then gC Et Ev (Eu 4) [.tr 4 ((l.length:Int).toNat - (g:Int).toNat) fun i=>Af (l.getD (i+(g:Int).toNat) default)] K else none else none else none else none else none)
   = K (l.length - g,fun i=>Af (l.getD (i+g) default)):=by
 simp only[Int.toNat_natCast]
 rw[decide_eq_true (Int.le_refl _),decide_eq_true (by omega),decide_eq_true (by omega),cond_true,cond_true,Bool.and_true,cond_true,AB h0,cond_true,Bo (by omega),Bool.or_true,Bool.and_true,cond_true]
 exact WR (by omega)
theorem put_con(p:LX)(h:LO p):Aa PG Gd (QY p) [] (Al (putP p)) []:=by
 obtain⟨h1,h2,h3⟩:=h
 obtain⟨N,hN⟩:∃ N,N=200000:=⟨_,rfl⟩
 have ho:=ae1 (k:=p.2.1.key) h1
 have hol:=KV p.1 p.2.1.key
 obtain⟨l,hl⟩:∃ l,l=Ce p.1 p.2.1.key++[p.2.1]:=⟨_,rfl⟩
 have hlen:l.length=(Ce p.1 p.2.1.key).length+1:=by rw[hl,List.length_append];rfl
 have hlo:GX l:=⟨by omega,fun x hx=>by
  rw[hl]at hx
  rcases List.mem_append.1 hx with h | h
  ·exact ho.2 x h
  ·simp at h;exact h ▸ h2⟩
 have run:∀ d g m,g+d=l.length->d<m -> ∃ k,k<=l.length/\N4 p.2.2 (l.drop g)=l.drop k/\LP (Um gS) N 0 Gd Bp 0 [] m (SPu l p.2.2 (GF (l.drop g):Nat) (g:Nat))=some (.tr 4 (l.length - k) fun i=>Af (l.getD (i+k) default)):=by
  intro d
  induction d with
  | zero=>
   intro g m hg hm
   obtain⟨m,rfl⟩:∃ k,m=k+1:=⟨m - 1,by omega⟩
   refine⟨g,by omega,by rw[List.drop_eq_nil_of_le (by omega)];rfl,?_⟩
   rw[tE,decide_eq_false (by omega),cond_false]
   exact gU (by omega) (by omega) (by omega)
  | succ d ih=>
   intro g m hg hm
   obtain⟨m,rfl⟩:∃ k,m=k+1:=⟨m - 1,by omega⟩
   have hgl:g<l.length:=by omega
   have hd:=drop_cons (z:=(default:Itm)) hgl
   have hs:GF (l.drop g)=QX (l.getD g default)+GF (l.drop (g+1)):=by rw[hd];simp[GF]
   have hb:=tD (l:=l.drop g) fun x hx=>hlo.2 x (List.mem_of_mem_drop hx)
   rw[List.length_drop]at hb
   rw[tE,decide_eq_true (by omega),cond_true]
   cases hc:decide (p.2.2<((GF (l.drop g):Nat):Int))with
   | true=>
    rw[cond_true,decide_eq_true (by omega),Bool.and_true,cond_true,Int.toNat_natCast,AB hgl,cond_true]
    obtain⟨k,k1,k2,k3⟩:=ih (g+1) m (by omega) (by omega)
    refine⟨k,k1,?_,?_⟩
    ·rw[hd,N4,<- hd,hc,cond_true];exact k2
    ·refine(gN (gR hlo hgl)).trans ?_
     rw[show((GF (l.drop g):Nat):Int) - (QX (l.getD g default):Nat)=((GF (l.drop (g+1)):Nat):Int) by omega,w64 (by omega),Bv (by omega)]
     exact k3
   | false=>
    refine⟨g,by omega,by rw[hd,N4,<- hd,hc,cond_false],?_⟩
    rw[cond_false]
    exact gU (by omega) (by omega) (by omega)
 obtain⟨k,k1,k2,k3⟩:=run l.length 0 N (by omega) (by omega)
 rw[List.drop_zero]at k2 k3
 have e:=ahU N p
 rw[ahQ h1.1]at e
 simp only at e
 rw[Bo (Nat.le_refl _),cond_true,Bo (by omega),Bo (by omega),Bool.and_true,cond_true,Bo (Nat.le_refl _),Bool.and_true,cond_true]at e
 have hq:(.tr 4 ((Ce p.1 p.2.1.key).length+1) (Be (Ce p.1 p.2.1.key).length (fun i=>Af ((Ce p.1 p.2.1.key).getD i default)) (View.list [Af p.2.1])):AV)=Al l:=by
  rw[Pz,hl]
  unfold Al C8
  rw[List.length_append];rfl
 rw[hq,qSz hlo]at e
 have hb2:BS.seq true 4 ((Ce p.1 p.2.1.key).length+1) (Be (Ce p.1 p.2.1.key).length (fun i=>Af ((Ce p.1 p.2.1.key).getD i default)) (View.list [Af p.2.1]))=Bc 4 Af default l:=by rw[hl];exact Vt _ _ _ _ _
 rw[hb2]at e
 rw[show(Ce p.1 p.2.1.key).length+1=l.length from hlen.symm]at e
 have c:=BN ahT (e.trans k3)
 refine c.res ?_
 show AR _ (Al (N4 p.2.2 (Ce p.1 p.2.1.key++[p.2.1])))
 rw[<- hl,k2]
 unfold Al C8
 rw[List.length_drop]
 refine .trs fun i hi=>?_
 have:(l.drop k).getD i default=l.getD (i+k) default:=by
  simp only[List.getD,List.getElem?_drop];rw[Nat.add_comm]
 rw[this];exact .refl _
def aaN:Known:=.spec Gd (fun a=>(AN Bd (a.getD 0 .nils),Bd (Ay a 1),Aq a 2)) LO QY (fun p=>Al (putP p))
theorem gV:aaN.Ok PG:=Known.spec_ok put_con
def fG(key:Txt):AV:=.fn (.func GV) [] [.tp [.str key] 0]
def eG(l:List Known):Env:=BU [] [(Bq,0),(Au,0),(GV,0),(Iv,1)] [] l
def xG(a:List AV):Itm × Txt:=(Bd (Ay a 0),ahu a)
def yG(q:Itm × Txt):List AV:=[.agg (Af q.1),.tp [.str q.2] 0]
theorem akh(q:Itm × Txt):Am (eG []) 9 GV (yG q)=some (.bool (Ah q.1.key q.2)):=by kernel_rfl
def kCG:Known:=.spec GV xG (fun _=>True) yG (fun q=>.bool (Ah q.1.key q.2))
theorem ahV:kCG.Ok PG:=Known.spec_ok fun q _=>BN (fun k hk=>by cases hk) (akh q)
def gG{R:Type}(q:Itm × Txt)(k:Itm × Txt->Option R):Option R:=gC xG (fun _=>True) yG (yG q) k
theorem aki{R:Type}(q:Itm × Txt)(k:Itm × Txt->Option R):gG q k=k q:=Aw q rfl trivial (.refl _)
def SIG(l:List Itm)(key:Txt)(i:Int):St:={fr:=[(0,Al l),(1,fG key),(7,.int .i64 l.length),(8,.int .i64 i)],hp:=[]}
def LIG(N m:Nat)(l:List Itm)(key:Txt)(i:Int):Option AV:=LP (eG [kCG]) N 0 Au Bp 0 [] m (SIG l key i)
theorem akj(N:Nat)(p:YO):Am (eG [kCG]) (N+1) Au [Al p.1,fG p.2]=LIG N N p.1 p.2 0:=by kernel_rfl
theorem akk(N m:Nat)(l:List Itm)(key:Txt)(i:Int):LIG N (m+1) l key i=bif decide (i<(l.length:Int))then rg i l.length (gG (l.getD i.toNat default,key) fun q=>bif Ah q.1.key q.2 then some (.int .i64 i)else LIG N m l key (IntKind.i64.wrap (i+1)))else some (.int .i64 (-1)):=by kernel_rfl
def eIG(p:YO):List AV:=[Al p.1,fG p.2]
def dIG(a:List AV):YO:=(AN Bd (a.getD 0 .nils),match a.getD 1 .nils with
 | .fn _ _ [.tp [.str s] _]=>s
 | _=>[])
theorem ahW(p:YO)(h:GW p):Aa PG Au (eIG p) [] (.int .i64 (By (fun x=>Ah x.key p.2) p.1 0)) []:=by
 obtain⟨N,hN⟩:∃ N,N=200000:=⟨_,rfl⟩
 refine BN (ak ahV AL) ((akj N p).trans ?_)
 have:=OF (p:=fun x=>Ah x.key p.2) (l:=p.1) (z:=default) (L:=fun m i=>LIG N m p.1 p.2 i) (A:=fun i=>some (AV.int .i64 i)) h
  (fun m i=>by
   rw[akk]
   cases hd:decide (i<(p.1.length:Int))with
   | false=>rfl
   | true=>
    rw[cond_true,cond_true]
    unfold rg
    cases hg:decide (0<=i)with
    | false=>rfl
    | true=>
     have h1:=of_decide_eq_true hd
     have h2:=of_decide_eq_true hg
     rw[AB (by omega),aki];rfl) p.1.length 0 N (by omega) (by unfold GW at h;omega)
 rw[List.drop_zero]at this
 exact this
def kIG:Known:=.spec Au dIG GW eIG (fun p=>.int .i64 (By (fun x=>Ah x.key p.2) p.1 0))
theorem ahX:kIG.Ok PG:=Known.spec_ok ahW
theorem qIG{R:Type}{l:List Itm}{key:Txt}{k:YO->Option R}(h:l.length<=100000):gC dIG GW eIG [.tr 4 l.length fun i=>Af (l.getD i default),.fn (.func GV) [] [.tp [.str key] 0]] k=k (l,key):=Aw (l,key) (Prod.ext (E4 l) rfl) h (.refl _)
def kn8:List Known:=[kIG,FN Bq 4,aaI]
theorem tG:∀ k ∈ kn8,k.Ok PG:=ak ahX (ak WT (ak gL AL))
theorem ahY(l:List Itm)(key:Txt):Am (eG kn8) 9 Nn [Al l,AV.str key] =
 gC (dIG) (GW) (eIG) ([AV.tr 4 l.length fun i=>Af (l.getD i default),AV.fn (Fn.func GV) [] [AV.tp [AV.str key] 0]]) fun y0=>
 bif decide (By (fun x=>Ah x.key y0.snd) y0.fst 0<0)then
  gC (Et) (Ev) (Eu 4) ([AV.tr 4 l.length fun i=>Af (l.getD i default)]) fun y1=>
  some (AV.tup [AV.agg [AV.str [],AV.str [],AV.bool false,AV.cplx FloatKind.f64 0 0],AV.tr 4 y1.fst y1.snd,AV.bool false])
 else
  bif decide (0<=By (fun x=>Ah x.key y0.snd) y0.fst 0)&&decide (By (fun x=>Ah x.key y0.snd) y0.fst 0<(↑l.length:Int))then
   gC (MS) (GW) (KU) ([AV.tr 4 l.length fun i=>Af (l.getD i default),AV.str key]) fun y2=>
   bif decide (0<=By (fun x=>Ah x.key y0.snd) y0.fst 0)&&decide (By (fun x=>Ah x.key y0.snd) y0.fst 0<(↑l.length:Int))then
    bif(Ce y2.fst y2.snd).length.ble (Ce y2.fst y2.snd).length then
     bif(((Ce y2.fst y2.snd).length+1)*56).ble 140737488355328&&((Ce y2.fst y2.snd).length+1).ble 140737488355328 then
      bif((Ce y2.fst y2.snd).length+1).ble ((Ce y2.fst y2.snd).length+1)&&true then
       some (AV.tup [AV.agg (Af (l.getD (By (fun x=>Ah x.key y0.snd) y0.fst 0).toNat default)),AV.tr 4 ((Ce y2.fst y2.snd).length+1) (Be (Ce y2.fst y2.snd).length (fun i=>Af ((Ce y2.fst y2.snd).getD i default)) (View.list [Af (l.getD (By (fun x=>Ah x.key y0.snd) y0.fst 0).toNat default)])),AV.bool true])
      else none
     else none
    else none
   else none
  else none:=by kernel_rfl
def aaO(l:List Itm)(key:Txt):Option Itm:=l.find? fun x=>Ah x.key key
def EG(p:YO):Itm × List Itm × Bool:=match aaO p.1 p.2 with
 | some x=>(x,Ce p.1 p.2++[x],true)
 | none=>(default,p.1,false)
def Un(o:Itm × List Itm × Bool):AV:=.tup [.agg (Af o.1),Al o.2.1,.bool o.2.2]
theorem tH{X:Type}{p:X->Bool}{l:List X}(h:∀ x ∈ l,p x=false):l.find? p=none:=List.find?_eq_none.2 fun x hx=>by rw[h x hx];simp
theorem gY{X:Type}{p:X->Bool}{z:X}:∀ (l:List X) (k:Nat),k<l.length->p (l.getD k z)=true->(∀ x ∈ l.take k,p x=false)->l.find? p=some (l.getD k z)
 | [],k,h,_,_=>absurd h (Nat.not_lt_zero k)
 | x::r,0,_,h,_=>by
  have:p x=true:=by simpa using h
  simp[this]
 | x::r,k+1,h,h1,h2=>by
  have hx:p x=false:=h2 x (by simp)
  rw[List.find?_cons,hx]
  have:=gY (z:=z) r k (by simpa using h) (by simpa using h1) fun y hy=>h2 y (by simp[hy])
  simpa using this
theorem ae2(p:YO)(h:GW p):Aa PG Nn (KU p) [] (Un (EG p)) []:=by
 unfold GW at h
 have e:=ahY p.1 p.2
 rw[qIG h]at e
 simp only at e
 by_cases hi:By (fun x=>Ah x.key p.2) p.1 0 = -1
 ·have hn:=tH ((HP p.1 0).1 hi)
  rw[decide_eq_true (by omega),cond_true,WR h]at e
  have:Un (EG p)=.tup [.agg (Af default),Al p.1,.bool false]:=by
   unfold EG aaO;rw[hn];rfl
  rw[this]
  exact BN tG e
 ·obtain⟨k,h1,h2,h3,h4⟩:=N3 default p.1 0 hi
  rw[Nat.zero_add]at h1
  have hf:=gY (z:=default) p.1 k h2 h3 h4
  have ho:=KV p.1 p.2
  rw[h1]at e
  rw[decide_eq_false (by omega),cond_false,decide_eq_true (by omega),decide_eq_true (by omega),Bool.and_true,cond_true,ahQ h]at e
  simp only[Int.toNat_natCast]at e
  rw[Bo (Nat.le_refl _),cond_true,Bo (by omega),Bo (by omega),Bool.and_true,cond_true,Bo (Nat.le_refl _),Bool.and_true,cond_true]at e
  have:Un (EG p)=.tup [.agg (Af (p.1.getD k default)),Al (Ce p.1 p.2++[p.1.getD k default]),.bool true]:=by
   unfold EG aaO;rw[hf];rfl
  rw[this]
  have hq:Al (Ce p.1 p.2++[p.1.getD k default])=.tr 4 ((Ce p.1 p.2).length+1) (Be (Ce p.1 p.2).length (fun i=>Af ((Ce p.1 p.2).getD i default)) (View.list [Af (p.1.getD k default)])):=by
   rw[Pz];unfold Al C8;rw[List.length_append];rfl
  rw[hq]
  exact BN tG e
def aaP:Known:=.spec Nn MS GW KU (fun p=>Un (EG p))
theorem gZ:aaP.Ok PG:=Known.spec_ok ae2
def eS(l:List Known):Env:=BU [] [(Kd,0),(GS,0),(Jn,0)] [] l
theorem ahZ(x:Entry):Am (eS []) 9 Kd [AV.agg (Ai x)] =
 some (AV.int IntKind.i64 (IntKind.i64.wrap (IntKind.i64.wrap ((↑x.key.length:Int)+(↑x.val.length:Int))+1))):=by kernel_rfl
theorem ae3(b:Bool)(n:Int)(h:Int)(l:Int):Am (eS []) 9 Jn [AV.bool b,AV.int IntKind.i64 n,AV.int IntKind.i64 h,AV.int IntKind.i64 l] =
 bif decide (h<=n)then
  some (AV.bool true)
 else
  bif decide (n<=l)then
   some (AV.bool false)
  else
   some (AV.bool b):=by kernel_rfl
theorem aaQ(k:Int):Am (eS []) 9 It [AV.int IntKind.i64 k] =
 bif decide (k=1)then
  some (AV.bool true)
 else
  some (AV.bool (decide (k=4))):=by kernel_rfl
theorem tI(k:Int):Am (eS []) 9 Hw [AV.int IntKind.i64 k] =
 bif decide (k=2)then
  some (AV.bool true)
 else
  bif decide (k=3)then
   some (AV.bool true)
  else
   some (AV.bool (decide (k=4))):=by kernel_rfl
theorem aaR(o:Md.Op)(c:Conf):Am (eS []) 9 Ir [AV.agg (Gc o),AV.agg (Cp c)] =
 bif decide (o.kind<1)then
  some (AV.int IntKind.i64 8)
 else
  bif decide (5<o.kind)then
   some (AV.int IntKind.i64 8)
  else
   bif !decide (o.kind=5)then
    bif Ah o.key []then
     some (AV.int IntKind.i64 8)
    else
     bif decide (c.maxKey<(↑o.key.length:Int))then
      some (AV.int IntKind.i64 4)
     else
      bif decide (c.maxVal<(↑o.val.length:Int))then
       some (AV.int IntKind.i64 4)
      else
       bif decide (c.maxVal<(↑o.old.length:Int))then
        some (AV.int IntKind.i64 4)
       else
        some (AV.int IntKind.i64 0)
   else
    bif decide (c.maxKey<(↑o.key.length:Int))then
     some (AV.int IntKind.i64 4)
    else
     bif decide (c.maxVal<(↑o.val.length:Int))then
      some (AV.int IntKind.i64 4)
     else
      bif decide (c.maxVal<(↑o.old.length:Int))then
       some (AV.int IntKind.i64 4)
      else
       some (AV.int IntKind.i64 0):=by kernel_rfl
theorem ah0(o:Md.Op)(v:Ver)(s:Int)(n:Int)(x:Itm)(room:Bool):Am (eS []) 9 IP [AV.agg (Gc o),AV.cplx FloatKind.f64 v.re v.im,AV.int IntKind.i64 s,AV.int IntKind.i64 n,AV.agg (Af x),AV.bool room] =
 bif decide (o.kind=2)then
  bif !room then
   some (AV.agg [AV.cplx FloatKind.f64 v.re v.im,AV.int IntKind.i64 o.kind,AV.str o.key,AV.str [],AV.bool false,AV.bool false,AV.int IntKind.i64 s,AV.int IntKind.i64 n,AV.int IntKind.i64 3,AV.str [],AV.bool false])
  else
   bif decide (o.kind=1)then
    bif !x.has then
     some (AV.agg [AV.cplx FloatKind.f64 v.re v.im,AV.int IntKind.i64 o.kind,AV.str o.key,AV.str [],AV.bool false,AV.bool false,AV.int IntKind.i64 s,AV.int IntKind.i64 n,AV.int IntKind.i64 1,AV.str [],AV.bool false])
    else
     some (AV.agg [AV.cplx FloatKind.f64 v.re v.im,AV.int IntKind.i64 o.kind,AV.str o.key,AV.str [],AV.bool false,AV.bool false,AV.int IntKind.i64 s,AV.int IntKind.i64 n,AV.int IntKind.i64 0,AV.str x.val,AV.bool true])
   else
    bif decide (o.kind=2)then
     some (AV.agg [AV.cplx FloatKind.f64 v.re v.im,AV.int IntKind.i64 o.kind,AV.str o.key,AV.str o.val,AV.bool true,AV.bool false,AV.int IntKind.i64 s,AV.int IntKind.i64 n,AV.int IntKind.i64 0,AV.str [],AV.bool false])
    else
     bif decide (o.kind=3)then
      some (AV.agg [AV.cplx FloatKind.f64 v.re v.im,AV.int IntKind.i64 o.kind,AV.str o.key,AV.str [],AV.bool true,AV.bool true,AV.int IntKind.i64 s,AV.int IntKind.i64 n,AV.int IntKind.i64 0,AV.str [],AV.bool false])
     else
      bif decide (o.kind=4)then
       bif bif x.has then o.hasOld else !o.hasOld then
        bif !x.has then
         some (AV.agg [AV.cplx FloatKind.f64 v.re v.im,AV.int IntKind.i64 o.kind,AV.str o.key,AV.str o.val,AV.bool true,AV.bool false,AV.int IntKind.i64 s,AV.int IntKind.i64 n,AV.int IntKind.i64 0,AV.str [],AV.bool false])
        else
         bif Ah x.val o.old then
          some (AV.agg [AV.cplx FloatKind.f64 v.re v.im,AV.int IntKind.i64 o.kind,AV.str o.key,AV.str o.val,AV.bool true,AV.bool false,AV.int IntKind.i64 s,AV.int IntKind.i64 n,AV.int IntKind.i64 0,AV.str [],AV.bool false])
         else
          bif x.has then
           some (AV.agg [AV.cplx FloatKind.f64 v.re v.im,AV.int IntKind.i64 o.kind,AV.str o.key,AV.str [],AV.bool false,AV.bool false,AV.int IntKind.i64 s,AV.int IntKind.i64 n,AV.int IntKind.i64 2,AV.str x.val,AV.bool x.has])
          else
           some (AV.agg [AV.cplx FloatKind.f64 v.re v.im,AV.int IntKind.i64 o.kind,AV.str o.key,AV.str [],AV.bool false,AV.bool false,AV.int IntKind.i64 s,AV.int IntKind.i64 n,AV.int IntKind.i64 2,AV.str [],AV.bool x.has])
       else
        bif x.has then
         some (AV.agg [AV.cplx FloatKind.f64 v.re v.im,AV.int IntKind.i64 o.kind,AV.str o.key,AV.str [],AV.bool false,AV.bool false,AV.int IntKind.i64 s,AV.int IntKind.i64 n,AV.int IntKind.i64 2,AV.str x.val,AV.bool x.has])
        else
         some (AV.agg [AV.cplx FloatKind.f64 v.re v.im,AV.int IntKind.i64 o.kind,AV.str o.key,AV.str [],AV.bool false,AV.bool false,AV.int IntKind.i64 s,AV.int IntKind.i64 n,AV.int IntKind.i64 2,AV.str [],AV.bool x.has])
      else
       some (AV.agg [AV.cplx FloatKind.f64 v.re v.im,AV.int IntKind.i64 o.kind,AV.str o.key,AV.str [],AV.bool false,AV.bool false,AV.int IntKind.i64 s,AV.int IntKind.i64 n,AV.int IntKind.i64 0,AV.str [],AV.bool false])
 else
  bif decide (o.kind=3)then
   bif !room then
    some (AV.agg [AV.cplx FloatKind.f64 v.re v.im,AV.int IntKind.i64 o.kind,AV.str o.key,AV.str [],AV.bool false,AV.bool false,AV.int IntKind.i64 s,AV.int IntKind.i64 n,AV.int IntKind.i64 3,AV.str [],AV.bool false])
   else
    bif decide (o.kind=1)then
     bif !x.has then
      some (AV.agg [AV.cplx FloatKind.f64 v.re v.im,AV.int IntKind.i64 o.kind,AV.str o.key,AV.str [],AV.bool false,AV.bool false,AV.int IntKind.i64 s,AV.int IntKind.i64 n,AV.int IntKind.i64 1,AV.str [],AV.bool false])
     else
      some (AV.agg [AV.cplx FloatKind.f64 v.re v.im,AV.int IntKind.i64 o.kind,AV.str o.key,AV.str [],AV.bool false,AV.bool false,AV.int IntKind.i64 s,AV.int IntKind.i64 n,AV.int IntKind.i64 0,AV.str x.val,AV.bool true])
    else
     bif decide (o.kind=2)then
      some (AV.agg [AV.cplx FloatKind.f64 v.re v.im,AV.int IntKind.i64 o.kind,AV.str o.key,AV.str o.val,AV.bool true,AV.bool false,AV.int IntKind.i64 s,AV.int IntKind.i64 n,AV.int IntKind.i64 0,AV.str [],AV.bool false])
     else
      bif decide (o.kind=3)then
       some (AV.agg [AV.cplx FloatKind.f64 v.re v.im,AV.int IntKind.i64 o.kind,AV.str o.key,AV.str [],AV.bool true,AV.bool true,AV.int IntKind.i64 s,AV.int IntKind.i64 n,AV.int IntKind.i64 0,AV.str [],AV.bool false])
      else
       bif decide (o.kind=4)then
        bif bif x.has then o.hasOld else !o.hasOld then
         bif !x.has then
          some (AV.agg [AV.cplx FloatKind.f64 v.re v.im,AV.int IntKind.i64 o.kind,AV.str o.key,AV.str o.val,AV.bool true,AV.bool false,AV.int IntKind.i64 s,AV.int IntKind.i64 n,AV.int IntKind.i64 0,AV.str [],AV.bool false])
         else
          bif Ah x.val o.old then
           some (AV.agg [AV.cplx FloatKind.f64 v.re v.im,AV.int IntKind.i64 o.kind,AV.str o.key,AV.str o.val,AV.bool true,AV.bool false,AV.int IntKind.i64 s,AV.int IntKind.i64 n,AV.int IntKind.i64 0,AV.str [],AV.bool false])
          else
           bif x.has then
            some (AV.agg [AV.cplx FloatKind.f64 v.re v.im,AV.int IntKind.i64 o.kind,AV.str o.key,AV.str [],AV.bool false,AV.bool false,AV.int IntKind.i64 s,AV.int IntKind.i64 n,AV.int IntKind.i64 2,AV.str x.val,AV.bool x.has])
           else
            some (AV.agg [AV.cplx FloatKind.f64 v.re v.im,AV.int IntKind.i64 o.kind,AV.str o.key,AV.str [],AV.bool false,AV.bool false,AV.int IntKind.i64 s,AV.int IntKind.i64 n,AV.int IntKind.i64 2,AV.str [],AV.bool x.has])
        else
         bif x.has then
          some (AV.agg [AV.cplx FloatKind.f64 v.re v.im,AV.int IntKind.i64 o.kind,AV.str o.key,AV.str [],AV.bool false,AV.bool false,AV.int IntKind.i64 s,AV.int IntKind.i64 n,AV.int IntKind.i64 2,AV.str x.val,AV.bool x.has])
         else
          some (AV.agg [AV.cplx FloatKind.f64 v.re v.im,AV.int IntKind.i64 o.kind,AV.str o.key,AV.str [],AV.bool false,AV.bool false,AV.int IntKind.i64 s,AV.int IntKind.i64 n,AV.int IntKind.i64 2,AV.str [],AV.bool x.has])
       else
        some (AV.agg [AV.cplx FloatKind.f64 v.re v.im,AV.int IntKind.i64 o.kind,AV.str o.key,AV.str [],AV.bool false,AV.bool false,AV.int IntKind.i64 s,AV.int IntKind.i64 n,AV.int IntKind.i64 0,AV.str [],AV.bool false])
  else
   bif decide (o.kind=4)then
    bif !room then
     some (AV.agg [AV.cplx FloatKind.f64 v.re v.im,AV.int IntKind.i64 o.kind,AV.str o.key,AV.str [],AV.bool false,AV.bool false,AV.int IntKind.i64 s,AV.int IntKind.i64 n,AV.int IntKind.i64 3,AV.str [],AV.bool false])
    else
     bif decide (o.kind=1)then
      bif !x.has then
       some (AV.agg [AV.cplx FloatKind.f64 v.re v.im,AV.int IntKind.i64 o.kind,AV.str o.key,AV.str [],AV.bool false,AV.bool false,AV.int IntKind.i64 s,AV.int IntKind.i64 n,AV.int IntKind.i64 1,AV.str [],AV.bool false])
      else
       some (AV.agg [AV.cplx FloatKind.f64 v.re v.im,AV.int IntKind.i64 o.kind,AV.str o.key,AV.str [],AV.bool false,AV.bool false,AV.int IntKind.i64 s,AV.int IntKind.i64 n,AV.int IntKind.i64 0,AV.str x.val,AV.bool true])
     else
      bif decide (o.kind=2)then
       some (AV.agg [AV.cplx FloatKind.f64 v.re v.im,AV.int IntKind.i64 o.kind,AV.str o.key,AV.str o.val,AV.bool true,AV.bool false,AV.int IntKind.i64 s,AV.int IntKind.i64 n,AV.int IntKind.i64 0,AV.str [],AV.bool false])
      else
       bif decide (o.kind=3)then
        some (AV.agg [AV.cplx FloatKind.f64 v.re v.im,AV.int IntKind.i64 o.kind,AV.str o.key,AV.str [],AV.bool true,AV.bool true,AV.int IntKind.i64 s,AV.int IntKind.i64 n,AV.int IntKind.i64 0,AV.str [],AV.bool false])
       else
        bif decide (o.kind=4)then
         bif bif x.has then o.hasOld else !o.hasOld then
          bif !x.has then
           some (AV.agg [AV.cplx FloatKind.f64 v.re v.im,AV.int IntKind.i64 o.kind,AV.str o.key,AV.str o.val,AV.bool true,AV.bool false,AV.int IntKind.i64 s,AV.int IntKind.i64 n,AV.int IntKind.i64 0,AV.str [],AV.bool false])
          else
           bif Ah x.val o.old then
            some (AV.agg [AV.cplx FloatKind.f64 v.re v.im,AV.int IntKind.i64 o.kind,AV.str o.key,AV.str o.val,AV.bool true,AV.bool false,AV.int IntKind.i64 s,AV.int IntKind.i64 n,AV.int IntKind.i64 0,AV.str [],AV.bool false])
           else
            bif x.has then
             some (AV.agg [AV.cplx FloatKind.f64 v.re v.im,AV.int IntKind.i64 o.kind,AV.str o.key,AV.str [],AV.bool false,AV.bool false,AV.int IntKind.i64 s,AV.int IntKind.i64 n,AV.int IntKind.i64 2,AV.str x.val,AV.bool x.has])
            else
             some (AV.agg [AV.cplx FloatKind.f64 v.re v.im,AV.int IntKind.i64 o.kind,AV.str o.key,AV.str [],AV.bool false,AV.bool false,AV.int IntKind.i64 s,AV.int IntKind.i64 n,AV.int IntKind.i64 2,AV.str [],AV.bool x.has])
         else
          bif x.has then
           some (AV.agg [AV.cplx FloatKind.f64 v.re v.im,AV.int IntKind.i64 o.kind,AV.str o.key,AV.str [],AV.bool false,AV.bool false,AV.int IntKind.i64 s,AV.int IntKind.i64 n,AV.int IntKind.i64 2,AV.str x.val,AV.bool x.has])
          else
           some (AV.agg [AV.cplx FloatKind.f64 v.re v.im,AV.int IntKind.i64 o.kind,AV.str o.key,AV.str [],AV.bool false,AV.bool false,AV.int IntKind.i64 s,AV.int IntKind.i64 n,AV.int IntKind.i64 2,AV.str [],AV.bool x.has])
        else
         some (AV.agg [AV.cplx FloatKind.f64 v.re v.im,AV.int IntKind.i64 o.kind,AV.str o.key,AV.str [],AV.bool false,AV.bool false,AV.int IntKind.i64 s,AV.int IntKind.i64 n,AV.int IntKind.i64 0,AV.str [],AV.bool false])
   else
    bif decide (o.kind=1)then
     bif !x.has then
      some (AV.agg [AV.cplx FloatKind.f64 v.re v.im,AV.int IntKind.i64 o.kind,AV.str o.key,AV.str [],AV.bool false,AV.bool false,AV.int IntKind.i64 s,AV.int IntKind.i64 n,AV.int IntKind.i64 1,AV.str [],AV.bool false])
     else
      some (AV.agg [AV.cplx FloatKind.f64 v.re v.im,AV.int IntKind.i64 o.kind,AV.str o.key,AV.str [],AV.bool false,AV.bool false,AV.int IntKind.i64 s,AV.int IntKind.i64 n,AV.int IntKind.i64 0,AV.str x.val,AV.bool true])
    else
     bif decide (o.kind=2)then
      some (AV.agg [AV.cplx FloatKind.f64 v.re v.im,AV.int IntKind.i64 o.kind,AV.str o.key,AV.str o.val,AV.bool true,AV.bool false,AV.int IntKind.i64 s,AV.int IntKind.i64 n,AV.int IntKind.i64 0,AV.str [],AV.bool false])
     else
      bif decide (o.kind=3)then
       some (AV.agg [AV.cplx FloatKind.f64 v.re v.im,AV.int IntKind.i64 o.kind,AV.str o.key,AV.str [],AV.bool true,AV.bool true,AV.int IntKind.i64 s,AV.int IntKind.i64 n,AV.int IntKind.i64 0,AV.str [],AV.bool false])
      else
       bif decide (o.kind=4)then
        bif bif x.has then o.hasOld else !o.hasOld then
         bif !x.has then
          some (AV.agg [AV.cplx FloatKind.f64 v.re v.im,AV.int IntKind.i64 o.kind,AV.str o.key,AV.str o.val,AV.bool true,AV.bool false,AV.int IntKind.i64 s,AV.int IntKind.i64 n,AV.int IntKind.i64 0,AV.str [],AV.bool false])
         else
          bif Ah x.val o.old then
           some (AV.agg [AV.cplx FloatKind.f64 v.re v.im,AV.int IntKind.i64 o.kind,AV.str o.key,AV.str o.val,AV.bool true,AV.bool false,AV.int IntKind.i64 s,AV.int IntKind.i64 n,AV.int IntKind.i64 0,AV.str [],AV.bool false])
          else
           bif x.has then
            some (AV.agg [AV.cplx FloatKind.f64 v.re v.im,AV.int IntKind.i64 o.kind,AV.str o.key,AV.str [],AV.bool false,AV.bool false,AV.int IntKind.i64 s,AV.int IntKind.i64 n,AV.int IntKind.i64 2,AV.str x.val,AV.bool x.has])
           else
            some (AV.agg [AV.cplx FloatKind.f64 v.re v.im,AV.int IntKind.i64 o.kind,AV.str o.key,AV.str [],AV.bool false,AV.bool false,AV.int IntKind.i64 s,AV.int IntKind.i64 n,AV.int IntKind.i64 2,AV.str [],AV.bool x.has])
        else
         bif x.has then
          some (AV.agg [AV.cplx FloatKind.f64 v.re v.im,AV.int IntKind.i64 o.kind,AV.str o.key,AV.str [],AV.bool false,AV.bool false,AV.int IntKind.i64 s,AV.int IntKind.i64 n,AV.int IntKind.i64 2,AV.str x.val,AV.bool x.has])
         else
          some (AV.agg [AV.cplx FloatKind.f64 v.re v.im,AV.int IntKind.i64 o.kind,AV.str o.key,AV.str [],AV.bool false,AV.bool false,AV.int IntKind.i64 s,AV.int IntKind.i64 n,AV.int IntKind.i64 2,AV.str [],AV.bool x.has])
       else
        some (AV.agg [AV.cplx FloatKind.f64 v.re v.im,AV.int IntKind.i64 o.kind,AV.str o.key,AV.str [],AV.bool false,AV.bool false,AV.int IntKind.i64 s,AV.int IntKind.i64 n,AV.int IntKind.i64 0,AV.str [],AV.bool false]):=by kernel_rfl
theorem SQ:∀ k ∈ ([]:List Known),k.Ok PG:=fun k hk=>by cases hk
def tJ(x:Entry):Nat:=x.key.length+x.val.length+1
def Uo(x:Entry):Prop:=x.key.length<=2000/\x.val.length<=2000
theorem ae4(x:Entry)(h:Uo x):Aa PG Kd [.agg (Ai x)] [] (.int .i64 (tJ x)) []:=by
 have:=h.1;have:=h.2
 refine BN SQ ((ahZ x).trans ?_)
 rw[mK (by omega),show((x.key.length+x.val.length:Nat):Int)+1=((x.key.length+x.val.length+1:Nat):Int) by omega,w64 (by omega)];rfl
def aaS:Known:=.spec Kd (fun a=>Bf (Ay a 0)) Uo (fun x=>[.agg (Ai x)]) (fun x=>.int .i64 (tJ x))
theorem ae5:aaS.Ok PG:=Known.spec_ok ae4
def ah1{R:Type}(x:Entry)(k:Entry->Option R):Option R:=gC (fun a=>Bf (Ay a 0)) Uo (fun x=>[.agg (Ai x)]) [.agg (Ai x)] k
theorem ae6{R:Type}{x:Entry}{k:Entry->Option R}(h:Uo x):ah1 x k=k x:=Aw x rfl h (.refl _)
def SBy(l:List Entry)(s i:Int):St:={fr:=[(3,.int .i64 s),(7,Ae l),(8,.int .i64 l.length),(9,.int .i64 i)],hp:=[]}
def tK(N m:Nat)(l:List Entry)(s i:Int):Option AV:=LP (eS [aaS]) N 0 GS Bp 0 [] m (SBy l s i)
theorem akl(N:Nat)(t:Tail):Am (eS [aaS]) (N+1) GS [.agg (AK t)]=tK N N t.log 0 0:=by kernel_rfl
theorem adg(N m:Nat)(l:List Entry)(s i:Int):tK N (m+1) l s i=bif decide (i<(l.length:Int))then rg i l.length (bif(l.getD i.toNat default).write then ah1 (l.getD i.toNat default) fun y=>tK N m l (IntKind.i64.wrap (s+tJ y)) (IntKind.i64.wrap (i+1))else tK N m l s (IntKind.i64.wrap (i+1)))else some (.int .i64 s):=by kernel_rfl
def iA(x:Entry):Nat:=bif x.write then tJ x else 0
def D2(l:List Entry):Nat:=(l.map iA).sum
theorem dG{l:List Entry}{i:Nat}(h:i<l.length):D2 (l.take (i+1))=D2 (l.take i)+iA (l.getD i default):=by
 have:∀ a b:List Entry,D2 (a++b)=D2 a+D2 b:=fun a b=>by simp[D2]
 rw[List.take_add_one,List.getElem?_eq_getElem h,this]
 simp[D2,List.getD,List.getElem?_eq_getElem h]
def Kh(l:List Entry):Prop:=l.length<=100000 /\ ∀ x ∈ l,Uo x
theorem tL{l:List Entry}(h:∀ x ∈ l,Uo x):D2 l<=4001*l.length:=by
 induction l with
 | nil=>simp[D2]
 | cons x r ih=>
  have:=ih fun y hy=>h y (by simp[hy])
  have h1:=h x (by simp)
  have h2:iA x<=4001:=by unfold iA tJ;have:=h1.1;have:=h1.2;cases x.write <;> simp <;> omega
  have:D2 (x::r)=iA x+D2 r:=by simp[D2]
  rw[this,List.length_cons];omega
theorem tM(t:Tail)(h:Kh t.log):Aa PG GS [.agg (AK t)] [] (.int .i64 (D2 t.log)) []:=by
 obtain⟨N,hN⟩:∃ N,N=200000:=⟨_,rfl⟩
 have hl:=h.1
 refine BN (ak ae5 AL) ((akl N t).trans ?_)
 have:=Oz (n:=t.log.length) (fun i m=>tK N m t.log (D2 (t.log.take i):Nat) (i:Nat)=some (.int .i64 (D2 t.log:Nat))) (fun m=>?_) (fun i m hi ih=>?_) 0 N (Nat.zero_le _) (by omega)
 ·simpa [D2] using this
 ·rw[adg,decide_eq_false (by omega),cond_false,List.take_of_length_le (Nat.le_refl _)]
 ·have hb:=tL (l:=t.log.take (i+1)) fun x hx=>h.2 x (List.mem_of_mem_take hx)
  rw[List.length_take]at hb
  have e:=dG hi
  rw[adg,decide_eq_true (by omega),cond_true,Bi hi,Int.toNat_natCast,Bv (by omega)]
  unfold iA at e
  cases hw:(t.log.getD i default).write with
  | true=>
   rw[hw,cond_true]at e
   rw[cond_true,ae6 (h.2 _ (getD_mem hi)),mK (by omega),<- e]
   exact ih
  | false=>
   rw[hw,cond_false,Nat.add_zero]at e
   rw[cond_false]
   rw[e]at ih
   exact ih
def tN:Known:=.spec GS (fun a=>Eo (Ay a 0)) (fun t=>Kh t.log) (fun t=>[.agg (AK t)]) (fun t=>.int .i64 (D2 t.log))
theorem tO:tN.Ok PG:=Known.spec_ok tM
def Sh(b:Bool)(n h l:Int):Bool:=bif decide (h<=n)then true else bif decide (n<=l)then false else b
abbrev BM:=Bool × Int × Int × Int
def eBM(p:BM):List AV:=[.bool p.1,.int .i64 p.2.1,.int .i64 p.2.2.1,.int .i64 p.2.2.2]
theorem aaT(p:BM)(_:True):Aa PG Jn (eBM p) [] (.bool (Sh p.1 p.2.1 p.2.2.1 p.2.2.2)) []:=BN SQ ((ae3 p.1 p.2.1 p.2.2.1 p.2.2.2).trans (by
 unfold Sh
 cases decide (p.2.2.1<=p.2.1) <;> cases decide (p.2.1<=p.2.2.2) <;> rfl))
def adh:Known:=.spec Jn (fun a=>(Im a 0,Aq a 1,Aq a 2,Aq a 3)) (fun _=>True) eBM (fun p=>.bool (Sh p.1 p.2.1 p.2.2.1 p.2.2.2))
theorem aaU:adh.Ok PG:=Known.spec_ok aaT
def MT(k:Int):Bool:=decide (k=1)||decide (k=4)
def GY(k:Int):Bool:=decide (k=2)||(decide (k=3)||decide (k=4))
theorem tP(k:Int)(_:True):Aa PG It [.int .i64 k] [] (.bool (MT k)) []:=BN SQ ((aaQ k).trans (by unfold MT;cases decide (k=1) <;> rfl))
theorem mM(k:Int)(_:True):Aa PG Hw [.int .i64 k] [] (.bool (GY k)) []:=BN SQ ((tI k).trans (by unfold GY;cases decide (k=2) <;> cases decide (k=3) <;> rfl))
def ZE:Known:=.spec It (fun a=>Aq a 0) (fun _=>True) (fun k=>[.int .i64 k]) (fun k=>.bool (MT k))
def Vu:Known:=.spec Hw (fun a=>Aq a 0) (fun _=>True) (fun k=>[.int .i64 k]) (fun k=>.bool (GY k))
theorem WU:ZE.Ok PG:=Known.spec_ok tP
theorem Up:Vu.Ok PG:=Known.spec_ok mM
def Cb(o:Md.Op)(c:Conf):Int:=
 bif decide (o.kind<1)||decide (5<o.kind)then 8
 else bif !decide (o.kind=5)&&Ah o.key []then 8
 else bif decide (c.maxKey<(o.key.length:Int))||(decide (c.maxVal<(o.val.length:Int))||decide (c.maxVal<(o.old.length:Int)))then 4 else 0
abbrev OC:=Md.Op × Conf
def Uq(p:OC):List AV:=[.agg (Gc p.1),.agg (Cp p.2)]
theorem tQ(p:OC)(_:True):Aa PG Ir (Uq p) [] (.int .i64 (Cb p.1 p.2)) []:=BN SQ ((aaR p.1 p.2).trans (by
 unfold Cb
 cases decide (p.1.kind<1) <;> cases decide (5<p.1.kind) <;> cases decide (p.1.kind=5) <;> cases Ah p.1.key [] <;> cases decide (p.2.maxKey<(p.1.key.length:Int)) <;> cases decide (p.2.maxVal<(p.1.val.length:Int)) <;> cases decide (p.2.maxVal<(p.1.old.length:Int)) <;> rfl))
def ZF:Known:=.spec Ir (fun a=>(Mi (Ay a 0),HO (Ay a 1))) (fun _=>True) Uq (fun p=>.int .i64 (Cb p.1 p.2))
theorem WW:ZF.Ok PG:=Known.spec_ok tQ
def E5(o:Md.Op)(v:Ver)(s n:Int)(x:Itm)(room:Bool):Entry:=
 let e:Entry:=⟨v,o.kind,o.key,[],false,false,s,n,0,[],false⟩
 bif GY o.kind && !room then {e with code:=3}
 else bif decide (o.kind=1)then bif !x.has then {e with code:=1}else {e with res:=x.val,hasRes:=true}
 else bif decide (o.kind=2)then {e with write:=true,val:=o.val}
 else bif decide (o.kind=3)then {e with write:=true,del:=true}
 else bif decide (o.kind=4)then
  bif(bif x.has then o.hasOld else !o.hasOld)&&(!x.has||Ah x.val o.old)then {e with write:=true,val:=o.val}
  else {e with code:=2,hasRes:=x.has,res:=bif x.has then x.val else []}
 else e
structure RsA where
 o:Md.Op
 v:Ver
 s:Int
 n:Int
 x:Itm
 room:Bool
def eRs(p:RsA):List AV:=[.agg (Gc p.o),.cplx .f64 p.v.re p.v.im,.int .i64 p.s,.int .i64 p.n,.agg (Af p.x),.bool p.room]
def dRs(a:List AV):RsA:=⟨Mi (Ay a 0),⟨(BF a 1).1,(BF a 1).2⟩,Aq a 2,Aq a 3,Bd (Ay a 4),Im a 5⟩
theorem ae7(p:RsA)(_:True):Aa PG IP (eRs p) [] (.agg (Ai (E5 p.o p.v p.s p.n p.x p.room))) []:=BN SQ ((ah0 p.o p.v p.s p.n p.x p.room).trans (by
 unfold E5 GY
 by_cases h1:p.o.kind=1
 ·simp only[h1]
  cases p.x.has <;> rfl
 ·by_cases h2:p.o.kind=2
  ·simp only[h2]
   cases p.room <;> rfl
  ·by_cases h3:p.o.kind=3
   ·simp only[h3]
    cases p.room <;> rfl
   ·by_cases h4:p.o.kind=4
    ·simp only[h4]
     cases p.room <;> cases p.x.has <;> cases p.o.hasOld <;> cases Ah p.x.val p.o.old <;> rfl
    ·rw[decide_eq_false h1,decide_eq_false h2,decide_eq_false h3,decide_eq_false h4]
     rfl))
def ZG:Known:=.spec IP dRs (fun _=>True) eRs (fun p=>.agg (Ai (E5 p.o p.v p.s p.n p.x p.room)))
theorem dH:ZG.Ok PG:=Known.spec_ok ae7
def iB(l:List Known):Env:=BU [] [(Ed,0),(Fs,0),(Dr,0),(GD,0),(MQ,0),(GI,0),(T4,0)] [] l
theorem ah2(a:Int)(b:Int):Am (iB []) 9 GI [AV.int IntKind.i64 a,AV.int IntKind.i64 b] =
 bif !decide (a=a)then
  bif !decide (b=b)then
   some (AV.int IntKind.i64 0)
  else
   some (AV.int IntKind.i64 (-1))
 else
  bif !decide (b=b)then
   some (AV.int IntKind.i64 1)
  else
   bif decide (a<b)then
    some (AV.int IntKind.i64 (-1))
   else
    bif decide (b<a)then
     some (AV.int IntKind.i64 1)
    else
     some (AV.int IntKind.i64 0):=by kernel_rfl
def Dx(a b:Int):Int:=bif decide (a<b)then -1 else bif decide (b<a)then 1 else 0
def Ly(p:Int × Int):List AV:=[.int .i64 p.1,.int .i64 p.2]
theorem ae8(p:Int × Int)(_:True):Aa PG GI (Ly p) [] (.int .i64 (Dx p.1 p.2)) []:=BN SQ ((ah2 p.1 p.2).trans (by
 unfold Dx
 rw[decide_eq_true (rfl:p.1=p.1),decide_eq_true (rfl:p.2=p.2)]
 cases decide (p.1<p.2) <;> cases decide (p.2<p.1) <;> rfl))
def PA:Known:=.spec GI (fun a=>(Aq a 0,Aq a 1)) (fun _=>True) Ly (fun p=>.int .i64 (Dx p.1 p.2))
theorem JR:PA.Ok PG:=Known.spec_ok ae8
theorem fd0(F:Nat->Seen)(s:Int):Am (iB [PA]) 30 Ed [AV.tr 7 0 fun i=>As (F i),AV.int IntKind.i64 s] =
 some (AV.tup [AV.agg [AV.int IntKind.i64 0,AV.int IntKind.i64 0,AV.cplx FloatKind.f64 0 0,AV.int IntKind.i64 0,AV.int IntKind.i64 0,AV.str [],AV.bool false],AV.bool false]):=by kernel_rfl
theorem fd1(F:Nat->Seen)(s:Int):Am (iB [PA]) 30 Ed [AV.tr 7 1 fun i=>As (F i),AV.int IntKind.i64 s] =
 gC (fun a=>(Aq a 0,Aq a 1)) (fun x=>True) (Ly) ([AV.int IntKind.i64 (F 0).sess,AV.int IntKind.i64 s]) fun y0=>
 bif decide (Dx y0.fst y0.snd<0)then
  some (AV.tup [AV.agg [AV.int IntKind.i64 0,AV.int IntKind.i64 0,AV.cplx FloatKind.f64 0 0,AV.int IntKind.i64 0,AV.int IntKind.i64 0,AV.str [],AV.bool false],AV.bool false])
 else
  gC (fun a=>(Aq a 0,Aq a 1)) (fun x=>True) (Ly) ([AV.int IntKind.i64 (F 0).sess,AV.int IntKind.i64 s]) fun y1=>
  bif !decide (Dx y1.fst y1.snd=0)then
   some (AV.tup [AV.agg [AV.int IntKind.i64 0,AV.int IntKind.i64 0,AV.cplx FloatKind.f64 0 0,AV.int IntKind.i64 0,AV.int IntKind.i64 0,AV.str [],AV.bool false],AV.bool false])
  else
   some (AV.tup [AV.agg (As (F 0)),AV.bool true]):=by kernel_rfl
theorem fd2(F:Nat->Seen)(s:Int):Am (iB [PA]) 30 Ed [AV.tr 7 2 fun i=>As (F i),AV.int IntKind.i64 s] =
 gC (fun a=>(Aq a 0,Aq a 1)) (fun x=>True) (Ly) ([AV.int IntKind.i64 (F 1).sess,AV.int IntKind.i64 s]) fun y2=>
 bif decide (Dx y2.fst y2.snd<0)then
  some (AV.tup [AV.agg [AV.int IntKind.i64 0,AV.int IntKind.i64 0,AV.cplx FloatKind.f64 0 0,AV.int IntKind.i64 0,AV.int IntKind.i64 0,AV.str [],AV.bool false],AV.bool false])
 else
  gC (fun a=>(Aq a 0,Aq a 1)) (fun x=>True) (Ly) ([AV.int IntKind.i64 (F 0).sess,AV.int IntKind.i64 s]) fun y3=>
  bif decide (Dx y3.fst y3.snd<0)then
   gC (fun a=>(Aq a 0,Aq a 1)) (fun x=>True) (Ly) ([AV.int IntKind.i64 (F 1).sess,AV.int IntKind.i64 s]) fun y4=>
   bif !decide (Dx y4.fst y4.snd=0)then
    some (AV.tup [AV.agg [AV.int IntKind.i64 0,AV.int IntKind.i64 0,AV.cplx FloatKind.f64 0 0,AV.int IntKind.i64 0,AV.int IntKind.i64 0,AV.str [],AV.bool false],AV.bool false])
   else
    some (AV.tup [AV.agg (As (F 1)),AV.bool true])
  else
   gC (fun a=>(Aq a 0,Aq a 1)) (fun x=>True) (Ly) ([AV.int IntKind.i64 (F 0).sess,AV.int IntKind.i64 s]) fun y5=>
   bif !decide (Dx y5.fst y5.snd=0)then
    some (AV.tup [AV.agg [AV.int IntKind.i64 0,AV.int IntKind.i64 0,AV.cplx FloatKind.f64 0 0,AV.int IntKind.i64 0,AV.int IntKind.i64 0,AV.str [],AV.bool false],AV.bool false])
   else
    some (AV.tup [AV.agg (As (F 0)),AV.bool true]):=by kernel_rfl
theorem fd3(F:Nat->Seen)(s:Int):Am (iB [PA]) 30 Ed [AV.tr 7 3 fun i=>As (F i),AV.int IntKind.i64 s] =
 gC (fun a=>(Aq a 0,Aq a 1)) (fun x=>True) (Ly) ([AV.int IntKind.i64 (F 1).sess,AV.int IntKind.i64 s]) fun y6=>
 bif decide (Dx y6.fst y6.snd<0)then
  gC (fun a=>(Aq a 0,Aq a 1)) (fun x=>True) (Ly) ([AV.int IntKind.i64 (F 2).sess,AV.int IntKind.i64 s]) fun y7=>
  bif decide (Dx y7.fst y7.snd<0)then
   some (AV.tup [AV.agg [AV.int IntKind.i64 0,AV.int IntKind.i64 0,AV.cplx FloatKind.f64 0 0,AV.int IntKind.i64 0,AV.int IntKind.i64 0,AV.str [],AV.bool false],AV.bool false])
  else
   gC (fun a=>(Aq a 0,Aq a 1)) (fun x=>True) (Ly) ([AV.int IntKind.i64 (F 2).sess,AV.int IntKind.i64 s]) fun y8=>
   bif !decide (Dx y8.fst y8.snd=0)then
    some (AV.tup [AV.agg [AV.int IntKind.i64 0,AV.int IntKind.i64 0,AV.cplx FloatKind.f64 0 0,AV.int IntKind.i64 0,AV.int IntKind.i64 0,AV.str [],AV.bool false],AV.bool false])
   else
    some (AV.tup [AV.agg (As (F 2)),AV.bool true])
 else
  gC (fun a=>(Aq a 0,Aq a 1)) (fun x=>True) (Ly) ([AV.int IntKind.i64 (F 0).sess,AV.int IntKind.i64 s]) fun y9=>
  bif decide (Dx y9.fst y9.snd<0)then
   gC (fun a=>(Aq a 0,Aq a 1)) (fun x=>True) (Ly) ([AV.int IntKind.i64 (F 1).sess,AV.int IntKind.i64 s]) fun y10=>
   bif !decide (Dx y10.fst y10.snd=0)then
    some (AV.tup [AV.agg [AV.int IntKind.i64 0,AV.int IntKind.i64 0,AV.cplx FloatKind.f64 0 0,AV.int IntKind.i64 0,AV.int IntKind.i64 0,AV.str [],AV.bool false],AV.bool false])
   else
    some (AV.tup [AV.agg (As (F 1)),AV.bool true])
  else
   gC (fun a=>(Aq a 0,Aq a 1)) (fun x=>True) (Ly) ([AV.int IntKind.i64 (F 0).sess,AV.int IntKind.i64 s]) fun y11=>
   bif !decide (Dx y11.fst y11.snd=0)then
    some (AV.tup [AV.agg [AV.int IntKind.i64 0,AV.int IntKind.i64 0,AV.cplx FloatKind.f64 0 0,AV.int IntKind.i64 0,AV.int IntKind.i64 0,AV.str [],AV.bool false],AV.bool false])
   else
    some (AV.tup [AV.agg (As (F 0)),AV.bool true]):=by kernel_rfl
theorem ZH{R:Type}{a b:Int}{k:Int × Int->Option R}:gC (fun a=>(Aq a 0,Aq a 1)) (fun _=>True) Ly [.int .i64 a,.int .i64 b] k=k (a,b):=Aw (a,b) rfl trivial (.refl _)
theorem MU(a b:Int):decide (Dx a b<0)=decide (a<b):=by
 unfold Dx
 by_cases h:a<b
 ·simp[h]
 ·by_cases h2:b<a <;> simp[h,h2]
theorem Si(a b:Int):decide (Dx a b=0)=decide (a=b):=by
 unfold Dx
 by_cases h:a<b
 ·have:a ≠ b:=by omega
  simp[h,this]
 ·by_cases h2:b<a
  ·have:a ≠ b:=by omega
   simp[h,h2,this]
  ·have:a=b:=by omega
   simp[this]
def FR(l:List Seen):Prop:=l.length<=3/\l.Pairwise fun a b=>a.sess<b.sess
def Br(l:List Seen)(s:Int):Seen × Bool:=match l.find? fun x=>decide (x.sess=s)with
 | some x=>(x,true)
 | none=>(default,false)
abbrev SI:=List Seen × Int
def Nz(p:SI):List AV:=[Ax p.1,.int .i64 p.2]
def Ur(a:List AV):SI:=(AN BZ (a.getD 0 .nils),Aq a 1)
def WX(p:SI):AV:=.tup [.agg (As (Br p.1 p.2).1),.bool (Br p.1 p.2).2]
theorem aaV(p:SI)(h:FR p.1):Aa PG Ed (Nz p) [] (WX p) []:=by
 obtain⟨l,s⟩:=p
 obtain⟨h1,h2⟩:=h
 match l,h1,h2 with
 | [],_,_=>exact BN (ak JR AL) (fd0 (fun i=>([]:List Seen).getD i default) s)
 | [a],_,_=>
  refine BN (ak JR AL) ((fd1 (fun i=>[a].getD i default) s).trans ?_)
  simp only[ZH,MU,Si]
  show(bif decide (a.sess<s)then _ else bif !decide (a.sess=s)then _ else some (AV.tup [.agg (As a),.bool true]))=some (WX ([a],s))
  unfold WX Br
  by_cases ha:a.sess=s
  ·have:¬ a.sess<s:=by omega
   simp only[List.find?,ha,decide_true,Bool.not_true,cond_false,show decide (s<s)=false by simp]
  ·by_cases hb:a.sess<s <;> simp only[List.find?,ha,hb,decide_true,decide_false,Bool.not_false,cond_true,cond_false] <;> rfl
 | [a,b],_,h2=>
  have hab:a.sess<b.sess:=by simp at h2;exact h2
  refine BN (ak JR AL) ((fd2 (fun i=>[a,b].getD i default) s).trans ?_)
  simp only[ZH,MU,Si]
  show(bif decide (b.sess<s)then _ else bif decide (a.sess<s)then bif !decide (b.sess=s)then _ else some (AV.tup [.agg (As b),.bool true])else bif !decide (a.sess=s)then _ else some (AV.tup [.agg (As a),.bool true]))=some (WX ([a,b],s))
  unfold WX Br
  by_cases ha:a.sess=s
  ·have e1:¬ b.sess<s:=by omega
   have e2:¬ a.sess<s:=by omega
   simp only[List.find?,ha,decide_true,Bool.not_true,cond_false,decide_eq_false e1,show decide (s<s)=false by simp]
  ·by_cases hb:b.sess=s
   ·have e2:a.sess<s:=by omega
    simp only[List.find?,ha,hb,e2,decide_true,decide_false,Bool.not_true,cond_true,cond_false,show decide (s<s)=false by simp]
   ·by_cases h3:b.sess<s <;> by_cases h4:a.sess<s <;> simp only[List.find?,ha,hb,h3,h4,decide_true,decide_false,Bool.not_false,cond_true,cond_false] <;> rfl
 | [a,b,c],_,h2=>
  have hab:a.sess<b.sess/\a.sess<c.sess/\b.sess<c.sess:=by simp at h2;exact⟨h2.1.1,h2.1.2,h2.2⟩
  refine BN (ak JR AL) ((fd3 (fun i=>[a,b,c].getD i default) s).trans ?_)
  simp only[ZH,MU,Si]
  show(bif decide (b.sess<s)then bif decide (c.sess<s)then _ else bif !decide (c.sess=s)then _ else some (AV.tup [.agg (As c),.bool true])else bif decide (a.sess<s)then bif !decide (b.sess=s)then _ else some (AV.tup [.agg (As b),.bool true])else bif !decide (a.sess=s)then _ else some (AV.tup [.agg (As a),.bool true]))=some (WX ([a,b,c],s))
  unfold WX Br
  by_cases ha:a.sess=s
  ·have e1:¬ b.sess<s:=by omega
   have e2:¬ a.sess<s:=by omega
   simp only[List.find?,ha,decide_true,Bool.not_true,cond_false,decide_eq_false e1,show decide (s<s)=false by simp]
  ·by_cases hb:b.sess=s
   ·have e2:a.sess<s:=by omega
    simp only[List.find?,ha,hb,e2,decide_true,decide_false,Bool.not_true,cond_true,cond_false,show decide (s<s)=false by simp]
   ·by_cases hc:c.sess=s
    ·have e2:a.sess<s:=by omega
     have e3:b.sess<s:=by omega
     simp only[List.find?,ha,hb,hc,e2,e3,decide_true,decide_false,Bool.not_true,cond_true,cond_false,show decide (s<s)=false by simp]
    ·by_cases h3:b.sess<s <;> by_cases h4:a.sess<s <;> by_cases h5:c.sess<s <;> simp only[List.find?,ha,hb,hc,h3,h4,h5,decide_true,decide_false,Bool.not_false,cond_true,cond_false] <;> rfl
def Us:Known:=.spec Ed Ur (fun p=>FR p.1) Nz WX
theorem PB:Us.Ok PG:=Known.spec_ok aaV
theorem Ut{R:Type}{l:List Seen}{s:Int}{k:SI->Option R}(h:FR l):gC Ur (fun p=>FR p.1) Nz [Ax l,.int .i64 s] k=k (l,s):=Aw (l,s) (Prod.ext (EE l) rfl) h (.refl _)
theorem akm(l:List Seen)(s:Int)(n:Int):Am (iB [Us]) 9 Fs [Ax l,AV.int IntKind.i64 s,AV.int IntKind.i64 n] =
 gC (Ur) (fun p=>FR p.fst) (Nz) ([Ax l,AV.int IntKind.i64 s]) fun y12=>
 bif !(Br y12.fst y12.snd).snd then
  some (AV.int IntKind.i64 0)
 else
  bif decide ((Br y12.fst y12.snd).fst.num<n)then
   some (AV.int IntKind.i64 0)
  else
   bif decide (n=(Br y12.fst y12.snd).fst.num)then
    some (AV.int IntKind.i64 1)
   else
    some (AV.int IntKind.i64 2):=by kernel_rfl
def Ki(l:List Seen)(s n:Int):Int:=bif !(Br l s).2 then 0 else bif decide ((Br l s).1.num<n)then 0 else bif decide (n=(Br l s).1.num)then 1 else 2
abbrev SII:=List Seen × Int × Int
def Vv(p:SII):List AV:=[Ax p.1,.int .i64 p.2.1,.int .i64 p.2.2]
theorem aaW(p:SII)(h:FR p.1):Aa PG Fs (Vv p) [] (.int .i64 (Ki p.1 p.2.1 p.2.2)) []:=by
 refine BN (ak PB AL) ((akm p.1 p.2.1 p.2.2).trans ?_)
 rw[Ut h]
 unfold Ki
 cases (Br p.1 p.2.1).2 <;> cases decide ((Br p.1 p.2.1).1.num<p.2.2) <;> cases decide (p.2.2=(Br p.1 p.2.1).1.num) <;> rfl
def mN:Known:=.spec Fs (fun a=>(AN BZ (a.getD 0 .nils),Aq a 1,Aq a 2)) (fun p=>FR p.1) Vv (fun p=>.int .i64 (Ki p.1 p.2.1 p.2.2))
theorem ZI:mN.Ok PG:=Known.spec_ok aaW
def eE(l:List Known):Env:=BU [(Ee,0,[3,7,8,9,1000])] [(Ee,1),(GR,5),(HJ,0),(EN,0)] [] l
abbrev MV:=List Txt × (Txt->Ver)
def GC(ks:List Txt)(s:Txt):List Txt:=bif BI s ks then ks else ks++[s]
def Dy{Y:Type}(V:Txt->Y)(s:Txt)(v:Y):Txt->Y:=fun x=>bif Ah x s then v else V x
theorem Ti{Y:Type}(e:Y->AV)(V:Txt->Y)(s:Txt)(v:Y):(fun x=>bif Ah x s then e v else e (V x))=fun x=>e (Dy V s v x):=by
 funext x
 unfold Dy
 cases Ah x s <;> rfl
def SEn(l:List Itm)(ks:List Txt)(val:Txt->AV)(i:Int):St:={fr:=[(3,.mp 0),(7,Al l),(8,.int .i64 l.length),(9,.int .i64 i),(1000,.undef)],hp:=[.pmap true ks val]}
theorem akn(N:Nat)(l:List Itm):Bz 0 (eE []) (N+1) Ee [Al l] [] =
 LP (eE []) (N) (0) (Ee) (Ct (0) (0)) 0 [] (N) ({fr:=[(3,AV.mp 0),(7,AV.tr 4 l.length fun i=>Af (l.getD i default)),(8,AV.int IntKind.i64 (↑l.length:Int)),(9,AV.int IntKind.i64 0),(1000,AV.undef)],hp:=[BS.pmap true [] fun x=>AV.int IntKind.i64 0]}):=by kernel_rfl
theorem adi(N:Nat)(m:Nat)(l:List Itm)(ks:List Txt)(val:Txt->AV)(i:Int):LP (eE []) N 0 Ee (Ct 0 0) 0 [] (m+1) (SEn l ks val i) =
 bif decide (i<(↑l.length:Int))then
  bif decide (0<=i)&&decide (i<(↑l.length:Int))then
   LP (eE []) (N) (0) (Ee) (Ct 0 0) 0 ([]) (m) ({fr:=[(3,AV.mp 0),(7,AV.tr 4 l.length fun i=>Af (l.getD i default)),(8,AV.int IntKind.i64 (↑l.length:Int)),(9,AV.int IntKind.i64 (IntKind.i64.wrap (i+1))),(1000,AV.undef)],hp:=[BS.pmap true (bif BI (l.getD i.toNat default).key ks then ks else ks++[(l.getD i.toNat default).key]) fun x=>bif Ah x (l.getD i.toNat default).key then AV.cplx FloatKind.f64 (l.getD i.toNat default).ver.re (l.getD i.toNat default).ver.im else val x]})
  else none
 else
  some ((AV.mp 0,[BS.pmap true ks val])):=by kernel_rfl
theorem ako(e:Entry)(ks:List Txt)(V:Txt->Ver):Bz 1 (eE [FD]) 9 GR [AV.agg (Ai e),AV.mp 0] [BS.pmap true ks fun k=>eV (V k)] =
 bif !e.write then
  some ((AV.bool true,[BS.pmap true ks fun k=>AV.cplx FloatKind.f64 (V k).re (V k).im]))
 else
  bif BI e.key ks then
   gC (DB) (V2) (DA) ([AV.cplx FloatKind.f64 (V e.key).re (V e.key).im,AV.cplx FloatKind.f64 e.ver.re e.ver.im]) fun y0=>
   some ((AV.bool !AH y0.fst y0.snd,[BS.pmap true ks fun k=>AV.cplx FloatKind.f64 (V k).re (V k).im]))
  else
   some ((AV.bool false,[BS.pmap true ks fun k=>AV.cplx FloatKind.f64 (V k).re (V k).im])):=by kernel_rfl
theorem Dz(s:Txt):∀ ks:List Txt,BI s ks=true ↔ s ∈ ks
 | []=>by simp[BI]
 | a::r=>by
  unfold BI
  rw[A7]
  cases h:s == a with
  | true=>simp at h;simp[h]
  | false=>simp at h;rw[cond_false,Dz s r];simp[h]
def ZJ(M:MV)(x:Itm):MV:=(GC M.1 x.key,Dy M.2 x.key x.ver)
def Cc(l:List Itm):MV:=l.foldl ZJ ([],fun _=>default)
theorem mO{l:List Itm}{i:Nat}(h:i<l.length):Cc (l.take (i+1))=ZJ (Cc (l.take i)) (l.getD i default):=by
 unfold Cc
 rw[List.take_add_one,List.foldl_append,List.getElem?_eq_getElem h]
 simp[List.getD,List.getElem?_eq_getElem h]
theorem MW{ks:List Txt}{s x:Txt}:x ∈ GC ks s ↔ x=s\/x ∈ ks:=by
 unfold GC
 cases h:BI s ks with
 | true=>
  have:=(Dz s ks).1 h
  rw[cond_true]
  exact⟨.inr,fun h=>h.elim (fun e=>e ▸ this) id⟩
 | false=>rw[cond_false];simp[or_comm]
def hMV(M:MV):Heap:=[.pmap true M.1 fun k=>eV (M.2 k)]
theorem aaX(l:List Itm)(h:l.length<=100000):Aa PG Ee [Al l] [] (.mp 0) (hMV (Cc l)):=by
 obtain⟨N,hN⟩:∃ N,N=200000:=⟨_,rfl⟩
 have run:∀ d i m (val:Txt->AV),i+d=l.length->d<m->(∀ k ∈ (Cc (l.take i)).1,val k=eV ((Cc (l.take i)).2 k)) -> ∃ val',LP (eE []) N 0 Ee (Ct 0 0) 0 [] m (SEn l (Cc (l.take i)).1 val (i:Nat))=some (.mp 0,[.pmap true (Cc l).1 val']) /\ ∀ k ∈ (Cc l).1,val' k=eV ((Cc l).2 k):=by
  intro d
  induction d with
  | zero=>
   intro i m val hi hm hv
   obtain⟨m,rfl⟩:∃ k,m=k+1:=⟨m - 1,by omega⟩
   rw[List.take_of_length_le (by omega)]at hv ⊢
   refine⟨val,?_,hv⟩
   rw[adi,decide_eq_false (by omega),cond_false]
  | succ d ih=>
   intro i m val hi hm hv
   obtain⟨m,rfl⟩:∃ k,m=k+1:=⟨m - 1,by omega⟩
   have hil:i<l.length:=by omega
   have ht:=mO hil
   obtain⟨val',h1,h2⟩:=ih (i+1) m (fun x=>bif Ah x (l.getD i default).key then eV (l.getD i default).ver else val x) (by omega) (by omega) (fun k hk=>by
    rw[ht]at hk ⊢
    show _=eV (Dy (Cc (l.take i)).2 (l.getD i default).key (l.getD i default).ver k)
    unfold Dy
    cases hb:Ah k (l.getD i default).key with
    | true=>rfl
    | false=>
     rw[cond_false,cond_false]
     refine hv k ?_
     rcases MW.1 hk with e | e
     ·rw[e,Jo]at hb;cases hb
     ·exact e)
   refine⟨val',?_,h2⟩
   rw[adi,decide_eq_true (by omega),cond_true,decide_eq_true (by omega),Bool.and_true,cond_true,Int.toNat_natCast,Bv (by omega)]
   rw[ht]at h1
   exact h1
 obtain⟨val',h1,h2⟩:=run l.length 0 N (fun _=>.int .i64 0) (by omega) (by omega) (fun k hk=>by simp[Cc]at hk)
 have c:=Zn SQ ((akn N l).trans h1)
 exact c.resub (.refl _) (.cons (.pmap true _ _ _ fun s hs=>by rw[h2 s hs];exact .refl _) .nil)
def XS:Known:=.specB Ee (fun a=>AN Bd (a.getD 0 .nils)) (fun l=>l.length<=100000) (fun l=>[Al l]) (fun l=>(.mp 0,hMV (Cc l)))
theorem ZK:XS.Ok PG:=Known.specB_ok aaX
theorem akp{R:Type}{l:List Itm}{k:List Itm->Option R}(h:l.length<=100000):gC (fun a=>AN Bd (a.getD 0 .nils)) (fun(l:List Itm)=>l.length<=100000) (fun l=>[Al l]) [Al l] k=k l:=Aw l (E4 l) h (.refl _)
def EH(e:Entry)(M:MV):Bool:=!e.write||(BI e.key M.1 && !AH (M.2 e.key) e.ver)
abbrev EM:=Entry × MV
def QZ(p:EM):List AV × Heap:=([.agg (Ai p.1),.mp 0],hMV p.2)
def dMV(b:BS):MV:=match b with
 | .pmap _ ks val=>(ks,fun k=>match val k with
  | .cplx _ a b=>⟨a,b⟩
  | _=>default)
 | _=>([],fun _=>default)
def dEM(a:List AV)(h:Heap):EM:=(Bf (Ay a 0),dMV (Ab h 0))
def tR(p:EM):Prop:=At p.1.ver /\ ∀ k ∈ p.2.1,At (p.2.2 k)
theorem dI(p:EM)(h:tR p):Aa PG GR (QZ p).1 (QZ p).2 (.bool (EH p.1 p.2)) (QZ p).2/\(QZ p).2.length<=(QZ p).2.length:=by
 refine conC (ak DZ AL) (c:=1) (n:=9) (Nat.le_refl 1) ((ako p.1 p.2.1 p.2.2).trans ?_)
 unfold EH
 cases hw:p.1.write with
 | false=>rfl
 | true=>
  cases hm:BI p.1.key p.2.1 with
  | false=>rfl
  | true=>
   simp only[Bool.not_true,cond_false,cond_true,Bool.false_or,Bool.true_and]
   rw[Jp (h.2 _ ((Dz _ _).1 hm)) h.1]
   rfl
def PC:Known:=.specG GR dEM tR QZ (fun p=>(.bool (EH p.1 p.2),(QZ p).2))
theorem SR:PC.Ok PG:=Known.specG_ok dI
def ZL{R:Type}(p:EM)(k:EM->Option R):Option R:=BG dEM tR QZ (QZ p).1 (QZ p).2 k
theorem SU{R:Type}{p:EM}{k:EM->Option R}(h:tR p):ZL p k=k p:=BT p rfl h (.refl _) (.refl _)
def SRi(l:List Entry)(M:MV)(upto floor:Ver)(i:Int):St:={fr:=[(1,eV upto),(7,.mp 0),(8,eV floor),(16,Ae l),(17,.int .i64 l.length),(18,.int .i64 i)],hp:=hMV M}
def LRi(N m:Nat)(l:List Entry)(M:MV)(upto floor:Ver)(i:Int):Option AV:=LP (eE [FD,XS,PC]) N 0 HJ Bp 0 [] m (SRi l M upto floor i)
theorem akq(N:Nat)(t:Tail)(upto:Ver)(done:List Itm):Am (eE [FD,XS,PC]) (N+1) HJ [.agg (AK t),eV upto,Al done] =
 gC (fun a=>AN Bd (a.getD 0 .nils)) (fun(l:List Itm)=>l.length<=100000) (fun l=>[Al l]) [Al done] fun y=>LRi N N t.log (Cc y) upto t.floor 0:=by kernel_rfl
theorem adj(N m:Nat)(l:List Entry)(M:MV)(upto floor:Ver)(i:Int):LRi N (m+1) l M upto floor i =
 bif decide (i<(l.length:Int))then rg i l.length (ZL (l.getD i.toNat default,M) fun q=>bif !EH q.1 q.2 then some (eV floor)else gC DB V2 DA [eV upto,eV (l.getD i.toNat default).ver] fun y=>bif AH y.1 y.2 then some (eV floor)else LRi N m l M upto (l.getD i.toNat default).ver (IntKind.i64.wrap (i+1)))else some (eV floor):=by kernel_rfl
def MX(M:MV)(upto:Ver):Ver->List Entry->Ver
 | floor,[]=>floor
 | floor,e::r=>bif !EH e M||AH upto e.ver then floor else MX M upto e.ver r
structure RiA where
 t:Tail
 upto:Ver
 done:List Itm
def PD(p:RiA):Ver:=MX (Cc p.done) p.upto p.t.floor p.t.log
def eRi(p:RiA):List AV:=[.agg (AK p.t),eV p.upto,Al p.done]
def dRi(a:List AV):RiA:=⟨Eo (Ay a 0),⟨(BF a 1).1,(BF a 1).2⟩,AN Bd (a.getD 2 .nils)⟩
def tS(p:RiA):Prop:=p.t.log.length<=100000/\p.done.length<=100000/\At p.upto/\(∀ e ∈ p.t.log,At e.ver) /\ ∀ x ∈ p.done,At x.ver
theorem ZM{l:List Itm}(h:∀ x ∈ l,At x.ver):∀ k ∈ (Cc l).1,At ((Cc l).2 k):=by
 have:∀ (l:List Itm) (M:MV),(∀ x ∈ l,At x.ver)->(∀ k ∈ M.1,At (M.2 k)) -> ∀ k ∈ (l.foldl ZJ M).1,At ((l.foldl ZJ M).2 k):=by
  intro l
  induction l with
  | nil=>intro M _ h;exact h
  | cons x r ih=>
   intro M hl hM
   refine ih _ (fun y hy=>hl y (by simp[hy])) fun k hk=>?_
   show At (Dy M.2 x.key x.ver k)
   unfold Dy
   cases hb:Ah k x.key with
   | true=>exact hl x (by simp)
   | false=>
    rcases MW.1 hk with e | e
    ·rw[e,Jo]at hb;cases hb
    ·exact hM k e
 exact this l _ h (fun k hk=>by simp at hk)
theorem aaY(p:RiA)(h:tS p):Aa PG HJ (eRi p) [] (eV (PD p)) []:=by
 obtain⟨h1,h2,h3,h4,h5⟩:=h
 obtain⟨N,hN⟩:∃ N,N=200000:=⟨_,rfl⟩
 have hM:=ZM h5
 have run:∀ d i m floor,i+d=p.t.log.length->d<m->LRi N m p.t.log (Cc p.done) p.upto floor (i:Nat)=some (eV (MX (Cc p.done) p.upto floor (p.t.log.drop i))):=by
  intro d
  induction d with
  | zero=>
   intro i m floor hi hm
   obtain⟨m,rfl⟩:∃ k,m=k+1:=⟨m - 1,by omega⟩
   rw[adj,decide_eq_false (by omega),cond_false,List.drop_eq_nil_of_le (by omega)];rfl
  | succ d ih=>
   intro i m floor hi hm
   obtain⟨m,rfl⟩:∃ k,m=k+1:=⟨m - 1,by omega⟩
   have hil:i<p.t.log.length:=by omega
   have hv:=h4 _ (getD_mem (z:=(default:Entry)) hil)
   rw[adj,decide_eq_true (by omega),cond_true,Bi hil,Int.toNat_natCast,SU ⟨hv,hM⟩,drop_cons (z:=(default:Entry)) hil,MX]
   simp only
   cases hs:EH (p.t.log.getD i default) (Cc p.done)with
   | false=>rfl
   | true=>
    rw[Bool.not_true,cond_false,Bool.false_or]
    refine(Jp h3 hv).trans ?_
    simp only
    cases AH p.upto (p.t.log.getD i default).ver with
    | true=>rfl
    | false=>rw[cond_false,cond_false,Bv (by omega)];exact ih (i+1) m _ (by omega) (by omega)
 refine BN (ak DZ (ak ZK (ak SR AL))) ((akq N p.t p.upto p.done).trans ?_)
 rw[akp h2]
 have:=run p.t.log.length 0 N p.t.floor (by omega) (by omega)
 rw[List.drop_zero]at this
 exact this
def adk:Known:=.spec HJ dRi tS eRi (fun p=>eV (PD p))
theorem aaZ:adk.Ok PG:=Known.spec_ok aaY
def eP(l:List Known):Env:=BU [(Dk,0,[4,5,6,16,17,18,1004]),(Bh,0,[2,4,6,7,37,38,39,1005])] [(Bq,1),(AJ,0),(Ao,5),(GQ,1)] [] l
theorem tU:(FN AJ 11).Ok PG:=Dp Gj
theorem akr(p:Pump):Bz 0 (eP [Ny Bq 4,FN AJ 11]) 9 GQ [AV.agg (Bg p)] [] =
 gC (Et) (Ev) (Eu 11) ([Ae p.out]) fun y0=>
 gC (Et) (Ev) (Eu 4) ([Al p.done]) fun y1=>
 some ((AV.agg [AV.int IntKind.i64 p.num,AV.tr 11 y0.fst y0.snd,AV.sn 4 0 y1.fst],[BS.seq true 4 y1.fst y1.snd])):=by kernel_rfl
def NA(p:Pump):Prop:=p.out.length<=100000/\p.done.length<=100000
theorem ah3(p:Pump)(h:NA p):Aa PG GQ [.agg (Bg p)] [] (.agg [.int .i64 p.num,Ae p.out,.sn 4 0 p.done.length]) [Bc 4 Af default p.done]:=by
 refine Zn (ak ZC (ak tU AL)) ((akr p).trans ?_)
 refine(WR (sz:=11) h.1).trans ?_
 exact(WR (sz:=4) h.2)
def kCp:Known:=.specB GQ (fun a=>Df (Ay a 0)) NA (fun p=>[.agg (Bg p)]) (fun p=>(.agg [.int .i64 p.num,Ae p.out,.sn 4 0 p.done.length],[Bc 4 Af default p.done]))
theorem ZN:kCp.Ok PG:=Known.specB_ok ah3
theorem qCp{R:Type}{p:Pump}{k:Pump->Option R}(h:NA p):gC (fun a=>Df (Ay a 0)) NA (fun p=>[.agg (Bg p)]) [.agg (Bg p)] k=k p:=Aw p (HN p) h (.refl _)
abbrev MC:=List Txt × (Txt->Int)
def MY(M:MC)(s:Txt):MC:=(GC M.1 s,Dy M.2 s (IntKind.i64.wrap ((bif BI s M.1 then M.2 s else 0)+1)))
def HS(l:List Txt):MC:=l.foldl MY ([],fun _=>0)
theorem tV(l:List Txt)(h:l.length<=1000000):(∀ k,k ∈ (HS l).1 ↔ k ∈ l) /\ ∀ k ∈ (HS l).1,1<=(HS l).2 k/\(HS l).2 k<=l.length:=by
 have:∀ (l:List Txt) (M:MC) (n:Nat),n+l.length<=1000000->(∀ k ∈ M.1,1<=M.2 k/\M.2 k<=n)->(∀ k,k ∈ (l.foldl MY M).1 ↔ k ∈ M.1\/k ∈ l) /\ ∀ k ∈ (l.foldl MY M).1,1<=(l.foldl MY M).2 k/\(l.foldl MY M).2 k<=(n+l.length:Nat):=by
  intro l
  induction l with
  | nil=>intro M n _ h;exact⟨fun k=>by simp,by simpa using h⟩
  | cons s r ih=>
   intro M n hn hM
   obtain⟨h1,h2⟩:=ih (MY M s) (n+1) (by simp at hn;omega) (fun k hk=>by
    show 1<=Dy M.2 s _ k/\Dy M.2 s _ k<=_
    unfold Dy
    cases hb:Ah k s with
    | true=>
     rw[cond_true]
     cases hm:BI s M.1 with
     | true=>
      have:=hM s ((Dz _ _).1 hm)
      rw[cond_true,wrap64 (by simp at hn;omega)];omega
     | false=>rw[cond_false,wrap64 (by omega)];omega
    | false=>
     rcases MW.1 hk with e | e
     ·rw[e,Jo]at hb;cases hb
     ·have:=hM k e;rw[cond_false];omega)
   refine⟨fun k=>?_,fun k hk=>?_⟩
   ·rw[List.foldl_cons,h1]
    show k ∈ GC M.1 s\/k ∈ r ↔ _
    rw[MW,List.mem_cons,or_comm (a:=k=s),or_assoc]
   ·have:=h2 k hk
    rw[List.foldl_cons,List.length_cons]
    omega
 obtain⟨h1,h2⟩:=this l ([],fun _=>0) 0 (by omega) (fun k hk=>by simp at hk)
 exact⟨fun k=>by unfold HS;rw[h1];simp,fun k hk=>by have:=h2 k hk;unfold HS;omega⟩
theorem ZO(l:List Txt)(s:Txt):HS (l++[s])=MY (HS l) s:=by unfold HS;rw[List.foldl_append];rfl
def hTr(p:Pump)(M:MC):Heap:=[.arr true 3 [[.int .i64 0,.nils,.nils]],.arr true 3 [[.int .i64 p.num,Ae p.out,.sn 4 2 p.done.length]],Bc 4 Af default p.done,.arr true 1 [[.mp 4]],.pmap true M.1 fun k=>.int .i64 (M.2 k)]
def STr(p:Pump)(M:MC)(l:List Entry)(i:Int):St:={fr:=[(4,.ptr 0 0 0),(5,.ptr 1 0 0),(6,.ptr 3 0 0),(16,Ae l),(17,.int .i64 l.length),(18,.int .i64 i),(1004,.undef)],hp:=hTr p M}
def Q0:List Known:=[kCp,kDT]
theorem ae9:∀ k ∈ Q0,k.Ok PG:=ak ZN (ak ahJ AL)
def iC(N m:Nat)(p:Pump)(M:MC)(l:List Entry)(i:Int):Option AV:=LP (eP Q0) N 0 Dk Bp 0 [] m (STr p M l i)
theorem aks(N:Nat)(p:Pump)(t:Tail):Am (eP Q0) (N+1) Dk [.agg (Bg p),.agg (AK t)]=gC (fun a=>Df (Ay a 0)) NA (fun p=>[.agg (Bg p)]) [.agg (Bg p)] fun y=>iC N N y (HS []) t.log 0:=by kernel_rfl
theorem akt(N:Nat)(m:Nat)(p:Pump)(M:MC)(l:List Entry)(i:Int):LP (eP Q0) N 0 Dk Bp 0 [] (m+1) (STr p M l i) =
 bif decide (i<(↑l.length:Int))then
  bif decide (0<=i)&&decide (i<(↑l.length:Int))then
   bif(l.getD i.toNat default).write then
    bif BI (l.getD i.toNat default).key M.fst then
     LP (eP Q0) (N) (0) (Dk) (Bp) 0 ([]) (m) ({fr:=[(4,AV.ptr 0 0 0),(5,AV.ptr 1 0 0),(6,AV.ptr 3 0 0),(16,Ae l),(17,AV.int IntKind.i64 (↑l.length:Int)),(18,AV.int IntKind.i64 (IntKind.i64.wrap (i+1))),(1004,AV.undef)],hp:=[BS.arr true 3 [[AV.int IntKind.i64 0,AV.nils,AV.nils]],BS.arr true 3 [[AV.int IntKind.i64 p.num,Ae p.out,AV.sn 4 2 p.done.length]],BS.seq true 4 p.done.length fun i=>Af (p.done.getD i default),BS.arr true 1 [[AV.mp 4]],BS.pmap true (bif BI (l.getD i.toNat default).key M.fst then M.fst else M.fst++[(l.getD i.toNat default).key]) fun x=>bif Ah x (l.getD i.toNat default).key then AV.int IntKind.i64 (IntKind.i64.wrap (M.snd (l.getD i.toNat default).key+1))else AV.int IntKind.i64 (M.snd x)]})
    else
     LP (eP Q0) (N) (0) (Dk) (Bp) 0 ([]) (m) ({fr:=[(4,AV.ptr 0 0 0),(5,AV.ptr 1 0 0),(6,AV.ptr 3 0 0),(16,Ae l),(17,AV.int IntKind.i64 (↑l.length:Int)),(18,AV.int IntKind.i64 (IntKind.i64.wrap (i+1))),(1004,AV.undef)],hp:=[BS.arr true 3 [[AV.int IntKind.i64 0,AV.nils,AV.nils]],BS.arr true 3 [[AV.int IntKind.i64 p.num,Ae p.out,AV.sn 4 2 p.done.length]],BS.seq true 4 p.done.length fun i=>Af (p.done.getD i default),BS.arr true 1 [[AV.mp 4]],BS.pmap true (bif BI (l.getD i.toNat default).key M.fst then M.fst else M.fst++[(l.getD i.toNat default).key]) fun x=>bif Ah x (l.getD i.toNat default).key then AV.int IntKind.i64 1 else AV.int IntKind.i64 (M.snd x)]})
   else
    LP (eP Q0) (N) (0) (Dk) (Bp) 0 ([]) (m) (STr p M l (IntKind.i64.wrap (i+1)))
  else none
 else
  BG (Zx) (SO) (E9) ([AV.sn 4 0 p.done.length,AV.fn (Fn.func Ge) [] [AV.ptr 1 0 0]]) ([BS.seq true 4 p.done.length fun i=>Af (p.done.getD i default),BS.arr true 1 [[AV.mp 2]],BS.pmap true M.fst fun k=>AV.int IntKind.i64 (M.snd k)]) fun y2=>
  bif(List.filter (fun x=>!pT y2.snd x) y2.fst).length.ble (List.filter (fun x=>!pT y2.snd x) y2.fst).length&&true then
   some (AV.agg [AV.int IntKind.i64 p.num,Ae p.out,AV.tr 4 (List.filter (fun x=>!pT y2.snd x) y2.fst).length fun i=>Af ((List.filter (fun x=>!pT y2.snd x) y2.fst).getD i default)])
  else none:=by kernel_rfl
theorem tW(N m:Nat)(p:Pump)(M:MC)(l:List Entry)(i:Int):iC N (m+1) p M l i =
 bif decide (i<(l.length:Int))then rg i l.length (bif(l.getD i.toNat default).write then iC N m p (MY M (l.getD i.toNat default).key) l (IntKind.i64.wrap (i+1))else iC N m p M l (IntKind.i64.wrap (i+1)))
 else BG Zx SO E9 (E9 (p.done,M)).1 (E9 (p.done,M)).2 fun y=>bif(List.filter (fun x=>!pT y.2 x) y.1).length.ble (List.filter (fun x=>!pT y.2 x) y.1).length&&true then some (.agg [.int .i64 p.num,Ae p.out,Al (List.filter (fun x=>!pT y.2 x) y.1)])else none:=by
 refine(akt N m p M l i).trans ?_
 have key:∀ (s:Txt) (v:Int),BS.pmap true (bif BI s M.1 then M.1 else M.1++[s]) (fun x=>bif Ah x s then AV.int IntKind.i64 v else AV.int IntKind.i64 (M.2 x))=.pmap true (GC M.1 s) fun k=>.int .i64 (Dy M.2 s v k):=fun s v=>by
  rw[Ti (fun n=>AV.int IntKind.i64 n)];rfl
 rw[key,key]
 have hL:∀ v:Int,v=(bif BI (l.getD i.toNat default).key M.1 then M.2 (l.getD i.toNat default).key else 0)->iC N m p (MY M (l.getD i.toNat default).key) l (IntKind.i64.wrap (i+1))=LP (eP Q0) N 0 Dk Bp 0 [] m {fr:=[(4,.ptr 0 0 0),(5,.ptr 1 0 0),(6,.ptr 3 0 0),(16,Ae l),(17,.int .i64 l.length),(18,.int .i64 (IntKind.i64.wrap (i+1))),(1004,.undef)],hp:=hTr p (GC M.1 (l.getD i.toNat default).key,Dy M.2 (l.getD i.toNat default).key (IntKind.i64.wrap (v+1)))}:=fun v hv=>by
  rw[hv];rfl
 unfold rg
 cases hd:decide (i<(l.length:Int))with
 | false=>rfl
 | true=>
  rw[cond_true,cond_true]
  cases hw:(l.getD i.toNat default).write with
  | false=>rfl
  | true=>
   rw[cond_true,cond_true]
   cases hm:BI (l.getD i.toNat default).key M.1 with
   | true=>rw[cond_true,hL (M.2 (l.getD i.toNat default).key) (by rw[hm,cond_true])];rfl
   | false=>rw[cond_false,hL 0 (by rw[hm,cond_false])];rfl
def NC(l:List Entry):List Txt:=(l.filter fun e=>e.write).map fun e=>e.key
theorem mP{l:List Entry}{i:Nat}(h:i<l.length):NC (l.take (i+1))=NC (l.take i)++bif(l.getD i default).write then [(l.getD i default).key]else []:=by
 unfold NC
 rw[List.take_add_one,List.filter_append,List.map_append,List.getElem?_eq_getElem h]
 have e:l.getD i default=l[i]:=by simp[List.getD,List.getElem?_eq_getElem h]
 rw[e]
 cases hw:l[i].write <;> simp[hw]
def Sj(p:Pump)(l:List Entry):Pump:={p with done:=p.done.filter fun x=>BI x.key (NC l)}
theorem ah4{ks:List Txt}(h:ks.length<=1000000)(x:Itm):(!pT (HS ks) x)=BI x.key ks:=by
 obtain⟨h1,h2⟩:=tV ks h
 unfold pT
 cases hm:BI x.key (HS ks).1 with
 | true=>
  have hk:=(Dz _ _).1 hm
  have:=h2 _ hk
  rw[cond_true,decide_eq_false (by omega),Bool.not_false]
  exact((Dz _ _).2 ((h1 _).1 hk)).symm
 | false=>
  rw[cond_false,Bool.not_true]
  cases hm2:BI x.key ks with
  | false=>rfl
  | true=>rw[(Dz _ _).2 ((h1 _).2 ((Dz _ _).1 hm2))]at hm;cases hm
abbrev PT:=Pump × Tail
def ePT(p:PT):List AV:=[.agg (Bg p.1),.agg (AK p.2)]
def tX(p:PT):Prop:=NA p.1/\p.2.log.length<=100000
theorem aa0(p:PT)(h:tX p):Aa PG Dk (ePT p) [] (.agg (Bg (Sj p.1 p.2.log))) []:=by
 obtain⟨h1,h2⟩:=h
 obtain⟨N,hN⟩:∃ N,N=200000:=⟨_,rfl⟩
 have:=Oz (n:=p.2.log.length) (fun i m=>iC N m p.1 (HS (NC (p.2.log.take i))) p.2.log (i:Nat)=some (.agg (Bg (Sj p.1 p.2.log)))) (fun m=>?_) (fun i m hi ih=>?_) 0 N (Nat.zero_le _) (by omega)
 ·exact BN ae9 ((aks N p.1 p.2).trans ((qCp h1).trans this))
 ·rw[tW,decide_eq_false (by omega),cond_false,List.take_of_length_le (Nat.le_refl _)]
  refine(BT (p.1.done,HS (NC p.2.log)) (sY _) h1.2 (.refl _) (.refl _)).trans ?_
  have hk:(NC p.2.log).length<=1000000:=by unfold NC;rw[List.length_map];have:=List.length_filter_le (fun e:Entry=>e.write) p.2.log;omega
  simp only[ah4 hk]
  rw[Bo (Nat.le_refl _)];rfl
 ·rw[tW,decide_eq_true (by omega),cond_true,Bi hi,Int.toNat_natCast,Bv (by omega)]
  rw[mP hi]at ih
  cases hw:(p.2.log.getD i default).write with
  | true=>rw[hw,cond_true,ZO]at ih;rw[cond_true];exact ih
  | false=>rw[hw,cond_false,List.append_nil]at ih;rw[cond_false];exact ih
def adl:Known:=.spec Dk (fun a=>(Df (Ay a 0),Eo (Ay a 1))) tX ePT (fun p=>.agg (Bg (Sj p.1 p.2.log)))
theorem aa1:adl.Ok PG:=Known.spec_ok aa0
def Gk:List Known:=[kCp,kDF]
theorem aku(N:Nat)(p:Pump)(m:Msg):Am (eP Gk) (N+1) Bh [AV.agg (Bg p),AV.agg (Ac m)] =
 gC (fun a=>Df (Ay a 0)) (NA) (fun p=>[AV.agg (Bg p)]) ([AV.agg (Bg p)]) fun y3=>
 bif decide ((↑p.out.length:Int)=0)then
  bif y3.done.length.ble y3.done.length&&true&&true then
   some (AV.tup [AV.agg (Bg y3),AV.bool false])
  else none
 else
  bif !decide (m.num=p.num)then
   bif y3.done.length.ble y3.done.length&&true&&true then
    some (AV.tup [AV.agg (Bg y3),AV.bool false])
   else none
  else
   bif !decide (m.code=0)then
    bif y3.done.length.ble y3.done.length&&true&&true then
     some (AV.tup [AV.agg [AV.int IntKind.i64 y3.num,AV.nils,Al y3.done],AV.bool true])
    else none
   else
    LP (eP Gk) (N) 0 (Bh) Bp 0 [] (N) ({fr:=[(2,AV.ptr 0 0 0),(4,AV.ptr 1 0 0),(6,AV.ptr 2 0 0),(7,AV.ptr 4 0 0),(37,Ae p.out),(38,AV.int IntKind.i64 (↑p.out.length:Int)),(39,AV.int IntKind.i64 0),(1005,AV.undef)],hp:=[BS.arr true 3 [Bg p],BS.arr true 3 [[AV.int IntKind.i64 0,AV.nils,AV.nils]],BS.arr true 3 [[AV.int IntKind.i64 y3.num,AV.nils,AV.sn 4 3 y3.done.length]],BS.seq true 4 y3.done.length fun i=>Af (y3.done.getD i default),BS.arr true 1 [[AV.mp 5]],BS.pmap true [] fun x=>AV.int IntKind.i64 0]}):=by kernel_rfl
def hFl(p:Pump)(M:MC):Heap:=[.arr true 3 [Bg p],.arr true 3 [[.int .i64 0,.nils,.nils]],.arr true 3 [[.int .i64 p.num,.nils,.sn 4 3 p.done.length]],Bc 4 Af default p.done,.arr true 1 [[.mp 5]],.pmap true M.1 fun k=>.int .i64 (M.2 k)]
def tY(p:Pump)(M:MC)(i:Int):St:={fr:=[(2,.ptr 0 0 0),(4,.ptr 1 0 0),(6,.ptr 2 0 0),(7,.ptr 4 0 0),(37,Ae p.out),(38,.int .i64 p.out.length),(39,.int .i64 i),(1005,.undef)],hp:=hFl p M}
theorem akv(N:Nat)(m:Nat)(p:Pump)(M:MC)(i:Int):LP (eP Gk) N 0 Bh Bp 0 [] (m+1) (tY p M i) =
 bif decide (i<(↑p.out.length:Int))then
  bif decide (0<=i)&&decide (i<(↑p.out.length:Int))then
   bif BI (p.out.getD i.toNat default).key M.fst then
    LP (eP Gk) (N) (0) (Bh) (Bp) 0 ([]) (m) ({fr:=[(2,AV.ptr 0 0 0),(4,AV.ptr 1 0 0),(6,AV.ptr 2 0 0),(7,AV.ptr 4 0 0),(37,Ae p.out),(38,AV.int IntKind.i64 (↑p.out.length:Int)),(39,AV.int IntKind.i64 (IntKind.i64.wrap (i+1))),(1005,AV.undef)],hp:=[BS.arr true 3 [Bg p],BS.arr true 3 [[AV.int IntKind.i64 0,AV.nils,AV.nils]],BS.arr true 3 [[AV.int IntKind.i64 p.num,AV.nils,AV.sn 4 3 p.done.length]],BS.seq true 4 p.done.length fun i=>Af (p.done.getD i default),BS.arr true 1 [[AV.mp 5]],BS.pmap true (bif BI (p.out.getD i.toNat default).key M.fst then M.fst else M.fst++[(p.out.getD i.toNat default).key]) fun x=>bif Ah x (p.out.getD i.toNat default).key then AV.int IntKind.i64 (IntKind.i64.wrap (M.snd (p.out.getD i.toNat default).key+1))else AV.int IntKind.i64 (M.snd x)]})
   else
    LP (eP Gk) (N) (0) (Bh) (Bp) 0 ([]) (m) ({fr:=[(2,AV.ptr 0 0 0),(4,AV.ptr 1 0 0),(6,AV.ptr 2 0 0),(7,AV.ptr 4 0 0),(37,Ae p.out),(38,AV.int IntKind.i64 (↑p.out.length:Int)),(39,AV.int IntKind.i64 (IntKind.i64.wrap (i+1))),(1005,AV.undef)],hp:=[BS.arr true 3 [Bg p],BS.arr true 3 [[AV.int IntKind.i64 0,AV.nils,AV.nils]],BS.arr true 3 [[AV.int IntKind.i64 p.num,AV.nils,AV.sn 4 3 p.done.length]],BS.seq true 4 p.done.length fun i=>Af (p.done.getD i default),BS.arr true 1 [[AV.mp 5]],BS.pmap true (bif BI (p.out.getD i.toNat default).key M.fst then M.fst else M.fst++[(p.out.getD i.toNat default).key]) fun x=>bif Ah x (p.out.getD i.toNat default).key then AV.int IntKind.i64 1 else AV.int IntKind.i64 (M.snd x)]})
  else none
 else
  BG (Zu) (QW) (E8) ([AV.sn 4 0 p.done.length,AV.fn (Fn.func ET) [] [AV.ptr 1 0 0]]) ([BS.seq true 4 p.done.length fun i=>Af (p.done.getD i default),BS.arr true 1 [[AV.mp 2]],BS.pmap true M.fst fun k=>AV.int IntKind.i64 (M.snd k)]) fun y4=>
  LP (eP Gk) (N) (0) (Bh) (Bp) 2 ([]) (N) ({fr:=[(4,AV.ptr 0 0 0),(6,AV.ptr 1 0 0),(56,Ae p.out),(57,AV.int IntKind.i64 (↑p.out.length:Int)),(58,AV.int IntKind.i64 0)],hp:=[BS.arr true 3 [[AV.int IntKind.i64 0,AV.nils,AV.nils]],BS.arr true 3 [[AV.int IntKind.i64 p.num,AV.nils,AV.sn 4 2 (List.filter (fun x=>!pF y4.snd x) y4.fst).length]],BS.seq true 4 (List.filter (fun x=>!pF y4.snd x) y4.fst).length fun i=>Af ((List.filter (fun x=>!pF y4.snd x) y4.fst).getD i default)]}):=by kernel_rfl
theorem tZ(N m:Nat)(p:Pump)(M:MC)(i:Int):LP (eP Gk) N 0 Bh Bp 0 [] (m+1) (tY p M i) =
 bif decide (i<(p.out.length:Int))then rg i p.out.length (LP (eP Gk) N 0 Bh Bp 0 [] m (tY p (MY M (p.out.getD i.toNat default).key) (IntKind.i64.wrap (i+1))))
 else BG Zu QW E8 (E8 (p.done,M)).1 (E8 (p.done,M)).2 fun y=>LP (eP Gk) N 0 Bh Bp 2 [] N {fr:=[(4,.ptr 0 0 0),(6,.ptr 1 0 0),(56,Ae p.out),(57,.int .i64 p.out.length),(58,.int .i64 0)],hp:=[.arr true 3 [[.int .i64 0,.nils,.nils]],.arr true 3 [[.int .i64 p.num,.nils,.sn 4 2 (y.1.filter fun x=>!pF y.2 x).length]],Bc 4 Af default (y.1.filter fun x=>!pF y.2 x)]}:=by
 refine(akv N m p M i).trans ?_
 have key:∀ (s:Txt) (v:Int),BS.pmap true (bif BI s M.1 then M.1 else M.1++[s]) (fun x=>bif Ah x s then AV.int IntKind.i64 v else AV.int IntKind.i64 (M.2 x))=.pmap true (GC M.1 s) fun k=>.int .i64 (Dy M.2 s v k):=fun s v=>by
  rw[Ti (fun n=>AV.int IntKind.i64 n)];rfl
 rw[key,key]
 have hL:∀ v:Int,v=(bif BI (p.out.getD i.toNat default).key M.1 then M.2 (p.out.getD i.toNat default).key else 0)->LP (eP Gk) N 0 Bh Bp 0 [] m (tY p (MY M (p.out.getD i.toNat default).key) (IntKind.i64.wrap (i+1)))=LP (eP Gk) N 0 Bh Bp 0 [] m {fr:=[(2,.ptr 0 0 0),(4,.ptr 1 0 0),(6,.ptr 2 0 0),(7,.ptr 4 0 0),(37,Ae p.out),(38,.int .i64 p.out.length),(39,.int .i64 (IntKind.i64.wrap (i+1))),(1005,.undef)],hp:=hFl p (GC M.1 (p.out.getD i.toNat default).key,Dy M.2 (p.out.getD i.toNat default).key (IntKind.i64.wrap (v+1)))}:=fun v hv=>by
  rw[hv];rfl
 unfold rg
 cases hd:decide (i<(p.out.length:Int))with
 | false=>rfl
 | true=>
  rw[cond_true,cond_true]
  cases hm:BI (p.out.getD i.toNat default).key M.1 with
  | true=>rw[cond_true,hL (M.2 (p.out.getD i.toNat default).key) (by rw[hm,cond_true])];rfl
  | false=>rw[cond_false,hL 0 (by rw[hm,cond_false])];rfl
def uA(num:Int)(out:List Entry)(l:List Itm)(i:Int):St:={fr:=[(4,.ptr 0 0 0),(6,.ptr 1 0 0),(56,Ae out),(57,.int .i64 out.length),(58,.int .i64 i)],hp:=[.arr true 3 [[.int .i64 0,.nils,.nils]],.arr true 3 [[.int .i64 num,.nils,.sn 4 2 l.length]],Bc 4 Af default l]}
theorem adm(N:Nat)(m:Nat)(num:Int)(out:List Entry)(l:List Itm)(i:Int):LP (eP Gk) N 0 Bh Bp 2 [] (m+1) (uA num out l i) =
 bif decide (i<(↑out.length:Int))then
  bif decide (0<=i)&&decide (i<(↑out.length:Int))then
   bif l.length.ble l.length then
    bif((l.length+1)*56).ble 140737488355328&&(l.length+1).ble 140737488355328 then
     LP (eP Gk) (N) (0) (Bh) (Bp) 2 ([]) (m) ({fr:=[(4,AV.ptr 0 0 0),(6,AV.ptr 1 0 0),(56,Ae out),(57,AV.int IntKind.i64 (↑out.length:Int)),(58,AV.int IntKind.i64 (IntKind.i64.wrap (i+1)))],hp:=[BS.arr true 3 [[AV.int IntKind.i64 0,AV.nils,AV.nils]],BS.arr true 3 [[AV.int IntKind.i64 num,AV.nils,AV.sn 4 2 (l.length+1)]],BS.seq true 4 (l.length+1) (Be l.length (fun i=>Af (l.getD i default)) (View.list [[AV.str (out.getD i.toNat default).key,AV.str [],AV.bool false,AV.cplx FloatKind.f64 (out.getD i.toNat default).ver.re (out.getD i.toNat default).ver.im]]))]})
    else none
   else none
  else none
 else
  bif l.length.ble l.length&&true&&true then
   some (AV.tup [AV.agg [AV.int IntKind.i64 num,AV.nils,AV.tr 4 l.length fun i=>Af (l.getD i default)],AV.bool true])
  else none:=by kernel_rfl
theorem ah5{ks:List Txt}(h:ks.length<=1000000)(x:Itm):pF (HS ks) x=BI x.key ks:=by
 obtain⟨h1,h2⟩:=tV ks h
 unfold pF
 cases hm:BI x.key (HS ks).1 with
 | true=>
  have hk:=(Dz _ _).1 hm
  have:=h2 _ hk
  rw[cond_true,decide_eq_true (by omega)]
  exact((Dz _ _).2 ((h1 _).1 hk)).symm
 | false=>
  rw[cond_false]
  cases hm2:BI x.key ks with
  | false=>rfl
  | true=>rw[(Dz _ _).2 ((h1 _).2 ((Dz _ _).1 hm2))]at hm;cases hm
def JD(e:Entry):Itm:=⟨e.key,[],false,e.ver⟩
def Uu(p:Pump):List Itm:=(p.done.filter fun x=>!BI x.key (p.out.map fun e=>e.key))++p.out.map JD
def Cy(p:Pump)(m:Msg):Pump × Bool:=
 bif decide ((p.out.length:Int)=0)then(p,false)else bif !decide (m.num=p.num)then(p,false)else bif !decide (m.code=0)then({p with out:=[]},true)else(⟨p.num,[],Uu p⟩,true)
abbrev PM:=Pump × Msg
def ePM(p:PM):List AV:=[.agg (Bg p.1),.agg (Ac p.2)]
def oFl(p:PM):AV:=.tup [.agg (Bg (Cy p.1 p.2).1),.bool (Cy p.1 p.2).2]
theorem PF:∀ k ∈ Gk,k.Ok PG:=ak ZN (ak ahE AL)
theorem ah6{num:Int}{out:List Entry}{done:List Itm}{N:Nat}(hl:done.length<=100000)(ho:out.length<=100000):∀ i m,i<=out.length->out.length - i<m->LP (eP Gk) N 0 Bh Bp 2 [] m (uA num out (done++(out.take i).map JD) (i:Nat))=some (.tup [.agg [.int .i64 num,.nils,Al (done++out.map JD)],.bool true]):=by
 refine Oz (n:=out.length) (fun i m=>LP (eP Gk) N 0 Bh Bp 2 [] m (uA num out (done++(out.take i).map JD) (i:Nat))=some (.tup [.agg [.int .i64 num,.nils,Al (done++out.map JD)],.bool true])) (fun m=>?_) (fun i m hi ih=>?_)
 ·rw[adm,decide_eq_false (by omega),cond_false,List.take_of_length_le (Nat.le_refl _),Bo (Nat.le_refl _)];rfl
 ·have hlen:(done++(out.take i).map JD).length<=200000:=by rw[List.length_append,List.length_map,List.length_take];omega
  rw[adm,decide_eq_true (by omega),cond_true,decide_eq_true (by omega),Bool.and_true,cond_true,Bo (Nat.le_refl _),cond_true,Bo (by omega),Bo (by omega),Bool.and_true,cond_true,Bv (by omega)]
  have e:out.take (i+1)=out.take i++[out.getD i default]:=by rw[List.take_add_one,List.getElem?_eq_getElem hi];simp[List.getD,List.getElem?_eq_getElem hi]
  rw[e,List.map_append,<- List.append_assoc]at ih
  have hs:=Vt 4 Af (default:Itm) (done++(out.take i).map JD) (JD (out.getD i default))
  have hb:∀ l:List Itm,uA num out (l++[JD (out.getD i default)]) ((i+1:Nat):Int)={fr:=[(4,.ptr 0 0 0),(6,.ptr 1 0 0),(56,Ae out),(57,.int .i64 out.length),(58,.int .i64 ((i+1:Nat):Int))],hp:=[.arr true 3 [[.int .i64 0,.nils,.nils]],.arr true 3 [[.int .i64 num,.nils,.sn 4 2 (l.length+1)]],Bc 4 Af default (l++[JD (out.getD i default)])]}:=fun l=>by
   unfold uA;rw[List.length_append];rfl
  have ih2:=ih
  simp only[List.map_cons,List.map_nil]at ih2
  rw[hb,<- hs]at ih2
  exact ih2
theorem dJ(p:PM)(h:NA p.1):Aa PG Bh (ePM p) [] (oFl p) []:=by
 obtain⟨N,hN⟩:∃ N,N=200000:=⟨_,rfl⟩
 have e:=aku N p.1 p.2
 have h1:=h.1
 have h2:=h.2
 rw[qCp h]at e
 simp only[Bo (Nat.le_refl p.1.done.length),Bool.and_self,cond_true]at e
 unfold oFl Cy
 cases ha:decide ((p.1.out.length:Int)=0)with
 | true=>rw[ha,cond_true]at e;exact BN PF e
 | false=>
  rw[ha,cond_false]at e
  cases hb:!decide (p.2.num=p.1.num)with
  | true=>rw[hb,cond_true]at e;exact BN PF e
  | false=>
   rw[hb,cond_false]at e
   cases hc:!decide (p.2.code=0)with
   | true=>
    rw[hc,cond_true]at e
    exact(BN PF e).res (.tup (.cons (.agg (.cons (.refl _) (.cons Dg (.cons (.refl _) .nil)))) (.cons (.refl _) .nil)))
   | false=>
    rw[hc,cond_false]at e
    have run:=Oz (n:=p.1.out.length) (fun i m=>LP (eP Gk) N 0 Bh Bp 0 [] m (tY p.1 (HS ((p.1.out.take i).map fun e=>e.key)) (i:Nat))=some (.tup [.agg [.int .i64 p.1.num,.nils,Al (Uu p.1)],.bool true])) (fun m=>?_) (fun i m hi ih=>?_) 0 N (Nat.zero_le _) (by omega)
    ·exact(BN PF (e.trans run)).res (.tup (.cons (.agg (.cons (.refl _) (.cons Dg (.cons (.refl _) .nil)))) (.cons (.refl _) .nil)))
    ·rw[tZ,decide_eq_false (by omega),cond_false,List.take_of_length_le (Nat.le_refl _)]
     refine(BT (pre:=QW) (p.1.done,HS (p.1.out.map fun e=>e.key)) (sV _) h2 (.refl _) (.refl _)).trans ?_
     simp only[ah5 (ks:=p.1.out.map fun e=>e.key) (by rw[List.length_map];omega)]
     have:=ah6 (num:=p.1.num) (out:=p.1.out) (done:=p.1.done.filter fun x=>!BI x.key (p.1.out.map fun e=>e.key)) (N:=N) (Nat.le_trans (List.length_filter_le _ _) h2) h1 0 N (Nat.zero_le _) (by omega)
     rw[List.take_zero,List.map_nil,List.append_nil]at this
     exact this
    ·rw[tZ,decide_eq_true (by omega),cond_true,Bi hi,Int.toNat_natCast,Bv (by omega)]
     have e:p.1.out.take (i+1)=p.1.out.take i++[p.1.out.getD i default]:=by rw[List.take_add_one,List.getElem?_eq_getElem hi];simp[List.getD,List.getElem?_eq_getElem hi]
     rw[e,List.map_append]at ih
     rw[<- ZO]
     exact ih
def ZP:Known:=.spec Bh (fun a=>(Df (Ay a 0),BJ (Ay a 1))) (fun p=>NA p.1) ePM oFl
theorem dK:ZP.Ok PG:=Known.spec_ok dJ
end Go.Hd
end
noncomputable section
open Go Go.AM Go.Md
namespace Go.Hd
open Go.Wk
def insR{X:Type}(c:X->X->Bool):List X->X->List X->List X
 | [],x,B=>x::B
 | a::A,x,B=>bif c x a then insR c A x (a::B)else(a::A).reverse++x::B
def PH{X:Type}(c:X->X->Bool)(P:List X)(x:X):List X:=insR c P.reverse x []
def Kj{X:Type}(c:X->X->Bool)(l:List X):List X:=l.foldl (PH c) []
theorem Tj{X:Type}(c:X->X->Bool):∀ (A:List X) (x:X) (B:List X),insR c A x B=insR c A x []++B
 | [],_,_=>rfl
 | a::A,x,B=>by
  unfold insR
  cases c x a with
  | true=>rw[cond_true,cond_true,Tj c A x (a::B),Tj c A x [a],List.append_assoc];rfl
  | false=>rw[cond_false,cond_false,List.append_assoc];rfl
theorem WY{X:Type}(c:X->X->Bool):∀ (A:List X) (x:X) (B:List X),(insR c A x B).Perm (x::A++B)
 | [],_,_=>.refl _
 | a::A,x,B=>by
  unfold insR
  cases c x a with
  | true=>
   rw[cond_true]
   refine(WY c A x (a::B)).trans ?_
   exact .cons x (List.perm_middle)
  | false=>
   rw[cond_false]
   refine List.perm_middle.trans (.cons x ?_)
   exact(List.reverse_perm _).append_right B
theorem ND{X:Type}(c:X->X->Bool)(P:List X)(x:X):(PH c P x).Perm (x::P):=by
 refine(WY c _ x []).trans (.cons x ?_)
 show(P.reverse++[]).Perm P
 rw[List.append_nil]
 exact List.reverse_perm _
theorem IY{X:Type}(c:X->X->Bool)(l:List X):(Kj c l).Perm l:=by
 have:∀ (l P:List X),(l.foldl (PH c) P).Perm (P++l):=by
  intro l
  induction l with
  | nil=>intro P;rw[List.append_nil];exact .refl _
  | cons x r ih=>
   intro P
   rw[List.foldl_cons]
   refine(ih _).trans ?_
   refine((ND c P x).append_right r).trans ?_
   exact List.perm_middle.symm
 exact this l []
theorem SV{X:Type}{c:X->X->Bool}(tr:∀ x y z,c x y=true->c y z=true->c x z=true):∀ (A:List X) (x:X) (B:List X),
  (A.reverse++B).Pairwise (fun a b=>c a b=true)->(∀ b ∈ B,c x b=true)->(∀ a ∈ A,c x a=true\/c a x=true)->(insR c A x B).Pairwise fun a b=>c a b=true
 | [],x,B,h,hB,_=>List.pairwise_cons.2 ⟨hB,h⟩
 | a::A,x,B,h,hB,hA=>by
  unfold insR
  cases hc:c x a with
  | true=>
   rw[cond_true]
   refine SV tr A x (a::B) (by rw[List.reverse_cons,List.append_assoc]at h;exact h) (fun b hb=>?_) fun b hb=>hA b (by simp[hb])
   rcases List.mem_cons.1 hb with rfl | hb
   ·exact hc
   ·exact hB b hb
  | false=>
   rw[cond_false]
   have ha:c a x=true:=(hA a (by simp)).resolve_left (by rw[hc];simp)
   obtain⟨h1,h2,h3⟩:=List.pairwise_append.1 h
   refine List.pairwise_append.2 ⟨h1,List.pairwise_cons.2 ⟨hB,h2⟩,fun y hy z hz=>?_⟩
   have hyx:c y x=true:=by
    rw[List.reverse_cons]at hy h1
    obtain⟨_,_,g3⟩:=List.pairwise_append.1 h1
    rcases List.mem_append.1 hy with hy | hy
    ·exact tr _ _ _ (g3 y hy a (by simp)) ha
    ·rw[List.mem_singleton.1 hy];exact ha
   rcases List.mem_cons.1 hz with rfl | hz
   ·exact hyx
   ·exact h3 y hy z hz
theorem Q9{X:Type}{c:X->X->Bool}(tr:∀ x y z,c x y=true->c y z=true->c x z=true)(l:List X)(hl:l.Pairwise fun a b=>c a b=true\/c b a=true):(Kj c l).Pairwise fun a b=>c a b=true:=by
 have:∀ (l P:List X),P.Pairwise (fun a b=>c a b=true)->(P++l).Pairwise (fun a b=>c a b=true\/c b a=true)->(l.foldl (PH c) P).Pairwise fun a b=>c a b=true:=by
  intro l
  induction l with
  | nil=>intro P h _;exact h
  | cons x r ih=>
   intro P h h2
   rw[List.foldl_cons]
   refine ih _ ?_ ?_
   ·unfold PH
    refine SV tr _ x [] (by rw[List.reverse_reverse,List.append_nil];exact h) (fun b hb=>by simp at hb) fun a ha=>?_
    exact((List.pairwise_append.1 h2).2.2 a (by simpa using ha) x (by simp)).symm
   ·have:(P++x::r).Perm (PH c P x++r):=List.perm_middle.trans ((ND c P x).symm.append_right r)
    exact this.pairwise h2 (fun h=>h.symm)
 exact this l [] .nil (by simpa using hl)
theorem aa2{X:Type}{c:X->X->Bool}(tr:∀ x y z,c x y=true->c y z=true->c x z=true)(ir:∀ x,c x x=false){l l':List X}(hp:l.Perm l')(hl:l.Pairwise fun a b=>c a b=true\/c b a=true):Kj c l=Kj c l':=by
 refine List.Perm.eq_of_pairwise (fun a b _ _ h1 h2=>?_) (Q9 tr l hl) (Q9 tr l' (hp.pairwise hl fun h=>h.symm)) ((IY c l).trans (hp.trans (IY c l').symm))
 have:=tr a b a h1 h2
 rw[ir]at this;cases this
end Go.Hd
end
noncomputable section
open Go Go.AM Go.Md
namespace Go.Hd
open Go.Wk
set_option maxRecDepth 100000
set_option maxHeartbeats 400000
def G5(l:List Known):Env:=BU [(Av,0,[0,1,2,3,8]),(Av,2,[0,1,2,3,8,9])] [(Av,5),(AY,5),(Lw,5),(T5,0),(CC,0)] [] l
abbrev Q1:=(Int × Int) × Tail
def uB(p:Q1):List AV:=[.int .i64 p.1.1,.int .i64 p.1.2,.tp (AK p.2) 0]
theorem c1_eq(p:Q1):Am (G5 [FD,PA]) 9 CC (uB p) =
 bif decide (0<=p.fst.fst)&&decide (p.fst.fst<(↑p.snd.log.length:Int))then
  bif decide (0<=p.fst.snd)&&decide (p.fst.snd<(↑p.snd.log.length:Int))then
   gC (DB) (V2) (DA) ([AV.cplx FloatKind.f64 (p.snd.log.getD p.fst.fst.toNat default).ver.re (p.snd.log.getD p.fst.fst.toNat default).ver.im,AV.cplx FloatKind.f64 (p.snd.log.getD p.fst.snd.toNat default).ver.re (p.snd.log.getD p.fst.snd.toNat default).ver.im]) fun y0=>
   bif AH y0.fst y0.snd then
    some (AV.int IntKind.i64 (-1))
   else
    gC (DB) (V2) (DA) ([AV.cplx FloatKind.f64 (p.snd.log.getD p.fst.snd.toNat default).ver.re (p.snd.log.getD p.fst.snd.toNat default).ver.im,AV.cplx FloatKind.f64 (p.snd.log.getD p.fst.fst.toNat default).ver.re (p.snd.log.getD p.fst.fst.toNat default).ver.im]) fun y1=>
    bif AH y1.fst y1.snd then
     some (AV.int IntKind.i64 1)
    else
     gC (fun a=>(Aq a 0,Aq a 1)) (fun x=>True) (Ly) ([AV.int IntKind.i64 p.fst.fst,AV.int IntKind.i64 p.fst.snd]) fun y2=>
     some (AV.int IntKind.i64 (Dx y2.fst y2.snd))
  else none
 else none:=by kernel_rfl
def al6(a:List AV):List AV:=match a.getD 2 .nils with
 | .tp c _=>c
 | _=>[]
def dC1(a:List AV):Q1:=((Aq a 0,Aq a 1),Eo (al6 a))
def VT(t:Tail):Prop:=t.log.length<=100000 /\ ∀ e ∈ t.log,At e.ver
def iD(p:Q1):Prop:=VT p.2/\0<=p.1.1/\p.1.1<p.2.log.length/\0<=p.1.2/\p.1.2<p.2.log.length
def Ra(t:Tail)(a b:Int):Int:=bif AH (t.log.getD a.toNat default).ver (t.log.getD b.toNat default).ver then -1 else bif AH (t.log.getD b.toNat default).ver (t.log.getD a.toNat default).ver then 1 else Dx a b
def kC1:Known:=.spec CC dC1 iD uB fun p=>.int .i64 (Ra p.2 p.1.1 p.1.2)
def fS:AV:=.fn (.func CC) [] [.ptr 1 0 0]
def hS(t:Tail):Heap:=[.arr true 3 [AK t]]
def eI(i:Int):List AV:=[.int .i64 i]
def SS0(n:Nat)(F:Nat->Int)(t:Tail)(i:Int):St:={fr:=[(0,.sn 1 0 n),(1,.int .i64 0),(2,.int .i64 n),(3,fS),(8,.int .i64 i)],hp:=.seq true 1 n (fun i=>eI (F i))::hS t}
def SS2(n:Nat)(F:Nat->Int)(t:Tail)(i j:Int):St:={fr:=[(0,.sn 1 0 n),(1,.int .i64 0),(2,.int .i64 n),(3,fS),(8,.int .i64 i),(9,.int .i64 j)],hp:=.seq true 1 n (fun i=>eI (F i))::hS t}
theorem akw(N:Nat)(n:Nat)(F:Nat->Int)(t:Tail):Bz 2 (G5 [kC1]) (N+1) Av [AV.sn 1 0 n,AV.int IntKind.i64 0,AV.int IntKind.i64 (↑n:Int),fS] ((BS.seq true 1 n fun i=>eI (F i))::hS t) =
 LP (G5 [kC1]) (N) (2) (Av) (Ct (2) (2)) 0 [] (N) ({fr:=[(0,AV.sn 1 0 n),(1,AV.int IntKind.i64 0),(2,AV.int IntKind.i64 (↑n:Int)),(3,AV.fn (Fn.func CC) [] [AV.ptr 1 0 0]),(8,AV.int IntKind.i64 1)],hp:=[BS.seq true 1 n fun i=>[AV.int IntKind.i64 (F i)],BS.arr true 3 [AK t]]}):=by kernel_rfl
theorem mQ(N:Nat)(m:Nat)(n:Nat)(F:Nat->Int)(t:Tail)(i:Int):LP (G5 [kC1]) N 2 Av (Ct 2 2) 0 [] (m+1) (SS0 n F t i) =
 bif decide (i<(↑n:Int))then
  LP (G5 [kC1]) (N) (2) (Av) (Ct 2 2) 2 ([m]) (N) ({fr:=[(0,AV.sn 1 0 n),(1,AV.int IntKind.i64 0),(2,AV.int IntKind.i64 (↑n:Int)),(3,AV.fn (Fn.func CC) [] [AV.ptr 1 0 0]),(8,AV.int IntKind.i64 i),(9,AV.int IntKind.i64 i)],hp:=[BS.seq true 1 n fun i=>[AV.int IntKind.i64 (F i)],BS.arr true 3 [AK t]]})
 else
  some ((AV.tup [],[BS.seq true 1 n fun i=>[AV.int IntKind.i64 (F i)],BS.arr true 3 [AK t]])):=by kernel_rfl
theorem adn(N:Nat)(m:Nat)(M:Nat)(n:Nat)(F:Nat->Int)(t:Tail)(i:Int)(j:Int):LP (G5 [kC1]) N 2 Av (Ct 2 2) 2 [M] (m+1) (SS2 n F t i j) =
 bif decide (0<j)then
  bif decide (0<=j)&&decide (j<(↑n:Int))then
   bif j.toNat.blt n then
    bif decide (0<=IntKind.i64.wrap (j - 1))&&decide (IntKind.i64.wrap (j - 1)<(↑n:Int))then
     bif(IntKind.i64.wrap (j - 1)).toNat.blt n then
      gC (dC1) (iD) (uB) ([AV.int IntKind.i64 (F j.toNat),AV.int IntKind.i64 (F (IntKind.i64.wrap (j - 1)).toNat),AV.tp (AK t) 0]) fun y3=>
      bif decide (Ra y3.snd y3.fst.fst y3.fst.snd<0)then
       bif decide (0<=IntKind.i64.wrap (j - 1))&&decide (IntKind.i64.wrap (j - 1)<(↑n:Int))then
        bif(IntKind.i64.wrap (j - 1)).toNat.blt n then
         bif decide (0<=j)&&decide (j<(↑n:Int))then
          bif j.toNat.blt n then
           bif decide (0<=j)&&decide (j<(↑n:Int))then
            bif j.toNat.blt n&&true then
             bif decide (0<=IntKind.i64.wrap (j - 1))&&decide (IntKind.i64.wrap (j - 1)<(↑n:Int))then
              bif(IntKind.i64.wrap (j - 1)).toNat.blt n&&Nat.ble 1 (bif(IntKind.i64.wrap (j - 1)).toNat.beq j.toNat then [AV.int IntKind.i64 (F (IntKind.i64.wrap (j - 1)).toNat)]else [AV.int IntKind.i64 (F (IntKind.i64.wrap (j - 1)).toNat)]).length then
               LP (G5 [kC1]) (N) (2) (Av) (Ct 2 2) 2 ([M]) (m) ({fr:=[(0,AV.sn 1 0 n),(1,AV.int IntKind.i64 0),(2,AV.int IntKind.i64 (↑n:Int)),(3,AV.fn (Fn.func CC) [] [AV.ptr 1 0 0]),(8,AV.int IntKind.i64 i),(9,AV.int IntKind.i64 (IntKind.i64.wrap (j - 1)))],hp:=[BS.seq true 1 n fun i'=>bif i'.beq (IntKind.i64.wrap (j - 1)).toNat then AV.int IntKind.i64 (F j.toNat)::List.drop 1 (bif(IntKind.i64.wrap (j - 1)).toNat.beq j.toNat then [AV.int IntKind.i64 (F (IntKind.i64.wrap (j - 1)).toNat)]else [AV.int IntKind.i64 (F (IntKind.i64.wrap (j - 1)).toNat)])else bif i'.beq j.toNat then [AV.int IntKind.i64 (F (IntKind.i64.wrap (j - 1)).toNat)]else [AV.int IntKind.i64 (F i')],BS.arr true 3 [AK t]]})
              else none
             else none
            else none
           else none
          else none
         else none
        else none
       else none
      else
       LP (G5 [kC1]) (N) (2) (Av) (Ct 2 2) 0 [] (M) ({fr:=[(0,AV.sn 1 0 n),(1,AV.int IntKind.i64 0),(2,AV.int IntKind.i64 (↑n:Int)),(3,AV.fn (Fn.func CC) [] [AV.ptr 1 0 0]),(8,AV.int IntKind.i64 (IntKind.i64.wrap (i+1)))],hp:=[BS.seq true 1 n fun i=>[AV.int IntKind.i64 (F i)],BS.arr true 3 [AK t]]})
     else none
    else none
   else none
  else none
 else
  LP (G5 [kC1]) (N) (2) (Av) (Ct 2 2) 0 [] (M) ({fr:=[(0,AV.sn 1 0 n),(1,AV.int IntKind.i64 0),(2,AV.int IntKind.i64 (↑n:Int)),(3,AV.fn (Fn.func CC) [] [AV.ptr 1 0 0]),(8,AV.int IntKind.i64 (IntKind.i64.wrap (i+1)))],hp:=[BS.seq true 1 n fun i=>[AV.int IntKind.i64 (F i)],BS.arr true 3 [AK t]]}):=by kernel_rfl
theorem getD_mem{X:Type}{l:List X}{z:X}{i:Nat}(h:i<l.length):l.getD i z ∈ l:=by
 rw[List.getD,List.getElem?_eq_getElem h];exact List.getElem_mem h
theorem c1_con(p:Q1)(h:iD p):Aa PG CC (uB p) [] (.int .i64 (Ra p.2 p.1.1 p.1.2)) []:=by
 refine BN (ak DZ (ak JR AL)) ((c1_eq p).trans ?_)
 obtain⟨⟨-,hv⟩,h1,h2,h3,h4⟩:=h
 have va:=hv _ (getD_mem (z:=default) (show p.1.1.toNat<p.2.log.length by omega))
 have vb:=hv _ (getD_mem (z:=default) (show p.1.2.toNat<p.2.log.length by omega))
 rw[decide_eq_true h1,decide_eq_true h2,decide_eq_true h3,decide_eq_true h4,Jp va vb,Jp vb va,ZH]
 unfold Ra
 dsimp only [Bool.and_true,cond_true]
 cases AH (p.2.log.getD p.1.1.toNat default).ver (p.2.log.getD p.1.2.toNat default).ver <;> cases AH (p.2.log.getD p.1.2.toNat default).ver (p.2.log.getD p.1.1.toNat default).ver <;> rfl
theorem kC1_ok:kC1.Ok PG:=Known.spec_ok c1_con
theorem qC1{R:Type}{a b:Int}{t:Tail}{k:Q1->Option R}(h:iD ((a,b),t)):gC dC1 iD uB [.int .i64 a,.int .i64 b,.tp (AK t) 0] k=k ((a,b),t):=Aw ((a,b),t) (Prod.ext rfl (Ec t)) h (.refl _)
def LS0(N m n:Nat)(F:Nat->Int)(t:Tail)(i:Int):Option (AV × Heap):=LP (G5 [kC1]) N 2 Av (Ct 2 2) 0 [] m (SS0 n F t i)
def LS2(N m M n:Nat)(F:Nat->Int)(t:Tail)(i j:Int):Option (AV × Heap):=LP (G5 [kC1]) N 2 Av (Ct 2 2) 2 [M] m (SS2 n F t i j)
def uC(F:Nat->Int)(k:Nat):Nat->Int:=fun i=>bif i.beq k then F (k+1)else bif i.beq (k+1)then F k else F i
theorem afa(N m M n:Nat)(F:Nat->Int)(t:Tail)(i:Int){k:Nat}(hn:n<=100000)(hk:k+1<n)(h:iD ((F (k+1),F k),t)) :
  LS2 N (m+1) M n F t i ((k+1:Nat):Int)=bif decide (Ra t (F (k+1)) (F k)<0)then LS2 N m M n (uC F k) t i (k:Int)else LS0 N M n F t (IntKind.i64.wrap (i+1)):=by
 have e:=adn N m M n F t i ((k+1:Nat):Int)
 have hw:IntKind.i64.wrap (((k+1:Nat):Int) - 1)=(k:Int):=(wrap64 (by omega)).trans (by omega)
 rw[hw,Int.toNat_natCast,Int.toNat_natCast,AB hk,AB (show k<n by omega),decide_eq_true (show(0:Int)<((k+1:Nat):Int) by omega),decide_eq_true (show(0:Int)<=((k+1:Nat):Int) by omega),decide_eq_true (show((k+1:Nat):Int)<(n:Int) by omega),
  decide_eq_true (show(0:Int)<=(k:Int) by omega),decide_eq_true (show(k:Int)<(n:Int) by omega),AM.beq_false (show k ≠ k+1 by omega),qC1 h]at e
 refine e.trans ?_
 have hF:(fun i'=>bif Nat.beq i' k then [AV.int IntKind.i64 (F (k+1))]else bif Nat.beq i' (k+1)then [AV.int IntKind.i64 (F k)]else [AV.int IntKind.i64 (F i')])=fun i'=>eI (uC F k i'):=by
  funext i'
  unfold uC
  cases Nat.beq i' k <;> cases Nat.beq i' (k+1) <;> rfl
 cases hc:decide (Ra t (F (k+1)) (F k)<0)with
 | false=>rfl
 | true=>
  show LP (G5 [kC1]) N 2 Av (Ct 2 2) 2 [M] m {fr:=[(0,AV.sn 1 0 n),(1,AV.int IntKind.i64 0),(2,AV.int IntKind.i64 n),(3,fS),(8,AV.int IntKind.i64 i),(9,AV.int IntKind.i64 k)],hp:=[BS.seq true 1 n fun i'=>bif Nat.beq i' k then [AV.int IntKind.i64 (F (k+1))]else bif Nat.beq i' (k+1)then [AV.int IntKind.i64 (F k)]else [AV.int IntKind.i64 (F i')],BS.arr true 3 [AK t]]}=_
  rw[hF];rfl
theorem afb(N m M n:Nat)(F:Nat->Int)(t:Tail)(i:Int):LS2 N (m+1) M n F t i 0=LS0 N M n F t (IntKind.i64.wrap (i+1)):=(adn N m M n F t i 0).trans rfl
def ZQ(t:Tail)(l:List Int):Prop:=∀ a ∈ l,0<=a/\a<t.log.length
def I6(t:Tail)(a b:Int):Bool:=decide (Ra t a b<0)
theorem afc(A B:List Int)(a x:Int):uC (fun i=>(A++a::x::B).getD i 0) A.length=fun i=>(A++x::a::B).getD i 0:=by
 funext i
 unfold uC
 have g:∀ (u v:Int) (i:Nat),(A++u::v::B).getD i 0=if i<A.length then A.getD i 0 else if i=A.length then u else if i=A.length+1 then v else B.getD (i - A.length - 2) 0:=by
  intro u v i
  simp only[List.getD]
  by_cases h:i<A.length
  ·rw[if_pos h,List.getElem?_append_left h]
  ·rw[if_neg h,List.getElem?_append_right (by omega)]
   by_cases h1:i=A.length
   ·rw[if_pos h1,h1,Nat.sub_self];rfl
   ·rw[if_neg h1]
    by_cases h2:i=A.length+1
    ·rw[if_pos h2,h2,show A.length+1 - A.length=1 by omega];rfl
    ·rw[if_neg h2,show i - A.length=(i - A.length - 2)+2 by omega];rfl
 dsimp only
 rw[g,g,g,g]
 by_cases h1:i=A.length
 ·rw[AM.beq_true h1];simp[h1];intro h;omega
 ·rw[AM.beq_false h1,cond_false]
  by_cases h2:i=A.length+1
  ·rw[AM.beq_true h2];simp[h2];intro h;omega
  ·rw[AM.beq_false h2,cond_false,if_neg h1,if_neg h2,if_neg h1,if_neg h2]
theorem afd{t:Tail}(hv:VT t)(N M:Nat)(i:Int):∀ (A:List Int) (x:Int) (B:List Int) (m:Nat),A.length<m->A.length+B.length<100000->ZQ t A->ZQ t [x] ->
  LS2 N m M (A.length+1+B.length) (fun i=>(A.reverse++x::B).getD i 0) t i (A.length:Nat)=LS0 N M (A.length+1+B.length) (fun i=>(insR (I6 t) A x B).getD i 0) t (IntKind.i64.wrap (i+1)):=by
 intro A
 induction A with
 | nil=>
  intro x B m hm _ _ _
  obtain⟨m,rfl⟩:∃ k,m=k+1:=⟨m - 1,by simp at hm;omega⟩
  exact afb N m M _ _ t i
 | cons a A ih=>
  intro x B m hm hn hA hx
  obtain⟨m,rfl⟩:∃ k,m=k+1:=⟨m - 1,by omega⟩
  rw[List.length_cons]at hm hn ⊢
  have ea:((a::A).reverse++x::B).getD A.length 0=a:=by
   simp only[List.getD]
   rw[List.reverse_cons,List.append_assoc,List.getElem?_append_right (by simp),List.length_reverse,Nat.sub_self];rfl
  have ex:((a::A).reverse++x::B).getD (A.length+1) 0=x:=by
   simp only[List.getD]
   rw[List.getElem?_append_right (by simp),List.length_reverse,List.length_cons,Nat.sub_self];rfl
  have pa:=hA a (by simp)
  have px:=hx x (by simp)
  rw[afa N m M _ _ t i (k:=A.length) (by omega) (by omega) (by rw[ea,ex];exact⟨hv,px.1,px.2,pa.1,pa.2⟩),ea,ex]
  unfold insR
  show(bif I6 t x a then _ else _)=_
  cases hc:I6 t x a with
  | false=>rfl
  | true=>
   rw[cond_true,cond_true,List.reverse_cons,List.append_assoc]
   have:=afc A.reverse B a x
   rw[List.length_reverse]at this
   rw[show [a]++x::B=a::x::B from rfl,this]
   have e:=ih x (a::B) m (by omega) (by rw[List.length_cons];omega) (fun y hy=>hA y (by simp[hy])) hx
   rw[List.length_cons,show A.length+1+(B.length+1)=A.length+1+1+B.length by omega]at e
   exact e
theorem ZR{X:Type}(c:X->X->Bool)(P:List X)(x:X):(PH c P x).length=P.length+1:=(ND c P x).length_eq
theorem afe{t:Tail}(hv:VT t)(N:Nat):∀ (R P:List Int) (m:Nat),R.length<m->P.length+R.length<N->N<=100000->ZQ t (P++R) ->
  LS0 N m (P.length+R.length) (fun i=>(P++R).getD i 0) t (P.length:Nat)=some (.tup [],Bc 1 eI 0 (R.foldl (PH (I6 t)) P)::hS t):=by
 intro R
 induction R with
 | nil=>
  intro P m hm _ _ _
  obtain⟨m,rfl⟩:∃ k,m=k+1:=⟨m - 1,by simp at hm;omega⟩
  rw[List.append_nil]
  refine(mQ N m _ _ t _).trans ?_
  rw[decide_eq_false (by simp)]
  rfl
 | cons x R ih=>
  intro P m hm hn hN hP
  obtain⟨m,rfl⟩:∃ k,m=k+1:=⟨m - 1,by omega⟩
  rw[List.length_cons]at hm hn ⊢
  have e:=mQ N m (P.length+(R.length+1)) (fun i=>(P++x::R).getD i 0) t (P.length:Nat)
  rw[decide_eq_true (by omega),cond_true]at e
  refine e.trans ?_
  have e2:=afd hv N m (P.length:Nat) P.reverse x R N (by simp;omega) (by simp;omega) (fun a ha=>hP a (by simp at ha ⊢;exact Or.inl ha)) (fun a ha=>hP a (by simp at ha ⊢;exact Or.inr (Or.inl ha)))
  rw[List.length_reverse,List.reverse_reverse,show P.length+1+R.length=P.length+(R.length+1) by omega,Bv (by omega),Tj]at e2
  refine e2.trans ?_
  have e3:=ih (PH (I6 t) P x) m (by omega) (by rw[ZR];omega) hN (fun a ha=>?_)
  ·rw[ZR,show P.length+1+R.length=P.length+(R.length+1) by omega]at e3
   exact e3
  ·rcases List.mem_append.1 ha with ha | ha
   ·have:=(ND (I6 t) P x).mem_iff.1 ha
    rcases List.mem_cons.1 this with rfl | h
    ·exact hP _ (by simp)
    ·exact hP _ (by simp[h])
   ·exact hP _ (by simp[ha])
abbrev LT:=List Int × Tail
def Kk(p:LT):List AV × Heap:=([.sn 1 0 p.1.length,.int .i64 0,.int .i64 p.1.length,fS],Bc 1 eI 0 p.1::hS p.2)
def eLV(p:LT):List AV × Heap:=([.sn 1 0 p.1.length,fS],Bc 1 eI 0 p.1::hS p.2)
def Kl(_:List AV)(h:Heap):LT:=(Iz (fun c=>Aq c 0) (Ab h 0),Eo (OG (Ab h 1)))
theorem ah7(a:List AV)(p:LT):Kl a (Kk p).2=p:=Prod.ext (Hh (sz:=1) (e:=eI) (z:=0) (d:=fun c=>Aq c 0) (fun _=>rfl) p.1) (Ec p.2)
def JS(p:LT):Prop:=p.1.length<=12/\VT p.2/\ZQ p.2 p.1
def H0(p:LT):AV × Heap:=(.tup [],Bc 1 eI 0 (Kj (I6 p.2) p.1)::hS p.2)
theorem aff(p:LT)(h:JS p):Aa PG Av (Kk p).1 (Kk p).2 (H0 p).1 (H0 p).2/\(Kk p).2.length<=(H0 p).2.length:=by
 obtain⟨h1,h2,h3⟩:=h
 refine conC (ak kC1_ok AL) (c:=2) (n:=100+1) (Nat.le_refl 2) ((akw 100 p.1.length (fun i=>p.1.getD i 0) p.2).trans ?_)
 match hp:p.1,h1,h3 with
 | [],_,_=>
  refine(mQ 100 99 0 _ p.2 1).trans ?_
  rw[decide_eq_false (by omega)]
  unfold H0
  rw[hp];rfl
 | x::R,h1,h3=>
  have:=afe h2 100 R [x] 100 (by simp at h1;omega) (by simp at h1 ⊢;omega) (by omega) h3
  unfold H0
  rw[hp]
  rw[List.length_singleton,Nat.add_comm]at this
  exact this
def JE:Known:=.specG Av Kl JS Kk H0
theorem afg:JE.Ok PG:=Known.specG_ok aff
end Go.Hd
end
noncomputable section
open Go Go.AM Go.Md
namespace Go.Hd
open Go.Wk
set_option maxRecDepth 100000
set_option maxHeartbeats 4000000
theorem al7(F:Nat->Int)(t:Tail):Bz 2 (G5 [JE]) 30 AY [AV.sn 1 0 0,fS] ((BS.seq true 1 0 fun i=>eI (F i))::hS t)=BG Kl JS Kk [.sn 1 0 0,.int .i64 0,.int .i64 (0:Nat),fS] ((BS.seq true 1 0 fun i=>eI (F i))::hS t) fun y=>some (H0 y):=by kernel_rfl
theorem al8(F:Nat->Int)(t:Tail):Bz 2 (G5 [JE]) 30 AY [AV.sn 1 0 1,fS] ((BS.seq true 1 1 fun i=>eI (F i))::hS t)=BG Kl JS Kk [.sn 1 0 1,.int .i64 0,.int .i64 (1:Nat),fS] ((BS.seq true 1 1 fun i=>eI (F i))::hS t) fun y=>some (H0 y):=by kernel_rfl
theorem al9(F:Nat->Int)(t:Tail):Bz 2 (G5 [JE]) 30 AY [AV.sn 1 0 2,fS] ((BS.seq true 1 2 fun i=>eI (F i))::hS t)=BG Kl JS Kk [.sn 1 0 2,.int .i64 0,.int .i64 (2:Nat),fS] ((BS.seq true 1 2 fun i=>eI (F i))::hS t) fun y=>some (H0 y):=by kernel_rfl
theorem ama(F:Nat->Int)(t:Tail):Bz 2 (G5 [JE]) 30 AY [AV.sn 1 0 3,fS] ((BS.seq true 1 3 fun i=>eI (F i))::hS t)=BG Kl JS Kk [.sn 1 0 3,.int .i64 0,.int .i64 (3:Nat),fS] ((BS.seq true 1 3 fun i=>eI (F i))::hS t) fun y=>some (H0 y):=by kernel_rfl
theorem amb(F:Nat->Int)(t:Tail):Bz 2 (G5 [JE]) 30 AY [AV.sn 1 0 4,fS] ((BS.seq true 1 4 fun i=>eI (F i))::hS t)=BG Kl JS Kk [.sn 1 0 4,.int .i64 0,.int .i64 (4:Nat),fS] ((BS.seq true 1 4 fun i=>eI (F i))::hS t) fun y=>some (H0 y):=by kernel_rfl
theorem amc(F:Nat->Int)(t:Tail):Bz 2 (G5 [JE]) 30 AY [AV.sn 1 0 5,fS] ((BS.seq true 1 5 fun i=>eI (F i))::hS t)=BG Kl JS Kk [.sn 1 0 5,.int .i64 0,.int .i64 (5:Nat),fS] ((BS.seq true 1 5 fun i=>eI (F i))::hS t) fun y=>some (H0 y):=by kernel_rfl
theorem amd(F:Nat->Int)(t:Tail):Bz 2 (G5 [JE]) 30 AY [AV.sn 1 0 6,fS] ((BS.seq true 1 6 fun i=>eI (F i))::hS t)=BG Kl JS Kk [.sn 1 0 6,.int .i64 0,.int .i64 (6:Nat),fS] ((BS.seq true 1 6 fun i=>eI (F i))::hS t) fun y=>some (H0 y):=by kernel_rfl
theorem ame(F:Nat->Int)(t:Tail):Bz 2 (G5 [JE]) 30 AY [AV.sn 1 0 7,fS] ((BS.seq true 1 7 fun i=>eI (F i))::hS t)=BG Kl JS Kk [.sn 1 0 7,.int .i64 0,.int .i64 (7:Nat),fS] ((BS.seq true 1 7 fun i=>eI (F i))::hS t) fun y=>some (H0 y):=by kernel_rfl
theorem amf(F:Nat->Int)(t:Tail):Bz 2 (G5 [JE]) 30 AY [AV.sn 1 0 8,fS] ((BS.seq true 1 8 fun i=>eI (F i))::hS t)=BG Kl JS Kk [.sn 1 0 8,.int .i64 0,.int .i64 (8:Nat),fS] ((BS.seq true 1 8 fun i=>eI (F i))::hS t) fun y=>some (H0 y):=by kernel_rfl
theorem amg(F:Nat->Int)(t:Tail):Bz 2 (G5 [JE]) 30 AY [AV.sn 1 0 9,fS] ((BS.seq true 1 9 fun i=>eI (F i))::hS t)=BG Kl JS Kk [.sn 1 0 9,.int .i64 0,.int .i64 (9:Nat),fS] ((BS.seq true 1 9 fun i=>eI (F i))::hS t) fun y=>some (H0 y):=by kernel_rfl
theorem akx(F:Nat->Int)(t:Tail):Bz 2 (G5 [JE]) 30 AY [AV.sn 1 0 10,fS] ((BS.seq true 1 10 fun i=>eI (F i))::hS t)=BG Kl JS Kk [.sn 1 0 10,.int .i64 0,.int .i64 (10:Nat),fS] ((BS.seq true 1 10 fun i=>eI (F i))::hS t) fun y=>some (H0 y):=by kernel_rfl
theorem aky(F:Nat->Int)(t:Tail):Bz 2 (G5 [JE]) 30 AY [AV.sn 1 0 11,fS] ((BS.seq true 1 11 fun i=>eI (F i))::hS t)=BG Kl JS Kk [.sn 1 0 11,.int .i64 0,.int .i64 (11:Nat),fS] ((BS.seq true 1 11 fun i=>eI (F i))::hS t) fun y=>some (H0 y):=by kernel_rfl
theorem akz(F:Nat->Int)(t:Tail):Bz 2 (G5 [JE]) 30 AY [AV.sn 1 0 12,fS] ((BS.seq true 1 12 fun i=>eI (F i))::hS t)=BG Kl JS Kk [.sn 1 0 12,.int .i64 0,.int .i64 (12:Nat),fS] ((BS.seq true 1 12 fun i=>eI (F i))::hS t) fun y=>some (H0 y):=by kernel_rfl
theorem ah8:∀ n,n<=12 -> ∀ (F:Nat->Int) (t:Tail),Bz 2 (G5 [JE]) 30 AY [AV.sn 1 0 n,fS] ((BS.seq true 1 n fun i=>eI (F i))::hS t)=BG Kl JS Kk [.sn 1 0 n,.int .i64 0,.int .i64 n,fS] ((BS.seq true 1 n fun i=>eI (F i))::hS t) fun y=>some (H0 y)
 | 0,_=>al7
 | 1,_=>al8
 | 2,_=>al9
 | 3,_=>ama
 | 4,_=>amb
 | 5,_=>amc
 | 6,_=>amd
 | 7,_=>ame
 | 8,_=>amf
 | 9,_=>amg
 | 10,_=>akx
 | 11,_=>aky
 | 12,_=>akz
 | n+13,h=>absurd h (by omega)
theorem aa3(p:LT)(h:JS p):Aa PG AY (eLV p).1 (eLV p).2 (H0 p).1 (H0 p).2/\(eLV p).2.length<=(H0 p).2.length:=by
 refine conC (ak afg AL) (c:=2) (n:=30) (Nat.le_refl 2) ((ah8 p.1.length h.1 (fun i=>p.1.getD i 0) p.2).trans ?_)
 exact BT p (ah7 _ p) h (.refl _) (.refl _)
def ado:Known:=.specG AY Kl JS eLV H0
theorem aa4:ado.Ok PG:=Known.specG_ok aa3
end Go.Hd
end
