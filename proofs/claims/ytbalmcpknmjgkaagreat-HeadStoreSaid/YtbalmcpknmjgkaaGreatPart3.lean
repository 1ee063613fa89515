/- Part 3 of the texts that the proof needs: the abstract machine, plain laws, contracts of the program's functions. No statement is claimed here. -/
import Derived.Test.YtbalmcpknmjgkaaGreatPart2
import Derived.Test.YtbalmcpknmjgkaaGreatProg
import Derived.KernelRfl
set_option linter.unusedVariables false
set_option linter.unusedSimpArgs false
noncomputable section
open Go Go.AM Go.Md Go.Fl
namespace Go.Wk
def R5(r:Rep)(m:Member):Msg:={P4 r m 11 with gen:=r.view.gen,chain:=r.view.chain,image:=⟨r.tail.floor,r.tail.last,r.view.gen,r.tail.log,r.seen⟩}
def T1(r:Rep)(m:Member):Msg:={P4 r m 13 with floor:=r.tail.floor,entries:=r.tail.log.filter fun e=>AH r.got e.ver}
def QI(r:Rep):List Member->List Bool->List Msg
 | m::ms,s::ss=>bif s then QI r ms ss else R5 r m::QI r ms ss
 | _,_=>[]
def qK(r:Rep):List Msg:=match FF r.view.chain r.self 1 with
 | none=>[]
 | some m=>[T1 r m]
def AD(r:Rep):List Msg:=bif MM r then QI r r.view.chain r.synced else bif Jg r then qK r++XN r else []
def putP:List Seen->Seen->List Seen
 | [],s=>[s]
 | a::l,s=>bif decide (a.num<s.num)then s::l else a::l
def pushR(r:Rep)(e:Entry):Rep:={r with tail:=⟨r.tail.floor,e.ver,r.tail.log++[e]⟩,seen:=putP r.seen (Hp e)}
def pushP(r:Rep)(e:Entry):Rep × Bool:=bif AH r.tail.last e.ver then(pushR r e,true)else(r,false)
def XO(t:Tail)(v:Ver):Tail:=⟨BB t.floor v,BB t.last v,t.log.filter fun e=>AH v e.ver⟩
def Jp(r:Rep)(v:Ver):Rep:={r with tail:=XO r.tail v}
def K8(r:Rep):List Entry->Rep
 | []=>r
 | e::l=>K8 (bif decide (nu e.ver=nu r.tail.last+1)then(pushP r e).1 else r) l
def Ii(r:Rep)(m:Msg):Bool:=decide (r.view.epoch<m.epoch)&&decide (r.frozen<=m.epoch)
def YJ(r:Rep)(m:Msg):Msg:=⟨9,r.self.node,m.src,0,r.self.boot,r.shard,m.epoch,0,0,0,r.view.epoch,0,!decide (r.view.phase=0),false,[],[],r.tail.last,⟨0,0⟩,⟨0,[],[],[],false⟩,[],[],[],⟨⟨0,0⟩,⟨0,0⟩,0,[],[]⟩⟩
def Vj(r:Rep)(m:Msg):Rep × List Msg:=bif Ii r m then({r with frozen:=m.epoch},[YJ r m])else(r,[])
def tail0(e:Int):Tail:=⟨vr e.toNat 0,vr e.toNat 0,[]⟩
def kY(r:Rep)(m:Msg):Tail:=bif m.fresh then tail0 m.epoch else r.tail
def KN(r:Rep)(m:Msg):Rep:=
 {r with view:=⟨m.shard,m.epoch,m.gen,bif decide (m.chain.length=1)then 3 else 2,m.chain⟩,synced:=true::List.replicate (m.chain.length - 1) false,tail:=kY r m,seen:=bif m.fresh then []else r.seen,got:=(kY r m).last}
def Vk(r:Rep)(m:Msg):Bool:=Ii r m&&(HB m.chain r.self&&(m.fresh||(!decide (r.view.phase=0)&&decide (m.epoch=r.frozen))))
def yY(r:Rep)(m:Msg):Rep × List Msg:=bif Vk r m then(KN r m,AD (KN r m))else(r,[])
def insR(r:Rep)(m:Msg):Rep:=bif Ii r m then {r with view:=⟨m.shard,m.epoch,m.gen,3,m.chain⟩,tail:=⟨m.image.floor,m.image.last,m.image.log⟩,seen:=m.image.seen,got:=m.image.last,synced:=[]}else r
def alz(r:Rep)(m:Msg):Rep × List Msg:=
 bif decide (0<idx m.chain r.self)then(insR r m,bif K7 (insR r m)&&decide (m.epoch=(insR r m).view.epoch)then [P4 (insR r m) ⟨m.src,m.sboot⟩ 12]else [])else(r,[])
def who(m:Msg):Member:=⟨m.src,m.sboot⟩
def yZ(r:Rep)(m:Msg):List Bool:=r.synced.set (idx r.view.chain (who m)).toNat true
def alA(r:Rep)(m:Msg):Rep:=bif(yZ r m).all id then {r with synced:=yZ r m,view:={r.view with phase:=3},got:=r.tail.last}else {r with synced:=yZ r m}
def alB(r:Rep)(m:Msg):Rep × List Msg:=
 bif MM r&&(decide (m.epoch=r.view.epoch)&&decide (0<=idx r.view.chain (who m)))then(alA r m,[])else(r,[])
def ags(r:Rep)(m:Msg):Rep:=bif AH (K8 r m.entries).tail.last m.floor then K8 r m.entries else Jp (K8 r m.entries) m.floor
def acw(r:Rep)(m:Msg)(d:Int):Bool:=Jg r&&(decide (m.epoch=r.view.epoch)&&decide (FF r.view.chain r.self d=some (who m)))
def alC(r:Rep)(m:Msg):Rep × List Msg:=bif acw r m (-1)then(ags r m,AD (ags r m))else(r,[])
def agt(r:Rep)(m:Msg):Rep:=bif AH r.tail.last m.ver then r else {r with got:=BB r.got m.ver}
def alD(r:Rep)(m:Msg):Rep × List Msg:=bif acw r m 1 then(agt r m,XN (agt r m))else(r,[])
def QJ(r:Rep)(m:Msg):Bool:=decide (m.dst=r.self.node)&&(decide (m.boot=r.self.boot)&&decide (m.shard=r.shard))
def kZ(r:Rep)(m:Msg):Rep × List Msg:=
 bif decide (m.kind=8)then Vj r m else bif decide (m.kind=10)then yY r m else bif decide (m.kind=11)then alz r m else
 bif decide (m.kind=12)then alB r m else bif decide (m.kind=13)then alC r m else bif decide (m.kind=14)then alD r m else(r,[])
def GC(r:Rep)(m:Msg):Rep × List Msg:=bif QJ r m then kZ r m else(r,[])
def Fy(a b:Ver):Prop:=AH b a=false
theorem R6{a b:Ver}:Fy a b ↔ ep a<ep b\/(ep a=ep b/\nu a<=nu b):=by
 unfold Fy AH
 by_cases h:ep b=ep a
 ·rw[decide_eq_true h,cond_true]
  constructor
  ·intro h2;have:=of_decide_eq_false h2;omega
  ·intro h2;exact decide_eq_false (by omega)
 ·rw[decide_eq_false h,cond_false]
  constructor
  ·intro h2;have:=of_decide_eq_false h2;omega
  ·intro h2;exact decide_eq_false (by omega)
theorem Mw{a b:Ver}:AH a b=true ↔ ep a<ep b\/(ep a=ep b/\nu a<nu b):=by
 unfold AH
 by_cases h:ep a=ep b
 ·rw[decide_eq_true h,cond_true,decide_eq_true_iff];omega
 ·rw[decide_eq_false h,cond_false,decide_eq_true_iff];omega
theorem Fy.refl(a:Ver):Fy a a:=R6.2 (by omega)
theorem Fy.trans{a b c:Ver}(h:Fy a b)(h':Fy b c):Fy a c:=by
 rw[R6]at *;omega
theorem WA{a b:Ver}(h:AH a b=true):Fy a b:=by
 rw[Mw]at h;rw[R6];omega
theorem ad2{a b:Ver}(h:AH a b=false):Fy b a:=h
theorem agu(a b:Ver):Fy a (BB a b):=by
 unfold BB
 cases h:AH a b with
 | true=>exact WA h
 | false=>exact Fy.refl a
theorem ad3(a b:Ver):BB a b=a\/BB a b=b:=by
 unfold BB;cases AH a b <;> simp
theorem zA:(⟨0,0⟩:Ver)=vr 0 0:=by decide
theorem YK{l:List Member}{m:Member}(h:HB l m=true):∃ r,l=m::r:=by
 cases l with
 | nil=>cases h
 | cons x r=>exact⟨r,by rw[of_decide_eq_true (show decide (x=m)=true from h)]⟩
theorem WB{r:Rep}{m:Msg}:Ii r m=true ↔ r.view.epoch<m.epoch/\r.frozen<=m.epoch:=by
 unfold Ii;rw[Bool.and_eq_true,decide_eq_true_iff,decide_eq_true_iff]
end Go.Wk
end
noncomputable section
set_option linter.unusedVariables false
namespace Go.AM
section
variable {X:Type} (sz:Nat) (e:X->List AV) (z:X)
def Ij(l:List X):Nat->List AV:=fun i=>e (l.getD i (l.getD 0 z))
def gSl(b:Nat):List X->AV
 | []=>.nils
 | [_]=>.sl sz b 0 1 1
 | l=>.sl sz b 0 l.length 0
def gBl:List X->Heap
 | []=>[]
 | l=>[.seq true sz l.length (Ij e z l)]
def gTr:List X->AV
 | []=>.nils
 | l=>.tr sz l.length (Ij e z l)
end
section
variable {X:Type} {sz:Nat} {e:X->List AV} {z:X}
theorem ad4{l:List X}{i:Nat}(h:i<l.length):Ij e z l i=e (l.getD i z):=by
 unfold Ij;simp[List.getD,List.getElem?_eq_getElem h]
theorem zB(x:X):(fun i=>[e x].getD i ([e x].getD 0 []))=Ij e z [x]:=by
 funext i
 unfold Ij
 cases i with
 | zero=>rfl
 | succ i=>simp[List.getD]
theorem qL(x:X):(fun i=>[e x].getD i (e x))=Ij e z [x]:=zB x
theorem YL{l:List X}(h:l ≠ [])(x:X) :
  (fun i=>bif Nat.blt i l.length then Ij e z l i else bif Nat.blt i (l.length+1)then [e x].getD (i - l.length) []else Ij e z l l.length)=Ij e z (l++[x]):=by
 funext i
 have h0:0<l.length:=List.length_pos_iff.2 h
 have hh:(l++[x]).getD 0 z=l.getD 0 z:=by unfold List.getD;rw[List.getElem?_append_left h0]
 by_cases h1:i<l.length
 ·rw[AB h1,cond_true]
  unfold Ij
  rw[hh]
  simp[List.getD,List.getElem?_append_left h1]
 ·rw[CI (Nat.le_of_not_lt h1),cond_false]
  by_cases h2:i<l.length+1
  ·have:i=l.length:=by omega
   subst this
   rw[AB h2,cond_true]
   unfold Ij
   simp[List.getD]
  ·rw[CI (by omega),cond_false]
   unfold Ij
   rw[hh]
   have e1:l[l.length]? = none:=List.getElem?_eq_none (Nat.le_refl _)
   have e2:(l++[x])[i]? = none:=List.getElem?_eq_none (by simp;omega)
   simp[List.getD,e1,e2]
theorem qM(a x:X):(fun i=>bif Nat.blt i 1 then Ij e z [a] i else bif Nat.blt i 2 then [e x].getD (i - 1) []else Ij e z [a] 1)=Ij e z [a,x]:=YL (l:=[a]) (by simp) x
theorem ad5{b:Nat}{l:List X}(h:l ≠ [])(x:X):gSl sz b (l++[x])=.sl sz b 0 (l.length+1) 0:=by
 match l,h with
 | [a],_=>rfl
 | a::c::r,_=>
  show AV.sl sz b 0 ((a::c::(r++[x])).length) 0=_
  simp
theorem ad6{l:List X}(h:l ≠ [])(x:X):gBl sz e z (l++[x])=[.seq true sz (l.length+1) (Ij e z (l++[x]))]:=by
 match l,h with
 | a::r,_=>
  show [BS.seq true sz ((a::(r++[x])).length) _]=_
  simp
theorem ad7(l:List X):AR (gTr sz e z l) (C5 sz e z l):=by
 match l with
 | []=>exact .nils
 | a::r=>exact AR.trs fun i hi=>by rw[ad4 hi];exact .refl _
end
theorem orU(n:Nat):(Nat.beq n 0||Nat.ble n n)=true:=by rw[Bn (Nat.le_refl n)];simp
theorem ajj{n b:Nat}(hb:b<=1000)(h:n<=1000000):(Nat.ble ((n+1)*b) 140737488355328&&Nat.ble (n+1) 140737488355328)=true:=by
 have h1:(n+1)*b<=140737488355328:=by
  have:(n+1)*b<=1000001*1000:=Nat.mul_le_mul (by omega) hb
  omega
 rw[Bn h1,Bn (by omega:n+1<=140737488355328)];rfl
theorem qN{X:Type}{R:Type}{l:List X}{z:X}{keep:X->Bool}{G:Nat->Int->List X->Option R}{fin:List X->Option R}
  (hend:∀ m acc,acc.length<=l.length->G (m+1) (l.length:Int) acc=fin acc)
  (hstep:∀ m (i:Nat) acc,i<l.length->acc.length<=i->G (m+1) (i:Int) acc=bif keep (l.getD i z)then G m ((i+1:Nat):Int) (acc++[l.getD i z])else G m ((i+1:Nat):Int) acc) :
  ∀ (d i m:Nat) (acc:List X),i+d=l.length->d<m->acc.length<=i->G m (i:Int) acc=fin (acc++(l.drop i).filter keep):=by
 intro d
 induction d with
 | zero=>
  intro i m acc hi hm ha
  obtain⟨m,rfl⟩:∃ k,m=k+1:=⟨m - 1,by omega⟩
  have:i=l.length:=by omega
  subst this
  rw[hend m acc ha];simp
 | succ d ih=>
  intro i m acc hi hm ha
  obtain⟨m,rfl⟩:∃ k,m=k+1:=⟨m - 1,by omega⟩
  rw[hstep m i acc (by omega) ha,drop_cons (z:=z) (by omega:i<l.length),List.filter_cons]
  cases hk:keep (l.getD i z)with
  | true=>
   rw[cond_true,if_pos rfl,ih (i+1) m _ (by omega) (by omega) (by simp;omega),List.append_assoc];rfl
  | false=>
   rw[cond_false,if_neg (by simp),ih (i+1) m _ (by omega) (by omega) (by omega)]
end Go.AM
end
noncomputable section
set_option linter.unusedVariables false
namespace Go.AM
def Pb(l:Nat):Code->Option (List PE)
 | .scope a=>match findLabel a l with
  | some _=>some []
  | .none=>match Pb l a with
   | some p=>some (.L::p)
   | .none=>.none
 | .seq x y=>match Pb l x with
  | some p=>some (.L::p)
  | .none=>match Pb l y with
   | some p=>some (.R::p)
   | .none=>.none
 | .cond _ x y=>match Pb l x with
  | some p=>some (.L::p)
  | .none=>match Pb l y with
   | some p=>some (.R::p)
   | .none=>.none
 | .block _ a=>match Pb l a with
  | some p=>some (.L::p)
  | .none=>.none
 | _=>.none
def JP{R:Type}(env:Env)(n base f:Nat)(k:AV->Heap->Option R)(l m:Nat)(s:St):Option R:=
 match Pb l (CM env f)with
 | some p=>match sub (CM env f) p with
  | .scope a=>JT env (D2 env n) f (Ig env f) n base m a l (Ie env (D2 env n) f (Ig env f) n base (JT env (D2 env n) f (Ig env f) n base n) 0 (CM env f) p (QE env f k)) s
  | _=>.none
 | .none=>.none
end Go.AM
end
noncomputable section
open Go Go.AM Go.Proofs
namespace Go.Wk
set_option maxRecDepth 100000
def PG:Program:=Tryz.prog
def Vl:List (Nat × Nat × List Nat):=[
(3,0,[3,5]),
(3,2,[3,5,6,7,9]),
(3,4,[3,5,6,12]),
(4,0,[3,5,6]),
(4,2,[3,5,6,7,8]),
(4,4,[3,5,10]),
(5,0,[5,7,8,9,10,11,12]),
(5,2,[5,7,8,9,10,11,13]),
(5,4,[5,7,8,9,10,11,14]),
(5,6,[5,7,8,9,11,15]),
(5,8,[5,7,8,9,11,15,16]),
(5,10,[5,7,8,9,17]),
(5,12,[5,8,9,18]),
(5,14,[5,9,19]),
(6,0,[0,3,4,5,6]),
(7,0,[0,3,4,5]),
(7,2,[4,6,7]),
(9,0,[0,2,4,5]),
(10,0,[1,2,3,6,8]),
(14,0,[0,1,4,6]),
(19,0,[2,4,5,11,12]),
(24,0,[0,1,5]),
(25,0,[2,3,5]),
(25,2,[2,3,6]),
(26,0,[1,2,3,4]),
(27,0,[1,3,19,20,21]),
(28,0,[1,3,18,19,20]),
(28,2,[7,47,48,49]),
(29,0,[3,7,8,9]),
(30,0,[1,3,4]),
(34,0,[2,4,7,8,9,10]),
(36,0,[1,2,34,35]),
(39,0,[0,3,14,15,16]),
(41,0,[2,4,6,7,37,38,39]),
(41,2,[4,6,56,57,58]),
(45,0,[1,2,10,11,12]),
(47,0,[2,3,5]),
(49,0,[0,1,5]),
(51,1,[1,3,23,24,25]),
(57,0,[0,1,3]),
(63,0,[0,7,8,9]),
(74,0,[0,8,116,117,118]),
(76,0,[2,7,8,9]),
(77,0,[0,6,7,8]),
(80,0,[0,1,5,6]),
(82,0,[1,7,8,16,17,18]),
(83,0,[0,1,4,5,21,22,23]),
(83,2,[0,1,5,35,36,37]),
(85,0,[4,5,6,16,17,18]),
(87,0,[0,1,4,5,21,22,23]),
(90,0,[0,1,5]),
(92,0,[0,1,5]),
(94,0,[0,1,5]),
(95,0,[0,1,5]),
(99,0,[2,4,5,17,18,19,1003]),
(103,0,[2,3,4,5,8,9,10]),
(103,2,[2,4,5,8,11]),
(113,0,[0,1,5,6]),
(117,0,[0,3,12,13]),
(122,0,[3,6,7,8]),
(124,0,[0,1,7,8]),
(127,0,[3,7,8,9]),
(132,0,[3,7,8,9]),
(133,0,[1,2,3,4,9,21,22,23]),
(133,2,[3,4,12,13,45]),
(133,4,[4,16,71,72,73]),
(134,0,[0,3,4]),
(136,0,[0,3,4]),
(139,0,[0,3,4]),
(140,0,[0,3,4]),
(141,0,[0,3,4]),
(144,0,[3,7,8,9]),
(146,0,[0,7,8]),
(147,0,[0,1,2,8,9,10]),
(150,0,[0,1,7,8]),
(160,0,[0,1,5,6]),
(166,0,[3,4]),
(167,0,[0,3,4]),
(172,0,[0,3,4]),
(175,0,[0,1,5,6]),
(176,0,[1,2,7,8]),
(186,1000,[1,2,4,5]),
(187,0,[0,1,7,8]),
(188,0,[0,1,2,3,4,10,11]),
(191,0,[0,3]),
(193,0,[0,3,5,6]),
(193,2,[0,3,5,7]),
(195,0,[0,1,7,8]),
(196,0,[0,1,2,3,8]),
(196,2,[0,1,2,3,8,9]),
(197,0,[0,3,8,9,10,11]),
(197,2,[0,3,8,9,12]),
(198,0,[0,1,8,9,10,11]),
(200,0,[0,8,9]),
(201,0,[0,1,2,3,9,10]),
(201,2,[0,1,2,3,9,10]),
(201,4,[0,1,2,3,9,10,11]),
(201,6,[0,1,2,3,9,10,12]),
(202,0,[0,1,4,11,12]),
(202,2,[0,1,4,11,12]),
(202,4,[0,1,4,11,12]),
(203,0,[0,1,4,12,13]),
(203,2,[0,1,4,12,13]),
(203,4,[0,1,4,12,13]),
(203,6,[0,1,4,12,13]),
(203,8,[0,1,4,12,13]),
(209,0,[0,2,3,4,10]),
(216,0,[0,2,3])]
def agv:List Nat:=[36,45,58,59,60,61,62,63,78,89,104,105,106,107,108,125,126,127,146,177]
def agw:List Nat:=[35,38,39,40,42,43,57,66,70,74,75,77,79,80,83,86,87,110,112,113,116,117,124,128,130,147,150,153,154,155,156,157,158,159,160,161,164,165,179,184,187,188,194,195,196,197,198,199,200,201,202,203,207,208,209,210,211,212,213,214,215,216,225,226,227,228,229]
def agx:List Nat:=[]
def agy:List Nat:=[]
def Vm(md:Nat->Option Nat)(o:Nat->List AV->Heap->Option Answer):Env where
 tt:=Gp PG
 code:=Yx PG
 mode f:=match md f with
  | some k=>k
  | none=>bif Yy f agv then 1 else bif Yy f agw then 2 else bif Yy f agy then 4 else bif Yy f agx then 3 else 0
 live f b:=QD f b Vl
 orc:=o
def MN(l:List Known):Env:=Vm (fun _=>none) (Nl l)
theorem eK{md:Nat->Option Nat}{l:List Known}(h:∀ k ∈ l,k.Ok PG):C2 PG (Vm md (Nl l)):=⟨kU rfl,TU h⟩
theorem WC{md:Nat->Option Nat}{o:Nat->List AV->Heap->Option Answer}:F8 PG (Vm md o):=QC rfl
theorem mixed:PG.follows .mixedOrders=true:=by kernel_rfl
theorem Ik{md:Nat->Option Nat}{l:List Known}(h:∀ k ∈ l,k.Ok PG){n f:Nat}{args:List AV}{r:AV}(e:Am (Vm md (Nl l)) n f args=some r):Aa PG f args [] r []:=
 Tb (eK h) WC mixed e
def BO:Nat:=4
def Dc:Nat:=8
def C6:Nat:=9
def Ha:Nat:=12
def J0:Nat:=13
def BK:Nat:=14
def Bi:Nat:=15
def Hb:Nat:=16
def J3:Nat:=21
def BJ:Nat:=27
def Dd:Nat:=31
def J4:Nat:=32
def Qg:Nat:=33
def DP:Nat:=34
def BV:Nat:=36
def Eh:Nat:=37
def Ci:Nat:=38
def Du:Nat:=39
def DM:Nat:=40
def Bh:Nat:=41
def Dv:Nat:=42
def Dh:Nat:=43
def cU:Nat:=44
def SG:Nat:=45
def C1:Nat:=51
def HC:Nat:=52
def HE:Nat:=53
def Pd:Nat:=55
def E9:Nat:=56
def J5:Nat:=58
def AK:Nat:=59
def Br:Nat:=60
def FQ:Nat:=61
def Gv:Nat:=62
def Cf:Nat:=63
def Cz:Nat:=66
def Il:Nat:=67
def Ea:Nat:=68
def Fm:Nat:=69
def Di:Nat:=70
def Lr:Nat:=71
def EJ:Nat:=72
def EC:Nat:=73
def B6:Nat:=74
def Cv:Nat:=75
def F9:Nat:=76
def C4:Nat:=77
def GM:Nat:=78
def EP:Nat:=79
def Ao:Nat:=80
def DQ:Nat:=81
def HF:Nat:=82
def Ct:Nat:=83
def Im:Nat:=84
def Dj:Nat:=85
def Dk:Nat:=86
def CR:Nat:=87
def Hq:Nat:=88
def Na:Nat:=89
def J6:Nat:=97
def LA:Nat:=98
def BC:Nat:=99
def MO:Nat:=100
def LC:Nat:=101
def DR:Nat:=102
def CA:Nat:=103
def BW:Nat:=104
def Ck:Nat:=105
def DD:Nat:=106
def Gw:Nat:=107
def J7:Nat:=108
def II:Nat:=110
def Dq:Nat:=111
def FG:Nat:=112
def BN:Nat:=113
def Io:Nat:=114
def Hr:Nat:=115
def CZ:Nat:=116
def BR:Nat:=117
def IJ:Nat:=118
def IK:Nat:=119
def Ip:Nat:=120
def Iq:Nat:=121
def J8:Nat:=122
def Mi:Nat:=123
def At:Nat:=124
def K9:Nat:=125
def Eb:Nat:=127
def GN:Nat:=128
def HH:Nat:=129
def Ga:Nat:=130
def Jh:Nat:=131
def GO:Nat:=132
def Bj:Nat:=133
def Mj:Nat:=143
def GP:Nat:=144
def CS:Nat:=145
def DG:Nat:=146
def Gz:Nat:=147
def MP:Nat:=148
def GD:Nat:=149
def CT:Nat:=150
def Nm:Nat:=151
def ER:Nat:=152
def J9:Nat:=153
def A9:Nat:=160
def C3:Nat:=161
def NW:Nat:=162
def Ka:Nat:=163
def AY:Nat:=164
def CB:Nat:=165
def HN:Nat:=169
def Ot:Nat:=173
def EY:Nat:=174
def CX:Nat:=175
def CN:Nat:=176
def FR:Nat:=177
def T2:Nat:=178
def GQ:Nat:=179
def HI:Nat:=180
def DK:Nat:=181
def QK:Nat:=182
def DT:Nat:=186
def Bm:Nat:=187
def Ls:Nat:=188
def T3:Nat:=189
def DU:Nat:=190
def Cq:Nat:=191
def DV:Nat:=192
def Cs:Nat:=193
def Bu:Nat:=194
def Av:Nat:=196
end Go.Wk
end
noncomputable section
open Go Go.AM Go.Md
namespace Go.Wk
set_option maxRecDepth 100000
set_option maxHeartbeats 1000000
def Et:Env:=MN []
theorem Jv{n f:Nat}{args:List AV}{r:AV}(e:Am Et n f args=some r):Aa PG f args [] r []:=Ik (md:=fun _=>none) (l:=[]) (fun k hk=>by cases hk) e
theorem Pe{X:Type}{F sz b:Nat}{e:X->List AV}{z:X}(hb:b<=1000)(hn:Am Et 2 F [.nils]=some .nils)(he:Am Et 2 F [.trl sz []]=some (.trl sz []))
  (hs:∀ n f,Am Et 2 F [.tr sz (n+1) f]=bif Nat.ble ((0+(n+1))*b) 140737488355328&&Nat.ble (0+(n+1)) 140737488355328 then bif Nat.ble (n+1) (n+1)then some (.tr sz (n+1) f)else none else none)
  (l:List X) (hl:l.length<=LB):Aa PG F [C5 sz e z l] [] (C5 sz e z l) []:=by
 unfold LB at hl
 cases l with
 | nil=>exact Aa.split (On.of [] [] .nil) ((Jv hn).res .nils) ((Jv he).res (AR.trl_encL (e:=e) (z:=z) []))
 | cons x r=>
  have h:=hs r.length (fun i=>e ((x::r).getD i z))
  simp only[List.length_cons]at hl
  have h1:(0+(r.length+1))*b<=140737488355328:=by
   have:(0+(r.length+1))*b<=1000000*1000:=Nat.mul_le_mul (by omega) hb
   omega
  rw[Bn h1,Bn (by omega),Bn (Nat.le_refl _)]at h
  exact Jv h
theorem T4(n:Nat)(f:Nat->List AV):Am Et 2 BW [.tr 2 (n+1) f]=bif Nat.ble ((0+(n+1))*16) 140737488355328&&Nat.ble (0+(n+1)) 140737488355328 then bif Nat.ble (n+1) (n+1)then some (.tr 2 (n+1) f)else none else none:=by kernel_rfl
theorem Vn(n:Nat)(f:Nat->List AV):Am Et 2 AK [.tr 11 (n+1) f]=bif Nat.ble ((0+(n+1))*112) 140737488355328&&Nat.ble (0+(n+1)) 140737488355328 then bif Nat.ble (n+1) (n+1)then some (.tr 11 (n+1) f)else none else none:=by kernel_rfl
theorem XI(n:Nat)(f:Nat->List AV):Am Et 2 Ck [.tr 7 (n+1) f]=bif Nat.ble ((0+(n+1))*72) 140737488355328&&Nat.ble (0+(n+1)) 140737488355328 then bif Nat.ble (n+1) (n+1)then some (.tr 7 (n+1) f)else none else none:=by kernel_rfl
theorem XJ(n:Nat)(f:Nat->List AV):Am Et 2 DD [.tr 1 (n+1) f]=bif Nat.ble ((0+(n+1))*1) 140737488355328&&Nat.ble (0+(n+1)) 140737488355328 then bif Nat.ble (n+1) (n+1)then some (.tr 1 (n+1) f)else none else none:=by kernel_rfl
theorem YM(l:List Member)(h:l.length<=LB):Aa PG BW [Ay l] [] (Ay l) []:=
 Pe (b:=16) (by omega) (by kernel_rfl) (by kernel_rfl) T4 l h
theorem cV(l:List Entry)(h:l.length<=LB):Aa PG AK [Ae l] [] (Ae l) []:=
 Pe (b:=112) (by omega) (by kernel_rfl) (by kernel_rfl) Vn l h
theorem lA(l:List Seen)(h:l.length<=LB):Aa PG Ck [Ax l] [] (Ax l) []:=
 Pe (b:=72) (by omega) (by kernel_rfl) (by kernel_rfl) XI l h
theorem lB(l:List Bool)(h:l.length<=LB):Aa PG DD [Ch l] [] (Ch l) []:=
 Pe (b:=1) (by omega) (by kernel_rfl) (by kernel_rfl) XJ l h
def dL{X:Type}(d:List AV->X)(a:List AV):List X:=AN d (a.getD 0 .nils)
def CH{X:Type}(l:List X):Prop:=l.length<=LB
def T5(l:List Member):List AV:=[Ay l]
def Pf(l:List Entry):List AV:=[Ae l]
def T6(l:List Seen):List AV:=[Ax l]
def qO(l:List Bool):List AV:=[Ch l]
theorem acx{R:Type}{l:List Member}{k:List Member->Option R}(h:CH l):gC (dL Ca) CH T5 [Ay l] k=k l:=Aw l (EH l) h (.refl _)
theorem ajk{R:Type}{l:List Entry}{k:List Entry->Option R}(h:CH l):gC (dL Bf) CH Pf [Ae l] k=k l:=Aw l (Eo l) h (.refl _)
theorem agz{R:Type}{l:List Seen}{k:List Seen->Option R}(h:CH l):gC (dL BZ) CH T6 [Ax l] k=k l:=Aw l (EB l) h (.refl _)
def Kb:Known:=.spec BW (dL Ca) CH T5 Ay
def La:Known:=.spec AK (dL Bf) CH Pf Ae
def Mk:Known:=.spec Ck (dL BZ) CH T6 Ax
def T7:Known:=.spec DD (dL HA) CH qO Ch
theorem Kc:Kb.Ok PG:=Known.spec_ok YM
theorem KO:La.Ok PG:=Known.spec_ok cV
theorem LD:Mk.Ok PG:=Known.spec_ok lA
theorem XK:T7.Ok PG:=Known.spec_ok lB
theorem Bz{i:Nat}(h:i<=2000000):IntKind.i64.wrap ((i:Int)+1)=((i+1:Nat):Int):=wrap64 (by omega)
theorem HJ{i n:Nat}:decide ((i:Int)<(n:Int))=decide (i<n):=by simp
theorem IL(i:Nat):decide ((0:Int)<=(i:Int))=true:=by simp
theorem YN(x m:Member):(decide (x.node=m.node)&&decide (x.boot=m.boot))=decide (x=m):=by
 cases x;cases m;simp[Bool.decide_and]
def lC(l:List Member)(m:Member)(i:Int):St:={fr:=[(3,.ptr 0 0 0),(7,Ay l),(8,.int .i64 l.length),(9,.int .i64 i)],hp:=[.arr true 2 [A6 m]]}
theorem agA(N:Nat)(l:List Member)(mm:Member):Am Et (N+1) GP [Ay l,.agg (A6 mm)]=LP Et N 0 GP Bp 0 [] N (lC l mm 0):=by kernel_rfl
theorem YP(N m:Nat)(l:List Member)(mm:Member)(i:Int):LP Et N 0 GP Bp 0 [] (m+1) (lC l mm i) =
  bif decide (i<(l.length:Int))then bif decide (0<=i)&&decide (i<(l.length:Int))then
   bif decide ((l.getD i.toNat default).node=mm.node)&&(decide ((l.getD i.toNat default).boot=mm.boot)&&true)then some (.int .i64 i)
   else LP Et N 0 GP Bp 0 [] m (lC l mm (IntKind.i64.wrap (i+1)))
  else none else some (.int .i64 (-1)):=by kernel_rfl
theorem zC{N:Nat}{l:List Member}{mm:Member}(hl:l.length<=LB):∀ d i m,i+d=l.length->d<m->LP Et N 0 GP Bp 0 [] m (lC l mm (i:Nat))=some (.int .i64 (idxFrom mm (l.drop i) i)):=by
 unfold LB at hl
 intro d
 induction d with
 | zero=>
  intro i m hi hm
  obtain⟨m,rfl⟩:∃ k,m=k+1:=⟨m - 1,by omega⟩
  rw[YP,HJ,decide_eq_false (by omega),cond_false,List.drop_eq_nil_of_le (by omega)]
  rfl
 | succ d ih=>
  intro i m hi hm
  obtain⟨m,rfl⟩:∃ k,m=k+1:=⟨m - 1,by omega⟩
  rw[YP,HJ,decide_eq_true (by omega),IL,drop_cons (z:=default) (by omega:i<l.length)]
  simp only[cond_true,Bool.and_true,Int.toNat_natCast,YN,idxFrom]
  by_cases h:l.getD i default=mm
  ·simp only[decide_eq_true h,cond_true,if_pos h]
  ·simp only[decide_eq_false h,cond_false,if_neg h]
   rw[Bz (by omega),ih (i+1) m (by omega) (by omega)]
abbrev LM:=List Member × Member
def Nn(a:List AV):LM:=(AN Ca (a.getD 0 .nils),Ca (AA a 1))
def Ml(x:LM):Prop:=x.1.length<=LB
def Pg(x:LM):List AV:=[Ay x.1,.agg (A6 x.2)]
theorem qLM{R:Type}{l:List Member}{m:Member}{k:LM->Option R}(h:l.length<=LB):gC Nn Ml Pg [Ay l,.agg (A6 m)] k=k (l,m):=Aw (l,m) (Prod.ext (EH l) rfl) h (.refl _)
def YQ:Known:=.spec GP Nn Ml Pg (fun x=>.int .i64 (idx x.1 x.2))
theorem WD:YQ.Ok PG:=Known.spec_ok fun x h=>by
 have:=(agA (x.1.length+1) x.1 x.2).trans (zC (N:=x.1.length+1) (mm:=x.2) h x.1.length 0 (x.1.length+1) (by omega) (by omega))
 exact Jv this
theorem Ou{n:Nat}(P:Nat->Nat->Prop)(h0:∀ m,P n (m+1))(hs:∀ i m,i<n->P (i+1) m->P i (m+1)):∀ i m,i<=n->n - i<m->P i m:=by
 intro i m hi hm
 obtain⟨d,hd⟩:∃ d,n - i=d:=⟨_,rfl⟩
 induction d generalizing i m with
 | zero=>
  have:i=n:=by omega
  subst this
  obtain⟨m,rfl⟩:∃ k,m=k+1:=⟨m - 1,by omega⟩
  exact h0 m
 | succ d ih=>
  obtain⟨m,rfl⟩:∃ k,m=k+1:=⟨m - 1,by omega⟩
  exact hs i m (by omega) (ih (i+1) m (by omega) (by omega) (by omega))
theorem Ji:∀ s:List UInt8,Ah s s=true
 | []=>rfl
 | a::s=>by simp[Ah,Ji s]
theorem getD_mem{X:Type}{l:List X}{i:Nat}{z:X}(h:i<l.length):l.getD i z ∈ l:=by
 simp[List.getD,List.getElem?_eq_getElem h]
theorem YR(n:Nat):Nat.ble n n=true:=Bn (Nat.le_refl n)
theorem ak{k:Known}{l:List Known}(h:k.Ok PG)(t:∀ x ∈ l,x.Ok PG):∀ x ∈ k::l,x.Ok PG:=fun x hx=>by
 rcases List.mem_cons.1 hx with rfl | hx
 ·exact h
 ·exact t x hx
theorem AL:∀ x ∈ ([]:List Known),x.Ok PG:=fun x hx=>by cases hx
def rg(i n:Int){R:Type}(k:Option R):Option R:=bif decide (0<=i)&&decide (i<n)then k else none
theorem Bq{i n:Nat}(h:i<n){R:Type}{k:Option R}:rg (i:Int) (n:Int) k=k:=by
 unfold rg;rw[IL,HJ,decide_eq_true h];rfl
end Go.Wk
end
noncomputable section
open Go Go.AM Go.Md Go.Fl
open Ieee (double)
namespace Go.Wk
set_option maxRecDepth 100000
set_option maxHeartbeats 1000000
theorem zD(a b:Ver):Am Et 4 EJ [eV a,eV b]=bif !DE .f64 a.re b.re then some (.bool (JB .f64 a.re b.re))else some (.bool (JB .f64 a.im b.im)):=by kernel_rfl
def Dz(p:Ver × Ver):List AV:=[eV p.1,eV p.2]
def DA(a:List AV):Ver × Ver:=(⟨(BE a 0).1,(BE a 0).2⟩,⟨(BE a 1).1,(BE a 1).2⟩)
def V2(p:Ver × Ver):Prop:=Au p.1/\Au p.2
theorem Jj{R:Type}{a b:Ver}{k:Ver × Ver->Option R}(ha:Au a)(hb:Au b):gC DA V2 Dz [.cplx .f64 a.re a.im,.cplx .f64 b.re b.im] k=k (a,b):=Aw (a,b) rfl ⟨ha,hb⟩ (.refl _)
theorem qP(p:Ver × Ver)(h:V2 p):Aa PG EJ [eV p.1,eV p.2] [] (.bool (AH p.1 p.2)) []:=by
 refine Jv ((zD p.1 p.2).trans ?_)
 rw[eH,yX,<- agr h.1 h.2]
 cases DE .f64 p.1.re p.2.re <;> rfl
def Fz:Known:=.spec EJ DA V2 Dz (fun p=>.bool (AH p.1 p.2))
theorem DW:Fz.Ok PG:=Known.spec_ok qP
theorem zE(a b:Ver):Am Et 4 NW [eV a,eV b]=bif !DE .f64 b.re a.re then bif JB .f64 b.re a.re then some (eV a)else some (eV b)else bif JB .f64 b.im a.im then some (eV a)else some (eV b):=by kernel_rfl
theorem qQ(p:Ver × Ver)(h:V2 p):Aa PG NW [eV p.1,eV p.2] [] (eV (BB p.1 p.2)) []:=by
 refine Jv ((zE p.1 p.2).trans ?_)
 rw[eH,<- qI h.1 h.2,<- agr h.2 h.1]
 cases DE .f64 p.2.re p.1.re <;> cases JB .f64 p.2.im p.1.im <;> cases JB .f64 p.2.re p.1.re <;> rfl
def QL:Known:=.spec NW DA V2 Dz (fun p=>eV (BB p.1 p.2))
theorem No:QL.Ok PG:=Known.spec_ok qQ
end Go.Wk
end
noncomputable section
open Go Go.AM Go.Md Go.Fl
namespace Go.Wk
set_option maxRecDepth 100000
set_option maxHeartbeats 1000000
def gF{R:Type}(b:Nat)(k:Option R):Option R:=bif(fI b).isSome then bif decide (IntKind.i64.min<=(fI b).getD 0)&&decide ((fI b).getD 0<=IntKind.i64.max)then k else none else none
theorem gF_eq{R:Type}{b:Nat}{k:Option R}(h:qG b):gF b k=k:=by
 obtain⟨h1,h2,h3⟩:=h
 unfold gF;rw[h1,decide_eq_true h2,decide_eq_true h3];rfl
theorem qR(a b:Ver):Am Et 4 DV [eV a,eV b]=gF a.re (gF b.re (bif decide (vE a=vE b)then gF a.im (gF b.im (some (.bool (decide (vN a<vN b)))))else gF a.re (gF b.re (some (.bool (decide (vE a<vE b))))))):=by kernel_rfl
theorem lD(p:Ver × Ver)(h:V2 p):Aa PG DV [eV p.1,eV p.2] [] (.bool (AH p.1 p.2)) []:=by
 refine Jv ((qR p.1 p.2).trans ?_)
 obtain⟨ha,hb⟩:=h
 simp only[gF_eq ha.int.1,gF_eq ha.int.2,gF_eq hb.int.1,gF_eq hb.int.2,XM ha,XM hb,R3 ha,R3 hb,R4,eJ]
 unfold AH
 cases decide (ep p.1=ep p.2) <;> rfl
def Ov:Known:=.spec DV DA V2 Dz (fun p=>.bool (AH p.1 p.2))
theorem Mm:Ov.Ok PG:=Known.spec_ok lD
theorem qS(a b:Ver):Am Et 4 EY [eV a,eV b]=gF a.re (gF b.re (bif decide (vE a=vE b)then gF a.im (gF b.im (bif decide (vN a<vN b)then some (eV b)else some (eV a)))else gF a.re (gF b.re (bif decide (vE a<vE b)then some (eV b)else some (eV a))))):=by kernel_rfl
theorem lE(p:Ver × Ver)(h:V2 p):Aa PG EY [eV p.1,eV p.2] [] (eV (BB p.1 p.2)) []:=by
 refine Jv ((qS p.1 p.2).trans ?_)
 obtain⟨ha,hb⟩:=h
 simp only[gF_eq ha.int.1,gF_eq ha.int.2,gF_eq hb.int.1,gF_eq hb.int.2,XM ha,XM hb,R3 ha,R3 hb,R4,eJ]
 unfold BB AH
 cases decide (ep p.1=ep p.2) <;> cases decide (nu p.1<nu p.2) <;> cases decide (ep p.1<ep p.2) <;> rfl
def eM:Known:=.spec EY DA V2 Dz (fun p=>eV (BB p.1 p.2))
theorem lF:eM.Ok PG:=Known.spec_ok lE
def Np(a:List AV):Ver:=⟨(BE a 0).1,(BE a 0).2⟩
def Nq(v:Ver):List AV:=[eV v]
theorem qV1{R:Type}{a:Ver}{k:Ver->Option R}(ha:Au a):gC Np Au Nq [.cplx .f64 a.re a.im] k=k a:=Aw a rfl ha (.refl _)
theorem agB(a:Ver):Am Et 4 Lr [eV a]=gF a.im (some (.int .i64 (vN a))):=by kernel_rfl
theorem ad8(a:Ver):Am Et 4 HN [eV a]=gF a.im (some (.int .i64 (vN a))):=by kernel_rfl
theorem ad9(a:Ver)(h:Au a):Aa PG Lr [eV a] [] (.int .i64 (nu a)) []:=Jv ((agB a).trans (by rw[gF_eq h.int.2,R3 h]))
theorem zF(a:Ver)(h:Au a):Aa PG HN [eV a] [] (.int .i64 (nu a)) []:=Jv ((ad8 a).trans (by rw[gF_eq h.int.2,R3 h]))
def Vo:Known:=.spec Lr Np Au Nq (fun p=>.int .i64 (nu p))
theorem Ow:Vo.Ok PG:=Known.spec_ok ad9
def lG:Known:=.spec HN Np Au Nq (fun p=>.int .i64 (nu p))
theorem YS:lG.Ok PG:=Known.spec_ok zF
def dI2(a:List AV):Nat × Nat:=((Ar a 0).toNat,(Ar a 1).toNat)
theorem aea(a b:Int):Am Et 4 J4 [.int .i64 a,.int .i64 b]=some (.cplx .f64 (FloatKind.f64.nearest a) (FloatKind.f64.nearest b)):=by kernel_rfl
theorem zG(p:Nat × Nat)(_:True):Aa PG J4 [.int .i64 p.1,.int .i64 p.2] [] (eV (vr p.1 p.2)) []:=Jv ((aea p.1 p.2).trans (by rw[Oq,Oq];rfl))
def pI2(_:Nat × Nat):Prop:=True
def eI2(p:Nat × Nat):List AV:=[.int .i64 p.1,.int .i64 p.2]
def lH:Known:=.spec J4 dI2 pI2 eI2 (fun p=>eV (vr p.1 p.2))
theorem YU:lH.Ok PG:=Known.spec_ok zG
def dVI(a:List AV):Ver × Nat:=(⟨(BE a 0).1,(BE a 0).2⟩,(Ar a 1).toNat)
theorem aeb(a:Ver)(e:Int):Am Et 4 IK [eV a,.int .i64 e]=bif(FloatKind.f64.format.add a.im 4607182418800017408).isSome then some (.cplx .f64 (FloatKind.f64.nearest e) ((FloatKind.f64.format.add a.im 4607182418800017408).getD 0))else none:=by kernel_rfl
theorem zH(p:Ver × Nat)(h:Au p.1):Aa PG IK [eV p.1,.int .i64 p.2] [] (eV (vr p.2 (nu p.1+1))) []:=by
 refine Jv ((aeb p.1 p.2).trans ?_)
 have h2:=h.lt
 have e:p.1.im=fl (nu p.1):=congrArg Ver.im h.eta
 rw[e,ad1 (by omega),Oq,Option.isSome_some,cond_true,Option.getD_some]
 rfl
def pVI(p:Ver × Nat):Prop:=Au p.1
def eVI(p:Ver × Nat):List AV:=[eV p.1,.int .i64 p.2]
def acy:Known:=.spec IK dVI pVI eVI (fun p=>eV (vr p.2 (nu p.1+1)))
theorem zI:acy.Ok PG:=Known.spec_ok zH
def QM{R:Type}(a b:Ver)(k:Ver × Ver->Option R):Option R:=gC DA V2 Dz [eV a,eV b] k
theorem Nr{R:Type}{a b:Ver}{k:Ver × Ver->Option R}(ha:Au a)(hb:Au b):QM a b k=k (a,b):=Aw (a,b) rfl ⟨ha,hb⟩ (.refl _)
end Go.Wk
end
noncomputable section
open Go Go.AM Go.Md
namespace Go.Wk
set_option maxRecDepth 100000
set_option maxHeartbeats 1000000
def CO(a:List AV):Rep:=Cy (AA a 0)
def EK(_:Rep):Prop:=True
def CP(r:Rep):List AV:=[.agg (Ag r)]
theorem R7{R:Type}{r:Rep}{P:Rep->Prop}{k:Rep->Option R}(h:P r):gC CO P CP [.agg (Ag r)] k=k r:=Aw r (B8 r) h (.refl _)
def agC:List Known:=[YQ]
theorem aec:∀ k ∈ agC,k.Ok PG:=ak WD AL
def YV:Env:=MN agC
theorem lI{n f:Nat}{xs:List AV}{r:AV}(e:Am YV n f xs=some r):Aa PG f xs [] r []:=Ik (md:=fun _=>none) aec e
def P5(l:List Member)(m:Member):Bool:=decide ((l.getD (Int.toNat 0) default).node=m.node)&&(decide ((l.getD (Int.toNat 0) default).boot=m.boot)&&true)
def lJ{R:Type}(l:List Member)(m:Member)(no:Option R)(k:Bool->Option R):Option R:=bif decide ((l.length:Int)=0)then no else bif decide (0<(l.length:Int))then k (P5 l m)else none
theorem eN{R:Type}{l:List Member}{m:Member}{no:Option R}{k:Bool->Option R}(h:no=k false):lJ l m no k=k (HB l m):=by
 unfold lJ
 cases l with
 | nil=>exact h
 | cons x r=>
  rw[decide_eq_false (by simp only[List.length_cons];omega),cond_false,decide_eq_true (by simp only[List.length_cons];omega),cond_true]
  unfold P5 HB
  rw[Bool.and_true]
  exact congrArg k (YN x m)
theorem head_eq(r:Rep):Am YV 6 Eh [.agg (Ag r)]=bif !decide (r.view.phase=0)then bif decide (r.frozen<=r.view.epoch)then bif decide (r.view.phase=3)then
  lJ r.view.chain r.self (some (.bool false)) fun b=>some (.bool b)else some (.bool false)else some (.bool false)else some (.bool false):=by kernel_rfl
theorem zJ(r:Rep)(_:True):Aa PG Eh [.agg (Ag r)] [] (.bool (Co r)) []:=by
 refine lI ((head_eq r).trans ?_)
 rw[eN (no:=some (AV.bool false)) (k:=fun b=>some (AV.bool b)) rfl]
 unfold Co Jg K7
 cases decide (r.view.phase=0) <;> cases decide (r.frozen<=r.view.epoch) <;> cases decide (r.view.phase=3) <;> rfl
def Mn:Known:=.spec Eh CO EK CP (fun r=>.bool (Co r))
theorem Ir:Mn.Ok PG:=Known.spec_ok zJ
def XP{R:Type}(l:List Member)(m:Member)(k:List Member × Member->Option R):Option R:=gC Nn Ml Pg [Ay l,.agg (A6 m)] k
theorem Td{R:Type}{l:List Member}{m:Member}{k:List Member × Member->Option R}(h:l.length<=LB):XP l m k=k (l,m):=Aw (l,m) (by unfold Nn;exact Prod.ext (EH l) rfl) h (.refl _)
theorem qT(r:Rep):Am YV 6 EC [.agg (Ag r)]=bif !decide (r.view.phase=0)then bif decide (r.frozen<=r.view.epoch)then bif decide (r.view.phase=3)then
  lJ r.view.chain r.self (some (eV ⟨0,0⟩)) fun b=>bif !b then some (eV ⟨0,0⟩)else bif decide ((r.view.chain.length:Int)=1)then some (eV r.tail.last)else some (eV r.got)
  else some (eV ⟨0,0⟩)else some (eV ⟨0,0⟩)else some (eV ⟨0,0⟩):=by kernel_rfl
theorem lK(r:Rep)(_:True):Aa PG EC [.agg (Ag r)] [] (eV (Db r)) []:=by
 refine lI ((qT r).trans ?_)
 rw[eN (no:=some (eV ⟨0,0⟩)) (k:=fun b=>bif !b then some (eV ⟨0,0⟩)else bif decide ((r.view.chain.length:Int)=1)then some (eV r.tail.last)else some (eV r.got)) rfl,show decide ((r.view.chain.length:Int)=1)=decide (r.view.chain.length=1) from R4 _ 1]
 unfold Db Co Jg K7
 cases decide (r.view.phase=0) <;> cases decide (r.frozen<=r.view.epoch) <;> cases decide (r.view.phase=3) <;> cases HB r.view.chain r.self <;> cases decide (r.view.chain.length=1) <;> rfl
def Vp:Known:=.spec EC CO EK CP (fun r=>eV (Db r))
theorem T8:Vp.Ok PG:=Known.spec_ok lK
def agD{R:Type}(l:List Member)(k:List Member->Option R):Option R:=gC (dL Ca) CH T5 [Ay l] k
def agE{R:Type}(l:List Entry)(k:List Entry->Option R):Option R:=gC (dL Bf) CH Pf [Ae l] k
def agF{R:Type}(l:List Seen)(k:List Seen->Option R):Option R:=gC (dL BZ) CH T6 [Ax l] k
def agG{R:Type}(l:List Bool)(k:List Bool->Option R):Option R:=gC (dL HA) CH qO [Ch l] k
theorem aed{R:Type}{l:List Member}{k:List Member->Option R}(h:CH l):agD l k=k l:=Aw l (EH l) h (.refl _)
theorem aee{R:Type}{l:List Entry}{k:List Entry->Option R}(h:CH l):agE l k=k l:=Aw l (Eo l) h (.refl _)
theorem aef{R:Type}{l:List Seen}{k:List Seen->Option R}(h:CH l):agF l k=k l:=Aw l (EB l) h (.refl _)
theorem aeg{R:Type}{l:List Bool}{k:List Bool->Option R}(h:CH l):agG l k=k l:=Aw l (O7 l) h (.refl _)
def agH:List Known:=[Kb,La,Mk,T7]
theorem aeh:∀ k ∈ agH,k.Ok PG:=ak Kc (ak KO (ak LD (ak XK AL)))
def agI:Env:=MN agH
theorem conC{n f:Nat}{xs:List AV}{r:AV}(e:Am agI n f xs=some r):Aa PG f xs [] r []:=Ik (md:=fun _=>none) aeh e
theorem agJ(r:Rep):Am agI 3 K9 [.agg (Ag r)]=agD r.view.chain fun a=>agE r.tail.log fun b=>agF r.seen fun c=>agG r.synced fun d=>
  some (.agg (Ag {r with view:={r.view with chain:=a},tail:={r.tail with log:=b},seen:=c,synced:=d})):=by kernel_rfl
def Cw(r:Rep):Prop:=CH r.view.chain/\CH r.tail.log/\CH r.seen/\CH r.synced
theorem aei(r:Rep)(h:Cw r):Aa PG K9 [.agg (Ag r)] [] (.agg (Ag r)) []:=
 conC ((agJ r).trans (by rw[aed h.1,aee h.2.1,aef h.2.2.1,aeg h.2.2.2]))
def lL:Known:=.spec K9 CO Cw CP (fun r=>.agg (Ag r))
theorem Vq:lL.Ok PG:=Known.spec_ok aei
def qU:List AV->List AV->Prop
 | [],[]=>True
 | a::r,b::s=>AR a b/\qU r s
 | _,_=>False
theorem Ei:∀ {a b:List AV},qU a b->Cg a b
 | [],[],_=>.nil
 | _::_,_::_,h=>.cons h.1 (Ei h.2)
 | [],_::_,h=>h.elim
 | _::_,[],h=>h.elim
def toN(r:Rep)(x:Member)(k:Int):List AV:=[.int .i64 k,.int .i64 r.self.node,.int .i64 x.node,.int .i64 x.boot,.int .i64 r.self.boot,.int .i64 r.shard,.int .i64 r.view.epoch,.int .i64 0,.int .i64 0,.int .i64 0,.int .i64 0,.int .i64 0,.bool false,.bool false,.str [],.str [],.cplx .f64 0 0,.cplx .f64 0 0,.int .i64 0,.str [],.str [],.str [],.bool false,.nils,.nils,.nils,.cplx .f64 0 0,.cplx .f64 0 0,.int .i64 0,.nils,.nils]
theorem to_eq(r:Rep)(x:Member)(k:Int):Am Et 6 Mj [.agg (Ag r),.agg (A6 x),.int .i64 k]=some (.agg (toN r x k)):=by kernel_rfl
theorem eQ{a b:List AV}{l:List AV}(h:Cg a b):Cg (l++a) (l++b):=by
 induction l with
 | nil=>exact h
 | cons c l ih=>exact .cons (.refl _) ih
theorem Df{X:Type}{sz:Nat}{e:X->List AV}{z:X}:AR .nils (C5 sz e z []):=AR.nils
theorem aej(r:Rep)(x:Member)(k:Int):Cg (toN r x k) (Ac (P4 r x k)):=
 eQ (l:=[.int .i64 k,.int .i64 r.self.node,.int .i64 x.node,.int .i64 x.boot,.int .i64 r.self.boot,.int .i64 r.shard,.int .i64 r.view.epoch,.int .i64 0,.int .i64 0,.int .i64 0,.int .i64 0,.int .i64 0,.bool false,.bool false,.str [],.str [],.cplx .f64 0 0,.cplx .f64 0 0,.int .i64 0,.str [],.str [],.str [],.bool false])
  (a:=[.nils,.nils,.nils,.cplx .f64 0 0,.cplx .f64 0 0,.int .i64 0,.nils,.nils]) (b:=[Ae [],Ay [],CY [],.cplx .f64 0 0,.cplx .f64 0 0,.int .i64 0,Ae [],Ax []])
  (.cons Df (.cons Df (.cons Df (eQ (l:=[.cplx .f64 0 0,.cplx .f64 0 0,.int .i64 0]) (.cons Df (.cons Df .nil))))))
theorem agL(p:Rep × Member × Int)(_:True):Aa PG Mj [.agg (Ag p.1),.agg (A6 p.2.1),.int .i64 p.2.2] [] (.agg (Ac (P4 p.1 p.2.1 p.2.2))) []:=
 (Jv (to_eq p.1 p.2.1 p.2.2)).res (.agg (aej _ _ _))
abbrev RMI:=Rep × Member × Int
def eU(a:List AV):RMI:=(Cy (AA a 0),Ca (AA a 1),Ar a 2)
def eX(_:RMI):Prop:=True
def eY(p:RMI):List AV:=[.agg (Ag p.1),.agg (A6 p.2.1),.int .i64 p.2.2]
def kTo:Known:=.spec Mj eU eX eY (fun p=>.agg (Ac (P4 p.1 p.2.1 p.2.2)))
theorem qV:kTo.Ok PG:=Known.spec_ok agL
def agM:Known:=.spec Mj eU eX eY (fun p=>.agg (toN p.1 p.2.1 p.2.2))
theorem aek:agM.Ok PG:=Known.spec_ok fun p _=>Jv (to_eq p.1 p.2.1 p.2.2)
theorem qTo{R:Type}{r:Rep}{x:Member}{i:Int}{k:RMI->Option R}:gC eU eX eY [.agg (Ag r),.agg (A6 x),.int .i64 i] k=k (r,x,i):=Aw (r,x,i) (Prod.ext (B8 r) rfl) trivial (.refl _)
theorem of_eq(e:Entry):Am Et 6 QK [.agg (Ai e)]=some (.agg (As (Hp e))):=by kernel_rfl
def T9(a:List AV):Entry:=Bf (AA a 0)
def Ua(_:Entry):Prop:=True
def Ub(e:Entry):List AV:=[.agg (Ai e)]
theorem acz{R:Type}{e:Entry}{k:Entry->Option R}:gC T9 Ua Ub [.agg (Ai e)] k=k e:=Aw e (GK e) trivial (.refl _)
def kOf:Known:=.spec QK T9 Ua Ub (fun e=>.agg (As (Hp e)))
theorem qW:kOf.Ok PG:=Known.spec_ok fun e _=>Jv (of_eq e)
def Mo(o:Option Member):AV:=.tup [.agg (A6 (o.getD default)),.bool o.isSome]
theorem qX(l:List Member)(m:Member):Am YV 6 LA [Ay l,.agg (A6 m)]=XP l m fun y=>
  bif decide (idx y.1 y.2<0)then some (Mo none)else bif decide ((l.length:Int)<=IntKind.i64.wrap (idx y.1 y.2+1))then some (Mo none)else
  rg (IntKind.i64.wrap (idx y.1 y.2+1)) l.length (some (Mo (some (l.getD (IntKind.i64.wrap (idx y.1 y.2+1)).toNat default)))):=by kernel_rfl
theorem qY(l:List Member)(m:Member):Am YV 6 MO [Ay l,.agg (A6 m)]=XP l m fun y=>
  bif decide (idx y.1 y.2<1)then some (Mo none)else
  rg (IntKind.i64.wrap (idx y.1 y.2 - 1)) l.length (some (Mo (some (l.getD (IntKind.i64.wrap (idx y.1 y.2 - 1)).toNat default)))):=by kernel_rfl
theorem qZ{R:Type}{i n:Int}{k:Option R}(h:0<=i/\i<n):rg i n k=k:=by
 unfold rg;rw[decide_eq_true h.1,decide_eq_true h.2];rfl
theorem behind_con(x:LM)(h:Ml x):Aa PG LA [Ay x.1,.agg (A6 x.2)] [] (Mo (FF x.1 x.2 1)) []:=by
 refine lI ((qX x.1 x.2).trans ?_)
 rw[Td h]
 have hb:=qJ x.1 x.2
 have hl:x.1.length<=1000000:=h
 simp only[wrap64 (x:=idx x.1 x.2+1) (by omega)]
 unfold FF
 by_cases h1:idx x.1 x.2<0
 ·rw[decide_eq_true h1,if_pos (Or.inl h1)];rfl
 ·by_cases h2:(x.1.length:Int)<=idx x.1 x.2+1
  ·rw[decide_eq_false h1,decide_eq_true h2,if_pos (Or.inr (Or.inr h2))];rfl
  ·rw[decide_eq_false h1,decide_eq_false h2,if_neg (by omega),qZ (by omega)];rfl
theorem lM(x:LM)(h:Ml x):Aa PG MO [Ay x.1,.agg (A6 x.2)] [] (Mo (FF x.1 x.2 (-1))) []:=by
 refine lI ((qY x.1 x.2).trans ?_)
 rw[Td h]
 have hb:=qJ x.1 x.2
 have hl:x.1.length<=1000000:=h
 simp only[wrap64 (x:=idx x.1 x.2 - 1) (by omega)]
 unfold FF
 by_cases h1:idx x.1 x.2<1
 ·rw[decide_eq_true h1,if_pos (by omega)];rfl
 ·rw[decide_eq_false h1,if_neg (by omega),qZ (by omega)];rfl
def kBehind:Known:=.spec LA Nn Ml Pg (fun x=>Mo (FF x.1 x.2 1))
theorem kBehind_ok:kBehind.Ok PG:=Known.spec_ok behind_con
def R8:Known:=.spec MO Nn Ml Pg (fun x=>Mo (FF x.1 x.2 (-1)))
theorem Ph:R8.Ok PG:=Known.spec_ok lM
def acA:List Known:=[Fz,QL,Ov,Vo,lG,kBehind,R8,kTo,Mn]
theorem zK:∀ k ∈ acA,k.Ok PG:=ak DW (ak No (ak Mm (ak Ow (ak YS (ak kBehind_ok (ak Ph (ak qV (ak Ir AL))))))))
def agN:Env:=MN acA
theorem alE{n f:Nat}{xs:List AV}{r:AV}(e:Am agN n f xs=some r):Aa PG f xs [] r []:=Ik (md:=fun _=>none) zK e
theorem zL(r:Rep)(m:Member):Am agN 6 LC [.agg (Ag r),.agg (A6 m)]=gC eU eX eY [.agg (Ag r),.agg (A6 m),.int .i64 14] fun y=>XP r.view.chain r.self fun z=>
  bif(FF z.1 z.2 1).isSome then some (.agg (Ac {P4 y.1 y.2.1 y.2.2 with ver:=r.got}))else some (.agg (Ac {P4 y.1 y.2.1 y.2.2 with ver:=r.tail.last})):=by kernel_rfl
theorem rA(p:Rep × Member)(h:p.1.view.chain.length<=LB):Aa PG LC [.agg (Ag p.1),.agg (A6 p.2)] [] (.agg (Ac {P4 p.1 p.2 14 with ver:=TZ p.1})) []:=by
 refine alE ((zL p.1 p.2).trans ?_)
 rw[qTo,Td h]
 unfold TZ
 cases (FF p.1.view.chain p.1.self 1).isSome <;> rfl
def WE(a:List AV):Rep × Member:=(Cy (AA a 0),Ca (AA a 1))
def pRM(p:Rep × Member):Prop:=p.1.view.chain.length<=LB
def WG(p:Rep × Member):List AV:=[.agg (Ag p.1),.agg (A6 p.2)]
theorem qRM{R:Type}{r:Rep}{x:Member}{P:Rep × Member->Prop}{k:Rep × Member->Option R}(h:P (r,x)):gC WE P WG [.agg (Ag r),.agg (A6 x)] k=k (r,x):=Aw (r,x) (Prod.ext (B8 r) rfl) h (.refl _)
def YX:Known:=.spec LC WE pRM WG (fun p=>.agg (Ac {P4 p.1 p.2 14 with ver:=TZ p.1}))
theorem WH:YX.Ok PG:=Known.spec_ok rA
end Go.Wk
end
noncomputable section
open Go Go.AM Go.Md
namespace Go.Wk
set_option maxRecDepth 100000
set_option maxHeartbeats 2000000
def acB:List Known:=[Fz,agM,Kb,La,Mk]
theorem zM:∀ k ∈ acB,k.Ok PG:=ak DW (ak aek (ak Kc (ak KO (ak LD AL))))
def Gb:Env:=MN acB
theorem acC{n f:Nat}{xs:List AV}{r:AV}(e:Am Gb n f xs=some r):Aa PG f xs [] r []:=Ik (md:=fun _=>none) zM e
def z31:List AV:=[.int .i64 0,.int .i64 0,.int .i64 0,.int .i64 0,.int .i64 0,.int .i64 0,.int .i64 0,.int .i64 0,.int .i64 0,.int .i64 0,.int .i64 0,.int .i64 0,.bool false,.bool false,.str [],.str [],.cplx .f64 0 0,.cplx .f64 0 0,.int .i64 0,.str [],.str [],.str [],.bool false,.nils,.nils,.nils,.cplx .f64 0 0,.cplx .f64 0 0,.int .i64 0,.nils,.nils]
def zN(r:Rep)(x:Member)(k:Int)(fl:Ver)(a:AV):List AV:=[.int .i64 k,.int .i64 r.self.node,.int .i64 x.node,.int .i64 x.boot,.int .i64 r.self.boot,.int .i64 r.shard,.int .i64 r.view.epoch,.int .i64 0,.int .i64 0,.int .i64 0,.int .i64 0,.int .i64 0,.bool false,.bool false,.str [],.str [],.cplx .f64 0 0,eV fl,.int .i64 0,.str [],.str [],.str [],.bool false,a,.nils,.nils,.cplx .f64 0 0,.cplx .f64 0 0,.int .i64 0,.nils,.nils]
theorem ael(r:Rep)(m:Member):Am Gb 6 J6 [AV.agg (Ag r),AV.agg (A6 m)] =
 gC (eU) (eX) (eY) ([AV.agg (Ag r),AV.agg (A6 m),AV.int IntKind.i64 11]) fun y0=>
 gC (dL Ca) (CH) (T5) ([Ay r.view.chain]) fun y1=>
 gC (dL Bf) (CH) (Pf) ([Ae r.tail.log]) fun y2=>
 gC (dL BZ) (CH) (T6) ([Ax r.seen]) fun y3=>
 some (AV.agg [AV.int IntKind.i64 y0.snd.snd,AV.int IntKind.i64 y0.fst.self.node,AV.int IntKind.i64 y0.snd.fst.node,AV.int IntKind.i64 y0.snd.fst.boot,AV.int IntKind.i64 y0.fst.self.boot,AV.int IntKind.i64 y0.fst.shard,AV.int IntKind.i64 y0.fst.view.epoch,AV.int IntKind.i64 r.view.gen,AV.int IntKind.i64 0,AV.int IntKind.i64 0,AV.int IntKind.i64 0,AV.int IntKind.i64 0,AV.bool false,AV.bool false,AV.str [],AV.str [],AV.cplx FloatKind.f64 0 0,AV.cplx FloatKind.f64 0 0,AV.int IntKind.i64 0,AV.str [],AV.str [],AV.str [],AV.bool false,AV.nils,Ay y1,AV.nils,AV.cplx FloatKind.f64 r.tail.floor.re r.tail.floor.im,AV.cplx FloatKind.f64 r.tail.last.re r.tail.last.im,AV.int IntKind.i64 r.view.gen,Ae y2,Ax y3]):=by kernel_rfl
theorem zO(p:Rep × Member)(h:Cw p.1):Aa PG J6 [.agg (Ag p.1),.agg (A6 p.2)] [] (.agg (Ac (R5 p.1 p.2))) []:=by
 obtain⟨r,m⟩:=p
 have e:=ael r m
 rw[qTo,acx h.1,ajk h.2.1,agz h.2.2.1]at e
 exact(acC e).res (.agg (Ei (by repeat' (first | exact trivial | exact Df | exact AR.refl _ | refine⟨?_,?_⟩))))
def pRS(p:Rep × Member):Prop:=Cw p.1
def acD:Known:=.spec J6 WE pRS WG (fun p=>.agg (Ac (R5 p.1 p.2)))
theorem zP:acD.Ok PG:=Known.spec_ok zO
def SH(r:Rep)(x:Member)(i:Int)(a:AV)(rest:Heap):St:={fr:=[(2,.ptr 0 0 0),(4,.ptr 1 0 0),(5,.ptr 2 0 0),(17,Ae r.tail.log),(18,.int .i64 r.tail.log.length),(19,.int .i64 i),(1003,.undef)],hp:=.arr true 15 [Ag r] :: .arr true 31 [z31] :: .arr true 31 [zN r x 13 r.tail.floor a]::rest}
theorem aem(N:Nat)(r:Rep)(m:Member):Am Gb (N+1) BC [AV.agg (Ag r),AV.agg (A6 m)] =
 gC eU eX eY [AV.agg (Ag r),AV.agg (A6 m),AV.int IntKind.i64 13] fun y0=>LP Gb N 0 BC Bp 0 [] N {fr:=[(2,.ptr 0 0 0),(4,.ptr 1 0 0),(5,.ptr 2 0 0),(17,Ae r.tail.log),(18,.int .i64 r.tail.log.length),(19,.int .i64 0),(1003,.undef)],hp:=[.arr true 15 [Ag r],.arr true 31 [z31],.arr true 31 [((toN y0.1 y0.2.1 y0.2.2).set 17 (eV r.tail.floor))]]}:=by kernel_rfl
theorem lN(N:Nat)(m:Nat)(r:Rep)(x:Member)(i:Int):LP Gb N 0 BC Bp 0 [] (m+1) (SH r x i AV.nils []) =
 bif decide (i<(↑r.tail.log.length:Int))then
  bif decide (0<=i)&&decide (i<(↑r.tail.log.length:Int))then
   gC (DA) (V2) (Dz) ([AV.cplx FloatKind.f64 r.got.re r.got.im,AV.cplx FloatKind.f64 (r.tail.log.getD i.toNat default).ver.re (r.tail.log.getD i.toNat default).ver.im]) fun y4=>
   bif AH y4.fst y4.snd then
    LP (Gb) (N) (0) (BC) (Bp) 0 ([]) (m) (SH r x (IntKind.i64.wrap (i+1)) (AV.sl 11 3 0 1 1) [BS.seq true 11 1 fun i_1=>[Ai (r.tail.log.getD i.toNat default)].getD i_1 (Ai (r.tail.log.getD i.toNat default))])
   else
    LP (Gb) (N) (0) (BC) (Bp) 0 ([]) (m) (SH r x (IntKind.i64.wrap (i+1)) AV.nils [])
  else none
 else
  some (AV.agg [AV.int IntKind.i64 13,AV.int IntKind.i64 r.self.node,AV.int IntKind.i64 x.node,AV.int IntKind.i64 x.boot,AV.int IntKind.i64 r.self.boot,AV.int IntKind.i64 r.shard,AV.int IntKind.i64 r.view.epoch,AV.int IntKind.i64 0,AV.int IntKind.i64 0,AV.int IntKind.i64 0,AV.int IntKind.i64 0,AV.int IntKind.i64 0,AV.bool false,AV.bool false,AV.str [],AV.str [],AV.cplx FloatKind.f64 0 0,AV.cplx FloatKind.f64 r.tail.floor.re r.tail.floor.im,AV.int IntKind.i64 0,AV.str [],AV.str [],AV.str [],AV.bool false,AV.nils,AV.nils,AV.nils,AV.cplx FloatKind.f64 0 0,AV.cplx FloatKind.f64 0 0,AV.int IntKind.i64 0,AV.nils,AV.nils]):=by kernel_rfl
theorem lO(N:Nat)(m:Nat)(r:Rep)(x:Member)(i:Int)(f:Nat->List AV):LP Gb N 0 BC Bp 0 [] (m+1) (SH r x i (AV.sl 11 3 0 1 1) [BS.seq true 11 1 f]) =
 bif decide (i<(↑r.tail.log.length:Int))then
  bif decide (0<=i)&&decide (i<(↑r.tail.log.length:Int))then
   gC (DA) (V2) (Dz) ([AV.cplx FloatKind.f64 r.got.re r.got.im,AV.cplx FloatKind.f64 (r.tail.log.getD i.toNat default).ver.re (r.tail.log.getD i.toNat default).ver.im]) fun y5=>
   bif AH y5.fst y5.snd then
    LP (Gb) (N) (0) (BC) (Bp) 0 ([]) (m) (SH r x (IntKind.i64.wrap (i+1)) (AV.sl 11 3 0 2 0) [BS.seq true 11 2 fun i_1=>bif i_1.blt 1 then f i_1 else bif i_1.blt 2 then [Ai (r.tail.log.getD i.toNat default)].getD (i_1 - 1) []else f 1])
   else
    LP (Gb) (N) (0) (BC) (Bp) 0 ([]) (m) (SH r x (IntKind.i64.wrap (i+1)) (AV.sl 11 3 0 1 1) [BS.seq true 11 1 f])
  else none
 else
  some (AV.agg [AV.int IntKind.i64 13,AV.int IntKind.i64 r.self.node,AV.int IntKind.i64 x.node,AV.int IntKind.i64 x.boot,AV.int IntKind.i64 r.self.boot,AV.int IntKind.i64 r.shard,AV.int IntKind.i64 r.view.epoch,AV.int IntKind.i64 0,AV.int IntKind.i64 0,AV.int IntKind.i64 0,AV.int IntKind.i64 0,AV.int IntKind.i64 0,AV.bool false,AV.bool false,AV.str [],AV.str [],AV.cplx FloatKind.f64 0 0,AV.cplx FloatKind.f64 r.tail.floor.re r.tail.floor.im,AV.int IntKind.i64 0,AV.str [],AV.str [],AV.str [],AV.bool false,AV.tr 11 1 fun i=>f i,AV.nils,AV.nils,AV.cplx FloatKind.f64 0 0,AV.cplx FloatKind.f64 0 0,AV.int IntKind.i64 0,AV.nils,AV.nils]):=by kernel_rfl
theorem lP(N:Nat)(m:Nat)(r:Rep)(x:Member)(i:Int)(n:Nat)(f:Nat->List AV):LP Gb N 0 BC Bp 0 [] (m+1) (SH r x i (AV.sl 11 3 0 n 0) [BS.seq true 11 n f]) =
 bif decide (i<(↑r.tail.log.length:Int))then
  bif decide (0<=i)&&decide (i<(↑r.tail.log.length:Int))then
   gC (DA) (V2) (Dz) ([AV.cplx FloatKind.f64 r.got.re r.got.im,AV.cplx FloatKind.f64 (r.tail.log.getD i.toNat default).ver.re (r.tail.log.getD i.toNat default).ver.im]) fun y6=>
   bif AH y6.fst y6.snd then
    bif n.beq 0||n.ble n then
     bif((n+1)*112).ble 140737488355328&&(n+1).ble 140737488355328 then
      LP (Gb) (N) (0) (BC) (Bp) 0 ([]) (m) (SH r x (IntKind.i64.wrap (i+1)) (AV.sl 11 3 0 (n+1) 0) [BS.seq true 11 (n+1) fun i_1=>bif i_1.blt n then f i_1 else bif i_1.blt (n+1)then [Ai (r.tail.log.getD i.toNat default)].getD (i_1 - n) []else f n])
     else none
    else none
   else
    LP (Gb) (N) (0) (BC) (Bp) 0 ([]) (m) (SH r x (IntKind.i64.wrap (i+1)) (AV.sl 11 3 0 n 0) [BS.seq true 11 n f])
  else none
 else
  bif(n.beq 0||n.ble n)&&true then
   some (AV.agg [AV.int IntKind.i64 13,AV.int IntKind.i64 r.self.node,AV.int IntKind.i64 x.node,AV.int IntKind.i64 x.boot,AV.int IntKind.i64 r.self.boot,AV.int IntKind.i64 r.shard,AV.int IntKind.i64 r.view.epoch,AV.int IntKind.i64 0,AV.int IntKind.i64 0,AV.int IntKind.i64 0,AV.int IntKind.i64 0,AV.int IntKind.i64 0,AV.bool false,AV.bool false,AV.str [],AV.str [],AV.cplx FloatKind.f64 0 0,AV.cplx FloatKind.f64 r.tail.floor.re r.tail.floor.im,AV.int IntKind.i64 0,AV.str [],AV.str [],AV.str [],AV.bool false,AV.tr 11 n fun i=>f i,AV.nils,AV.nils,AV.cplx FloatKind.f64 0 0,AV.cplx FloatKind.f64 0 0,AV.int IntKind.i64 0,AV.nils,AV.nils])
  else none:=by kernel_rfl
def rB(r:Rep)(x:Member)(i:Int)(l:List Entry):St:=SH r x i (gSl 11 3 l) (gBl 11 Ai default l)
theorem WI(N m:Nat)(r:Rep)(x:Member)(i:Int)(l:List Entry)(hl:l.length<=LB):LP Gb N 0 BC Bp 0 [] (m+1) (rB r x i l) =
  bif decide (i<(r.tail.log.length:Int))then rg i r.tail.log.length <| gC DA V2 Dz [eV r.got,eV (r.tail.log.getD i.toNat default).ver] fun y=>
   bif AH y.1 y.2 then LP Gb N 0 BC Bp 0 [] m (rB r x (IntKind.i64.wrap (i+1)) (l++[r.tail.log.getD i.toNat default]))
   else LP Gb N 0 BC Bp 0 [] m (rB r x (IntKind.i64.wrap (i+1)) l)
  else some (.agg (zN r x 13 r.tail.floor (gTr 11 Ai default l))):=by
 unfold LB at hl
 match l,hl with
 | [],_=>exact(lN N m r x i).trans (by rw[qL (z:=default)];rfl)
 | [a],_=>exact(lO N m r x i _).trans (by rw[qM (z:=default)];rfl)
 | a::b::l,hl=>
  refine(lP N m r x i (l.length+2) _).trans ?_
  have h:=YL (e:=Ai) (z:=default) (l:=a::b::l) (by simp) (r.tail.log.getD i.toNat default)
  simp only[List.length_cons]at h hl
  rw[h,rB,ad5 (by simp),ad6 (by simp)]
  simp only[ajj (b:=112) (n:=l.length+2) (by omega) (by omega),Bool.and_true,orU,cond_true]
  rfl
theorem zQ(p:Rep × Member)(h:p.1.tail.log.length<=LB/\Au p.1.got /\ ∀ e ∈ p.1.tail.log,Au e.ver):Aa PG BC [.agg (Ag p.1),.agg (A6 p.2)] [] (.agg (Ac (T1 p.1 p.2))) []:=by
 obtain⟨r,m⟩:=p
 obtain⟨h1,h2,h3⟩:=h
 simp only at h1 h2 h3
 have e:=aem (r.tail.log.length+1) r m
 rw[qTo]at e
 have key:=qN (l:=r.tail.log) (z:=default) (keep:=fun e=>AH r.got e.ver) (G:=fun k i l=>LP Gb (r.tail.log.length+1) 0 BC Bp 0 [] k (rB r m i l)) (fin:=fun l=>some (.agg (zN r m 13 r.tail.floor (gTr 11 Ai default l))))
  (fun k acc ha=>by rw[WI _ _ _ _ _ _ (by omega),HJ,decide_eq_false (by omega),cond_false])
  (fun k i acc hi ha=>by
   rw[WI _ _ _ _ _ _ (by omega),HJ,decide_eq_true hi,cond_true,Bq hi,Int.toNat_natCast]
   show gC DA V2 Dz [.cplx .f64 _ _,.cplx .f64 _ _] _=_
   rw[Jj h2 (h3 _ (getD_mem hi)),Bz (by unfold LB at h1;omega)])
  r.tail.log.length 0 (r.tail.log.length+1) [] (by omega) (by omega) (by simp)
 rw[List.drop_zero,List.nil_append]at key
 exact(acC (e.trans key)).res (.agg (Ei (by repeat' (first | exact trivial | exact Df | exact ad7 _ | exact AR.refl _ | refine⟨?_,?_⟩))))
def pFw(p:Rep × Member):Prop:=p.1.tail.log.length<=LB/\Au p.1.got /\ ∀ e ∈ p.1.tail.log,Au e.ver
def acE:Known:=.spec BC WE pFw WG (fun p=>.agg (Ac (T1 p.1 p.2)))
theorem zR:acE.Ok PG:=Known.spec_ok zQ
def acF:List Known:=[acD,acE,YX,kBehind,R8]
theorem zS:∀ k ∈ acF,k.Ok PG:=ak zP (ak zR (ak WH (ak kBehind_ok (ak Ph AL))))
def Ns:Env:=MN acF
theorem R9{n f:Nat}{xs:List AV}{r:AV}(e:Am Ns n f xs=some r):Aa PG f xs [] r []:=Ik (md:=fun _=>none) zS e
def Vr(r:Rep)(ph:Int):Rep:={r with view:={r.view with phase:=ph}}
def Pj(r:Rep)(ch:List Member)(sy:List Bool):Rep:={r with view:={r.view with phase:=2,chain:=ch},synced:=sy}
theorem eZ{r:Rep}{ph:Int}(h:r.view.phase=ph):r=Vr r ph:=by
 cases r;rename_i v _ _ _ _ _;cases v;simp only at h;subst h;rfl
theorem aen{r:Rep}(h:r.view.phase=2):r=Pj r r.view.chain r.synced:=by
 cases r;rename_i v _ _ _ _ _;cases v;simp only at h;subst h;rfl
def Kd(r:Rep)(fin:List (Rep × Member)->Option AV):List Member->List Bool->List (Rep × Member)->Option AV
 | m::ms,s::ss,acc=>bif !s then gC WE pRS WG [.agg (Ag r),.agg (A6 m)] fun y=>Kd r fin ms ss (acc++[y])else Kd r fin ms ss acc
 | _,_,acc=>fin acc
def Te:List (Rep × Member)->Option AV
 | []=>some .nils
 | l=>some (.trl 31 (l.map fun y=>Ac (R5 y.1 y.2)))
def Le(r:Rep):Option AV:=bif decide (r.frozen<=r.view.epoch)then some .nils else some .nils
theorem zT(r:Rep)(a:Member)(s:Bool):Am Ns 9 C1 [.agg (Ag (Pj r [a] [s]))] =
  bif decide (r.frozen<=r.view.epoch)then bif P5 [a] r.self then Kd (Pj r [a] [s]) Te [a] [s] []else Le r else Le r:=by kernel_rfl
theorem zU(r:Rep)(a b:Member)(s t:Bool):Am Ns 9 C1 [.agg (Ag (Pj r [a,b] [s,t]))] =
  bif decide (r.frozen<=r.view.epoch)then bif P5 [a,b] r.self then Kd (Pj r [a,b] [s,t]) Te [a,b] [s,t] []else Le r else Le r:=by kernel_rfl
theorem zV(r:Rep)(a b c:Member)(s t u:Bool):Am Ns 9 C1 [.agg (Ag (Pj r [a,b,c] [s,t,u]))] =
  bif decide (r.frozen<=r.view.epoch)then bif P5 [a,b,c] r.self then Kd (Pj r [a,b,c] [s,t,u]) Te [a,b,c] [s,t,u] []else Le r else Le r:=by kernel_rfl
theorem zW(r:Rep)(a b c d:Member)(s t u v:Bool):Am Ns 9 C1 [.agg (Ag (Pj r [a,b,c,d] [s,t,u,v]))] =
  bif decide (r.frozen<=r.view.epoch)then bif P5 [a,b,c,d] r.self then Kd (Pj r [a,b,c,d] [s,t,u,v]) Te [a,b,c,d] [s,t,u,v] []else Le r else Le r:=by kernel_rfl
theorem aeo(r:Rep):Am Ns 9 C1 [.agg (Ag (Vr r 0))]=some .nils:=by kernel_rfl
def lQ(r:Rep)(l:List (List AV)):Option AV:=gC Nn Ml Pg [Ay r.view.chain,.agg (A6 r.self)] fun z=>
 bif(FF z.1 z.2 (-1)).isSome then gC WE pRM WG [.agg (Ag r),.agg (A6 ((FF z.1 z.2 (-1)).getD default))] fun a=>some (.trl 31 (l++[Ac {P4 a.1 a.2 14 with ver:=TZ a.1}]))
 else match l with
  | []=>some .nils
  | l=>some (.trl 31 l)
def lR(r:Rep):Option AV:=bif decide (r.frozen<=r.view.epoch)then gC Nn Ml Pg [Ay r.view.chain,.agg (A6 r.self)] fun y=>
   bif(FF y.1 y.2 1).isSome then gC WE pFw WG [.agg (Ag (Vr r 3)),.agg (A6 ((FF y.1 y.2 1).getD default))] fun f=>lQ (Vr r 3) [Ac (T1 f.1 f.2)]
   else lQ (Vr r 3) []
  else some .nils
theorem aep(r:Rep):Am Ns 9 C1 [.agg (Ag (Vr r 3))]=bif decide (r.frozen<=r.view.epoch)then lR r else lR r:=by kernel_rfl
theorem Tf{r:Rep}(h:Cw r){fin:List (Rep × Member)->Option AV}:∀ (l:List Member) (s:List Bool) (acc:List (Rep × Member)),∃ k,Kd r fin l s acc=fin (acc++k)/\k.map (fun y=>R5 y.1 y.2)=QI r l s
 | [],_,acc=>⟨[],by simp[Kd],rfl⟩
 | _::_,[],acc=>⟨[],by simp[Kd],rfl⟩
 | m::ms,s::ss,acc=>by
  cases s with
  | true=>
   obtain⟨k,h1,h2⟩:=Tf h (fin:=fin) ms ss acc
   exact⟨k,h1,h2⟩
  | false=>
   obtain⟨k,h1,h2⟩:=Tf h (fin:=fin) ms ss (acc++[(r,m)])
   refine⟨(r,m)::k,?_,by simp[QI,h2]⟩
   show(gC WE pRS WG [.agg (Ag r),.agg (A6 m)] fun y=>Kd r fin ms ss (acc++[y]))=_
   rw[qRM (P:=pRS) h,h1,List.append_assoc];rfl
theorem Vs(l:List Msg):∀ v,(match l with | []=>AV.nils | l=>.trl 31 (l.map Ac))=v->AR v (AG l):=by
 intro v hv
 subst hv
 match l with
 | []=>exact Df
 | a::l=>exact AR.trl_encL (e:=Ac) (z:=default) (a::l)
structure Gc(r:Rep):Prop where
 short:Cw r
 ph:r.view.phase=0\/r.view.phase=2\/r.view.phase=3
 sync:r.view.phase=2->HB r.view.chain r.self=true/\r.synced.length=r.view.chain.length
 len:r.view.chain.length<=4
 got:Au r.got
 log:∀ e ∈ r.tail.log,Au e.ver
theorem WJ{l:List Member}{m:Member}(hl:l ≠ []):P5 l m=HB l m:=by
 cases l with
 | nil=>exact absurd rfl hl
 | cons x r=>
  unfold P5 HB
  rw[Bool.and_true]
  exact YN x m
theorem fA{r:Rep}(h:r.view.chain.length<=LB)(l:List Msg):lQ r (l.map Ac)=some (match l++XN r with | []=>AV.nils | l=>.trl 31 (l.map Ac)):=by
 unfold lQ XN
 rw[qLM h]
 cases hs:FF r.view.chain r.self (-1)with
 | none=>
  cases l with
  | nil=>rfl
  | cons a l=>simp
 | some m=>
  simp only[Option.isSome_some,cond_true,Option.getD_some]
  rw[qRM (P:=pRM) h]
  cases l with
  | nil=>rfl
  | cons a l=>simp
theorem rC(r:Rep)(h:Gc r):Aa PG C1 [.agg (Ag r)] [] (AG (AD r)) []:=by
 have hLB:r.view.chain.length<=LB:=h.short.1
 rcases h.ph with hp | hp | hp
 ·have ha:AD r=[]:=by
   unfold AD MM Jg K7
   rw[hp];rfl
  rw[ha]
  have:=R9 (aeo r)
  rw[<- eZ hp]at this
  exact this.res Df
 ·obtain⟨hf,hl⟩:=h.sync hp
  have hs:MM r=decide (r.frozen<=r.view.epoch):=by
   unfold MM K7
   rw[hp];cases decide (r.frozen<=r.view.epoch) <;> rfl
  have hw:Jg r=false:=by
   unfold Jg
   rw[hp];cases K7 r <;> rfl
  have key:Am Ns 9 C1 [.agg (Ag r)]=bif decide (r.frozen<=r.view.epoch)then Kd r Te r.view.chain r.synced []else Le r:=by
   have he:=aen hp
   have hch:P5 r.view.chain r.self=true:=by
    rw[WJ (by obtain⟨x,hx⟩:=YK hf;rw[hx];simp)];exact hf
   have hlen:=h.len
   generalize r.view.chain=ch at *
   generalize r.synced=sy at *
   match ch,sy,hl,hlen with
   | [a],[s],_,_=>have:=zT r a s;rw[<- he,hch]at this;exact this
   | [a,b],[s,t],_,_=>have:=zU r a b s t;rw[<- he,hch]at this;exact this
   | [a,b,c],[s,t,u],_,_=>have:=zV r a b c s t u;rw[<- he,hch]at this;exact this
   | [a,b,c,d],[s,t,u,v],_,_=>have:=zW r a b c d s t u v;rw[<- he,hch]at this;exact this
   | [],_,_,_=>simp[HB]at hf
  unfold AD
  rw[hs,hw]
  cases hd:decide (r.frozen<=r.view.epoch)with
  | false=>unfold Le at key;rw[hd]at key;exact(R9 key).res Df
  | true=>
   rw[hd,cond_true]at key
   obtain⟨k,h1,h2⟩:=Tf h.short (fin:=Te) r.view.chain r.synced []
   rw[h1,List.nil_append]at key
   simp only[cond_true]
   rw[<- h2]
   refine(R9 (r:=match k.map (fun y=>R5 y.1 y.2)with | []=>AV.nils | l=>.trl 31 (l.map Ac)) (key.trans ?_)).res (Vs _ _ rfl)
   cases k with
   | nil=>rfl
   | cons a k=>simp[Te,List.map_map,Function.comp_def]
 ·have hs:MM r=false:=by
   unfold MM
   rw[hp];cases K7 r <;> rfl
  have hw:Jg r=decide (r.frozen<=r.view.epoch):=by
   unfold Jg K7
   rw[hp];cases decide (r.frozen<=r.view.epoch) <;> rfl
  have key:=aep r
  unfold lR at key
  rw[<- eZ hp,qLM hLB]at key
  unfold AD
  rw[hs,hw]
  cases hd:decide (r.frozen<=r.view.epoch)with
  | false=>rw[hd]at key;exact(R9 key).res Df
  | true=>
   rw[hd]at key
   simp only[cond_true,cond_false]at key ⊢
   unfold qK
   cases hsd:FF r.view.chain r.self 1 with
   | none=>
    rw[hsd]at key
    have:=fA hLB []
    simp only[Option.isSome_none,cond_false]at key
    exact(R9 (key.trans this)).res (Vs _ _ rfl)
   | some m=>
    rw[hsd]at key
    simp only[Option.isSome_some,cond_true,Option.getD_some]at key
    rw[qRM (P:=pFw) ⟨h.short.2.1,h.got,h.log⟩]at key
    have:=fA hLB [T1 r m]
    exact(R9 (key.trans this)).res (Vs _ _ rfl)
def Uc:Known:=.spec C1 CO Gc CP (fun r=>AG (AD r))
theorem QN:Uc.Ok PG:=Known.spec_ok rC
def Pk(lv:List (Nat × Nat × List Nat))(md:Nat->Option Nat)(l:List Known):Env:={Vm md (Nl l)with live:=fun f b=>QD f b (lv++Vl)}
theorem Sa{lv:List (Nat × Nat × List Nat)}{md:Nat->Option Nat}{l:List Known}(h:∀ k ∈ l,k.Ok PG):C2 PG (Pk lv md l):=⟨kU rfl,TU h⟩
theorem Nt{lv:List (Nat × Nat × List Nat)}{md:Nat->Option Nat}{l:List Known}:F8 PG (Pk lv md l):=QC rfl
theorem zX{lv:List (Nat × Nat × List Nat)}{md:Nat->Option Nat}{l:List Known}(h:∀ k ∈ l,k.Ok PG){n f:Nat}{args:List AV}{r:AV}(e:Am (Pk lv md l) n f args=some r):Aa PG f args [] r []:=
 Tb (Sa h) Nt mixed e
end Go.Wk
end
noncomputable section
open Go Go.AM Go.Md
namespace Go.Wk
set_option maxRecDepth 100000
set_option maxHeartbeats 400000
theorem Cg.trl{sz:Nat}:∀ {a b:List (List AV)},a.length=b.length->(∀ i,i<a.length->Cg (a.getD i []) (b.getD i []))->AR (.trl sz a) (.trl sz b):=by
 intro a b hl h w I u hv
 cases hv with
 | trl _ _ _ h1 hz=>
  refine .trl _ _ _ ?_ hz
  rw[<- hl]
  exact AR.trs h w I u h1
theorem fB{X:Type}{sz:Nat}{f g:X->List AV}(h:∀ x,Cg (f x) (g x))(l:List X):AR (.trl sz (l.map f)) (.trl sz (l.map g)):=by
 refine Cg.trl (by simp) fun i hi=>?_
 have hi:i<l.length:=by simpa using hi
 have e1:(l.map f).getD i []=f l[i]:=by simp[List.getD,List.getElem?_eq_getElem hi]
 have e2:(l.map g).getD i []=g l[i]:=by simp[List.getD,List.getElem?_eq_getElem hi]
 rw[e1,e2];exact h _
def acG:List Known:=[Fz,Ov,lG,Vo]
theorem zY:∀ k ∈ acG,k.Ok PG:=ak DW (ak Mm (ak YS (ak Ow AL)))
def IM:Env:=MN acG
theorem aeq(f:Ver)(l:Ver)(e:Entry):Am IM 9 HI [AV.agg [eV f,eV l,AV.nils],AV.agg (Ai e)] =
 gC (DA) (V2) (Dz) ([AV.cplx FloatKind.f64 l.re l.im,AV.cplx FloatKind.f64 e.ver.re e.ver.im]) fun y0=>
 bif !AH y0.fst y0.snd then
  some (AV.tup [AV.agg [AV.cplx FloatKind.f64 f.re f.im,AV.cplx FloatKind.f64 l.re l.im,AV.nils],AV.bool false])
 else
  some (AV.tup [AV.agg [AV.cplx FloatKind.f64 f.re f.im,AV.cplx FloatKind.f64 e.ver.re e.ver.im,AV.trl 11 [Ai e]],AV.bool true]):=by kernel_rfl
theorem aer(f:Ver)(l:Ver)(e:Entry):Am IM 9 HI [AV.agg [eV f,eV l,AV.trl 11 []],AV.agg (Ai e)] =
 gC (DA) (V2) (Dz) ([AV.cplx FloatKind.f64 l.re l.im,AV.cplx FloatKind.f64 e.ver.re e.ver.im]) fun y1=>
 bif !AH y1.fst y1.snd then
  some (AV.tup [AV.agg [AV.cplx FloatKind.f64 f.re f.im,AV.cplx FloatKind.f64 l.re l.im,AV.trl 11 []],AV.bool false])
 else
  some (AV.tup [AV.agg [AV.cplx FloatKind.f64 f.re f.im,AV.cplx FloatKind.f64 e.ver.re e.ver.im,AV.trl 11 [Ai e]],AV.bool true]):=by kernel_rfl
theorem aes(f:Ver)(l:Ver)(e:Entry)(n:Nat)(g:Nat->List AV):Am IM 9 HI [AV.agg [eV f,eV l,AV.tr 11 (n+1) g],AV.agg (Ai e)] =
 bif((0+(n+1))*112).ble 140737488355328&&(0+(n+1)).ble 140737488355328 then
  gC (DA) (V2) (Dz) ([AV.cplx FloatKind.f64 l.re l.im,AV.cplx FloatKind.f64 e.ver.re e.ver.im]) fun y2=>
  bif !AH y2.fst y2.snd then
   bif(n+1).ble (n+1)&&true&&true then
    some (AV.tup [AV.agg [AV.cplx FloatKind.f64 f.re f.im,AV.cplx FloatKind.f64 l.re l.im,AV.tr 11 (n+1) fun i=>g i],AV.bool false])
   else none
  else
   bif(n+1).ble (n+1)then
    bif((n+1+1)*112).ble 140737488355328&&(n+1+1).ble 140737488355328 then
     bif(n+1+1).ble (n+1+1)&&true&&true then
      some (AV.tup [AV.agg [AV.cplx FloatKind.f64 f.re f.im,AV.cplx FloatKind.f64 e.ver.re e.ver.im,AV.tr 11 (n+1+1) fun i=>bif i.blt (n+1)then g i else bif i.blt (n+1+1)then [Ai e].getD (i - (n+1)) []else g (n+1)],AV.bool true])
     else none
    else none
   else none
 else none:=by kernel_rfl
def Ud(a:Seen):Seen:=⟨1,a.num,a.ver,a.kind,a.code,a.res,a.hasRes⟩
theorem agO(s:Seen):Am IM 20 DK [AV.nils,AV.agg (As s)] =
 some (AV.trl 7 [As s]):=by kernel_rfl
theorem agP(s:Seen):Am IM 20 DK [AV.trl 7 [],AV.agg (As s)] =
 some (AV.trl 7 [As s]):=by kernel_rfl
theorem agQ(a:Seen)(s:Seen):Am IM 20 DK [AV.trl 7 [As (Ud a)],AV.agg (As (Ud s))] =
 bif decide ((Ud a).num<(Ud s).num)then
  some (AV.trl 7 [[AV.int IntKind.i64 1,AV.int IntKind.i64 s.num,AV.cplx FloatKind.f64 s.ver.re s.ver.im,AV.int IntKind.i64 s.kind,AV.int IntKind.i64 s.code,AV.str s.res,AV.bool s.hasRes]])
 else
  some (AV.trl 7 [[AV.int IntKind.i64 1,AV.int IntKind.i64 a.num,AV.cplx FloatKind.f64 a.ver.re a.ver.im,AV.int IntKind.i64 a.kind,AV.int IntKind.i64 a.code,AV.str a.res,AV.bool a.hasRes]]):=by kernel_rfl
def Gd(t:Tail)(e:Entry):Tail × Bool:=bif AH t.last e.ver then(⟨t.floor,e.ver,t.log++[e]⟩,true)else(t,false)
abbrev TE:=Tail × Entry
def rE(a:List AV):TE:=(El (AA a 0),Bf (AA a 1))
def WL(p:TE):Prop:=p.1.log.length<=10000/\Au p.1.last/\Au p.2.ver
def YY(p:TE):List AV:=[.agg (AJ p.1),.agg (Ai p.2)]
def fC(p:TE):AV:=.tup [.agg (AJ (Gd p.1 p.2).1),.bool (Gd p.1 p.2).2]
theorem Lf{n f:Nat}{xs:List AV}{r:AV}(e:Am IM n f xs=some r):Aa PG f xs [] r []:=Ik (md:=fun _=>none) zY e
theorem Is{f l:Ver}{a b:AV}(h:AR a b):AR (.agg [eV f,eV l,a]) (.agg [eV f,eV l,b]):=.agg (.cons (.refl _) (.cons (.refl _) (.cons h .nil)))
theorem aet{f l:Ver}{g:Nat->List AV}{x:AV}:On [.agg [eV f,eV l,.tr 11 0 g],x] [.agg [eV f,eV l,.nils],x] [.agg [eV f,eV l,.trl 11 []],x]:=On.of [] [x] (.agg (On.of [eV f,eV l] [] .nil))
theorem tup2{a b:AV}{c:Bool}(h:AR a b):AR (.tup [a,.bool c]) (.tup [b,.bool c]):=.tup (.cons h (.cons (.refl _) .nil))
theorem one_sub(e:Entry):AR (.trl 11 [Ai e]) (Ae [e]):=AR.trl_of [e] rfl
theorem fD:AR (.trl 11 []) (Ae []):=AR.trl_of [] rfl
theorem zZ{F:Nat}
  (hn:∀ (f l:Ver) (e:Entry),Am IM 9 F [.agg [eV f,eV l,.nils],.agg (Ai e)]=gC DA V2 Dz [.cplx .f64 l.re l.im,.cplx .f64 e.ver.re e.ver.im] fun y=>bif !AH y.1 y.2 then some (.tup [.agg [eV f,eV l,.nils],.bool false])else some (.tup [.agg [eV f,eV e.ver,.trl 11 [Ai e]],.bool true]))
  (he:∀ (f l:Ver) (e:Entry),Am IM 9 F [.agg [eV f,eV l,.trl 11 []],.agg (Ai e)]=gC DA V2 Dz [.cplx .f64 l.re l.im,.cplx .f64 e.ver.re e.ver.im] fun y=>bif !AH y.1 y.2 then some (.tup [.agg [eV f,eV l,.trl 11 []],.bool false])else some (.tup [.agg [eV f,eV e.ver,.trl 11 [Ai e]],.bool true]))
  (hc:∀ (f l:Ver) (e:Entry) (n:Nat) (g:Nat->List AV),n<=10000->Au l->Au e.ver->Am IM 9 F [.agg [eV f,eV l,.tr 11 (n+1) g],.agg (Ai e)] =
   bif AH l e.ver then some (.tup [.agg [eV f,eV e.ver,.tr 11 (n+1+1) fun i=>bif i.blt (n+1)then g i else bif i.blt (n+1+1)then [Ai e].getD (i - (n+1)) []else g (n+1)],.bool true])else some (.tup [.agg [eV f,eV l,.tr 11 (n+1) fun i=>g i],.bool false]))
  (p:TE) (h:WL p):Aa PG F (YY p) [] (fC p) []:=by
 obtain⟨⟨f,l,log⟩,e⟩:=p
 obtain⟨h1,h2,h3⟩:=h
 simp only at h1 h2 h3
 cases log with
 | nil=>
  refine Aa.split aet ?_ ?_
  ·have k:=hn f l e
   rw[Jj h2 h3]at k
   unfold fC Gd
   simp only at k ⊢
   cases hv:AH l e.ver with
   | false=>rw[hv]at k;exact(Lf k).res (tup2 (Is Df))
   | true=>rw[hv]at k;exact(Lf k).res (tup2 (Is (one_sub e)))
  ·have k:=he f l e
   rw[Jj h2 h3]at k
   unfold fC Gd
   simp only at k ⊢
   cases hv:AH l e.ver with
   | false=>rw[hv]at k;exact(Lf k).res (tup2 (Is fD))
   | true=>rw[hv]at k;exact(Lf k).res (tup2 (Is (one_sub e)))
 | cons a log=>
  have k:=hc f l e log.length (fun i=>Ai ((a::log).getD i default)) (by simp only[List.length_cons]at h1;omega) h2 h3
  unfold fC Gd
  simp only
  cases hv:AH l e.ver with
  | false=>rw[hv]at k;exact Lf k
  | true=>
   rw[hv]at k
   refine(Lf k).res (tup2 (Is ?_))
   have:=YB Ai default (a::log) [e]
   have e2:(a::log++[e]).length=log.length+1+1:=by simp
   have e3:Ae (a::log++[e])=.tr 11 (log.length+1+1) fun i=>Ai ((a::log++[e]).getD i default):=by unfold Ae C5;rw[e2]
   show AR _ (Ae (a::log++[e]))
   rw[e3,<- this]
   exact .refl _
theorem lS{n b:Nat}(hb:b<=1000)(h:n<=1000000):(Nat.ble (n*b) 140737488355328&&Nat.ble n 140737488355328)=true:=by
 have h1:n*b<=140737488355328:=by
  have:n*b<=1000000*1000:=Nat.mul_le_mul (by omega) hb
  omega
 rw[Bn h1,Bn (by omega:n<=140737488355328)];rfl
theorem rF(p:TE)(h:WL p):Aa PG HI (YY p) [] (fC p) []:=
 zZ aeq aer (fun f l e n g hn h2 h3=>by
  refine(aes f l e n g).trans ?_
  rw[lS (n:=0+(n+1)) (by omega) (by omega),cond_true,Jj h2 h3]
  simp only[YR,Bool.and_true,cond_true,lS (n:=n+1+1) (b:=112) (by omega) (by omega)]
  cases AH l e.ver <;> rfl) p h
def YZ:Known:=.spec HI rE WL YY fC
theorem WN:YZ.Ok PG:=Known.spec_ok rF
theorem qTE{R:Type}{t:Tail}{e:Entry}{k:TE->Option R}(h:WL (t,e)):gC rE WL YY [.agg (AJ t),.agg (Ai e)] k=k (t,e):=Aw (t,e) (Prod.ext (D9 t) (GK e)) h (.refl _)
abbrev SS:=List Seen × Seen
def fH(a:List AV):SS:=(AN BZ (a.getD 0 .nils),BZ (AA a 1))
def Y0(p:SS):Prop:=(p.1.length<=1 /\ ∀ a ∈ p.1,a.sess=1)/\p.2.sess=1
def Ue(p:SS):List AV:=[Ax p.1,.agg (As p.2)]
def oSS(p:SS):AV:=Ax (putP p.1 p.2)
theorem acH{a:Seen}(h:a.sess=1):a=Ud a:=by cases a;simp only at h;subst h;rfl
theorem put_con{F:Nat}(hn:∀ s,Am IM 20 F [.nils,.agg (As s)]=some (.trl 7 [As s]))(he:∀ s,Am IM 20 F [.trl 7 [],.agg (As s)]=some (.trl 7 [As s]))
  (h1:∀ a s:Seen,Am IM 20 F [.trl 7 [As (Ud a)],.agg (As (Ud s))]=bif decide (a.num<s.num)then some (.trl 7 [As (Ud s)])else some (.trl 7 [As (Ud a)]))
  (p:SS) (h:Y0 p):Aa PG F (Ue p) [] (oSS p) []:=by
 obtain⟨l,s⟩:=p
 obtain⟨⟨g1,g2⟩,g3⟩:=h
 simp only at g1 g2 g3
 have one:∀ s,AR (.trl 7 [As s]) (Ax [s]):=fun s=>AR.trl_of [s] rfl
 cases l with
 | nil=>exact Aa.split (On.of [] [.agg (As s)] .nil) ((Lf (hn s)).res (one s)) ((Lf (he s)).res (one s))
 | cons a l=>
  have:l=[]:=by cases l with
   | nil=>rfl
   | cons b c=>simp at g1
  subst this
  have k:=h1 a s
  rw[<- acH (g2 a (by simp)),<- acH g3]at k
  have key:Aa PG F [.trl 7 [As a],.agg (As s)] [] (Ax (bif decide (a.num<s.num)then [s]else [a])) []:=by
   cases hd:decide (a.num<s.num)with
   | true=>rw[hd]at k;exact(Lf k).res (one s)
   | false=>rw[hd]at k;exact(Lf k).res (one a)
  exact key.args (.cons (AR.encL_trl [a] (by simp)) (.refl _))
theorem aaa(p:SS)(h:Y0 p):Aa PG DK (Ue p) [] (oSS p) []:=put_con agO agP (fun a s=>(agQ a s).trans rfl) p h
def kSPut:Known:=.spec DK fH Y0 Ue oSS
theorem kSPut_ok:kSPut.Ok PG:=Known.spec_ok aaa
theorem qSS{R:Type}{l:List Seen}{s:Seen}{k:SS->Option R}(h:Y0 (l,s)):gC fH Y0 Ue [Ax l,.agg (As s)] k=k (l,s):=Aw (l,s) (Prod.ext (EB l) (Jf s)) h (.refl _)
def acI:List Known:=[YZ,kSPut,kOf]
theorem aab:∀ k ∈ acI,k.Ok PG:=ak WN (ak kSPut_ok (ak qW AL))
def acJ:Env:=MN acI
theorem ajl{n f:Nat}{xs:List AV}{r:AV}(e:Am acJ n f xs=some r):Aa PG f xs [] r []:=Ik (md:=fun _=>none) aab e
theorem aac(r:Rep)(e:Entry):Am acJ 9 ER [AV.agg (Ag r),AV.agg (Ai e)] =
 gC (rE) (WL) (YY) ([AV.agg (AJ r.tail),AV.agg (Ai e)]) fun y0=>
 bif !(Gd y0.fst y0.snd).snd then
  some (AV.tup [AV.agg (Ag r),AV.bool false])
 else
  gC (T9) (Ua) (Ub) ([AV.agg (Ai e)]) fun y1=>
  gC (fH) (Y0) (Ue) ([Ax r.seen,AV.agg [AV.int IntKind.i64 y1.sess,AV.int IntKind.i64 y1.num,AV.cplx FloatKind.f64 y1.ver.re y1.ver.im,AV.int IntKind.i64 y1.kind,AV.int IntKind.i64 y1.code,AV.str y1.res,AV.bool y1.hasRes]]) fun y2=>
  some (AV.tup [AV.agg [AV.int IntKind.i64 r.shard,AV.int IntKind.i64 r.self.node,AV.int IntKind.i64 r.self.boot,AV.int IntKind.i64 r.view.shard,AV.int IntKind.i64 r.view.epoch,AV.int IntKind.i64 r.view.gen,AV.int IntKind.i64 r.view.phase,Ay r.view.chain,AV.int IntKind.i64 r.frozen,AV.cplx FloatKind.f64 (Gd y0.fst y0.snd).fst.floor.re (Gd y0.fst y0.snd).fst.floor.im,AV.cplx FloatKind.f64 (Gd y0.fst y0.snd).fst.last.re (Gd y0.fst y0.snd).fst.last.im,Ae (Gd y0.fst y0.snd).fst.log,Ax (putP y2.fst y2.snd),AV.cplx FloatKind.f64 r.got.re r.got.im,Ch r.synced],AV.bool true]):=by kernel_rfl
structure PushOk(r:Rep)(e:Entry):Prop where
 log:r.tail.log.length<=10000
 last:Au r.tail.last
 ver:Au e.ver
 seen:r.seen.length<=1 /\ ∀ a ∈ r.seen,a.sess=1
 sess:e.sess=1
abbrev RE:=Rep × Entry
def QO(a:List AV):RE:=(Cy (AA a 0),Bf (AA a 1))
def fJ(p:RE):Prop:=PushOk p.1 p.2
def Nu(p:RE):List AV:=[.agg (Ag p.1),.agg (Ai p.2)]
def oRE(p:RE):AV:=.tup [.agg (Ag (pushP p.1 p.2).1),.bool (pushP p.1 p.2).2]
theorem qRE{R:Type}{r:Rep}{e:Entry}{P:RE->Prop}{k:RE->Option R}(h:P (r,e)):gC QO P Nu [.agg (Ag r),.agg (Ai e)] k=k (r,e):=Aw (r,e) (Prod.ext (B8 r) (GK e)) h (.refl _)
theorem aad{r:Rep}{e:Entry}(h:PushOk r e){x:Option AV}(hx:x=gC rE WL YY [.agg (AJ r.tail),.agg (Ai e)] fun y0=>bif !(Gd y0.1 y0.2).2 then some (.tup [.agg (Ag r),.bool false])else gC T9 Ua Ub [.agg (Ai e)] fun y1=>
  gC fH Y0 Ue [Ax r.seen,.agg (As (Hp y1))] fun y2=>some (.tup [.agg (Ag {r with tail:=(Gd y0.1 y0.2).1,seen:=putP y2.1 y2.2}),.bool true])):x=some (oRE (r,e)):=by
 subst hx
 rw[qTE ⟨h.log,h.last,h.ver⟩]
 unfold oRE pushP Gd
 simp only
 cases hv:AH r.tail.last e.ver with
 | false=>rfl
 | true=>
  simp only[cond_true,Bool.not_true,cond_false]
  rw[acz,qSS ⟨h.seen,h.sess⟩]
  rfl
theorem rG(p:RE)(h:fJ p):Aa PG ER (Nu p) [] (oRE p) []:=ajl (aad h (aac p.1 p.2))
def kPush:Known:=.spec ER QO fJ Nu oRE
theorem kPush_ok:kPush.Ok PG:=Known.spec_ok rG
structure QP(t:Tail)(v:Ver):Prop where
 len:t.log.length<=10000
 fl:Au t.floor
 la:Au t.last
 v:Au v
 log:∀ e ∈ t.log,Au e.ver
 le:Fy t.floor t.last
abbrev TV:=Tail × Ver
def dTV(a:List AV):TV:=(El (AA a 0),⟨(BE a 1).1,(BE a 1).2⟩)
def rH(p:TV):Prop:=QP p.1 p.2
def rI(p:TV):List AV:=[.agg (AJ p.1),eV p.2]
def oTV(p:TV):AV:=.agg (AJ (XO p.1 p.2))
theorem qTV{R:Type}{t:Tail}{v:Ver}{k:TV->Option R}(h:QP t v):gC dTV rH rI [.agg (AJ t),eV v] k=k (t,v):=Aw (t,v) (Prod.ext (D9 t) rfl) h (.refl _)
theorem Au.max{a b:Ver}(ha:Au a)(hb:Au b):Au (BB a b):=by
 rcases ad3 a b with e | e <;> rw[e] <;> assumption
def mdL(f:Nat):Option Nat:=bif Nat.beq f A9 then some 5 else bif Nat.beq f Bm then some 5 else bif Nat.beq f C3 then some 0 else none
abbrev EV:=Entry × Ver
def dEV(a:List AV):EV:=(Bf (AA a 0),match a.getD 1 .nils with
 | .tp cs _=>⟨(BE cs 0).1,(BE cs 0).2⟩
 | _=>⟨0,0⟩)
def rJ(p:EV):Prop:=Au p.1.ver/\Au p.2
def rK(p:EV):List AV:=[.agg (Ai p.1),.tp [eV p.2] 0]
def oEV(p:EV):AV:=.bool (!AH p.2 p.1.ver)
def rL:Env:=Pk [] mdL [Fz]
theorem agR{n f:Nat}{xs:List AV}{r:AV}(e:Am rL n f xs=some r):Aa PG f xs [] r []:=zX (ak DW AL) e
theorem c1_eq(e:Entry)(v:Ver):Am rL 5 C3 [AV.agg (Ai e),AV.tp [eV v] 0] =
 gC (DA) (V2) (Dz) ([AV.cplx FloatKind.f64 v.re v.im,AV.cplx FloatKind.f64 e.ver.re e.ver.im]) fun y0=>
 some (AV.bool !AH y0.fst y0.snd):=by kernel_rfl
theorem c1_con(p:EV)(h:rJ p):Aa PG C3 (rK p) [] (oEV p) []:=agR ((c1_eq p.1 p.2).trans (by rw[Jj h.2 h.1];rfl))
def kC1:Known:=.spec C3 dEV rJ rK oEV
theorem kC1_ok:kC1.Ok PG:=Known.spec_ok c1_con
theorem qEV{R:Type}{e:Entry}{v:Ver}{k:EV->Option R}(h:Au e.ver)(h':Au v):gC dEV rJ rK [.agg (Ai e),.tp [.cplx .f64 v.re v.im] 0] k=k (e,v):=Aw (e,v) (Prod.ext (GK e) rfl) ⟨h,h'⟩ (.refl _)
abbrev LV:=List Entry × Ver
def Za(p:LV):Heap:=[.seq true 11 p.1.length fun i=>Ai (p.1.getD i default),.arr true 1 [[eV p.2]]]
def eLV(p:LV):List AV × Heap:=([.sl 11 0 0 p.1.length 0,.fn (.func C3) [] [.ptr 1 0 0]],Za p)
def Ox:Env:=Pk [] mdL [kC1]
def SIx(p:LV)(i:Int):St:={fr:=[(0,.sl 11 0 0 p.1.length 0),(1,.fn (.func C3) [] [.ptr 1 0 0]),(7,.int .i64 p.1.length),(8,.int .i64 i)],hp:=Za p}
theorem ajm(N:Nat)(p:LV):Mh Ox (N+1) Bm (eLV p).1 (eLV p).2=LP Ox N 2 Bm (SF 2) 0 [] N (SIx p 0):=by kernel_rfl
theorem fK(N:Nat)(m:Nat)(p:LV)(i:Int):LP Ox N 2 Bm (SF 2) 0 [] (m+1) (SIx p i) =
 bif decide (i<(↑p.fst.length:Int))then
  bif decide (0<=i)&&decide (i<(↑p.fst.length:Int))then
   bif(0+i.toNat).blt p.fst.length then
    gC (dEV) (rJ) (rK) ([AV.agg (Ai (p.fst.getD (0+i.toNat) default)),AV.tp [AV.cplx FloatKind.f64 p.snd.re p.snd.im] 0]) fun y1=>
    bif !AH y1.snd y1.fst.ver then
     some ((AV.int IntKind.i64 i,[BS.seq true 11 p.fst.length fun i=>Ai (p.fst.getD i default),BS.arr true 1 [[AV.cplx FloatKind.f64 p.snd.re p.snd.im]]]))
    else
     LP (Ox) (N) (2) (Bm) (SF 2) 0 ([]) (m) (SIx p (IntKind.i64.wrap (i+1)))
   else none
  else none
 else
  some ((AV.int IntKind.i64 (-1),[BS.seq true 11 p.fst.length fun i=>Ai (p.fst.getD i default),BS.arr true 1 [[AV.cplx FloatKind.f64 p.snd.re p.snd.im]]])):=by kernel_rfl
def DX(v:Ver):List Entry->Nat->Int
 | [],_=>-1
 | e::r,i=>if AH v e.ver=true then DX v r (i+1)else i
def Pm(_:List AV)(h:Heap):LV:=(match Ab h 0 with
 | .seq _ _ n f=>(List.range n).map fun i=>Bf (f i)
 | _=>[],match Ab h 1 with
 | .arr _ _ [[.cplx _ a b]]=>⟨a,b⟩
 | _=>⟨0,0⟩)
def Uf(p:LV):Prop:=p.1.length<=10000/\Au p.2 /\ ∀ e ∈ p.1,Au e.ver
def oIx(p:LV):AV × Heap:=(.int .i64 (DX p.2 p.1 0),Za p)
def kIx:Known:=.specH Bm Pm Uf eLV oIx
def MQ:Env:=Pk [] mdL [kC1,kIx]
def SDl(p:LV)(i j:Int)(F:Nat->Entry):St:={fr:=[(0,.sl 11 0 0 p.1.length 0),(1,.fn (.func C3) [] [.ptr 1 0 0]),(5,.int .i64 i),(6,.int .i64 j)],hp:=[.seq true 11 p.1.length fun x=>Ai (F x),.arr true 1 [[eV p.2]]]}
theorem agS(N:Nat)(p:LV):Mh MQ (N+1) A9 (eLV p).1 (eLV p).2=Yz Pm Uf eLV (eLV p).1 (eLV p).2 fun y2=>
 bif decide (DX y2.2 y2.1 0 = -1)then some (.sl 11 0 0 p.1.length 0,Za y2)
 else LP MQ N 2 A9 (SF 2) 0 [] N {fr:=[(0,.sl 11 0 0 p.1.length 0),(1,.fn (.func C3) [] [.ptr 1 0 0]),(5,.int .i64 (DX y2.2 y2.1 0)),(6,.int .i64 (IntKind.i64.wrap (DX y2.2 y2.1 0+1)))],hp:=Za y2}:=by kernel_rfl
theorem Zb(N:Nat)(m:Nat)(p:LV)(i:Int)(j:Int)(F:Nat->Entry):LP MQ N 2 A9 (SF 2) 0 [] (m+1) (SDl p i j F) =
 bif decide (j<(↑p.fst.length:Int))then
  bif decide (0<=j)&&decide (j<(↑p.fst.length:Int))then
   bif(0+j.toNat).blt p.fst.length then
    gC (dEV) (rJ) (rK) ([AV.agg (Ai (F (0+j.toNat))),AV.tp [AV.cplx FloatKind.f64 p.snd.re p.snd.im] 0]) fun y2=>
    bif !!AH y2.snd y2.fst.ver then
     bif decide (0<=i)&&decide (i<(↑p.fst.length:Int))then
      bif(0+i.toNat).blt p.fst.length&&true then
       LP (MQ) (N) (2) (A9) (SF 2) 0 ([]) (m) ({fr:=[(0,AV.sl 11 0 0 p.fst.length 0),(1,AV.fn (Fn.func C3) [] [AV.ptr 1 0 0]),(5,AV.int IntKind.i64 (IntKind.i64.wrap (i+1))),(6,AV.int IntKind.i64 (IntKind.i64.wrap (j+1)))],hp:=[BS.seq true 11 p.fst.length fun i'=>bif i'.beq (0+i.toNat)then Ai (F (0+j.toNat))else Ai (F i'),BS.arr true 1 [[AV.cplx FloatKind.f64 p.snd.re p.snd.im]]]})
      else none
     else none
    else
     LP (MQ) (N) (2) (A9) (SF 2) 0 ([]) (m) (SDl p i (IntKind.i64.wrap (j+1)) F)
   else none
  else none
 else
  bif decide (0<=i)&&decide (i<=(↑p.fst.length:Int))then
   bif(p.fst.length - i.toNat).beq 0 then
    bif decide (0<=i)&&decide (i<=(↑(FZ p.fst.length 0):Int))then
     some ((AV.sl 11 0 0 i.toNat 0,[BS.seq true 11 p.fst.length fun x=>Ai (F x),BS.arr true 1 [[AV.cplx FloatKind.f64 p.snd.re p.snd.im]]]))
    else none
   else
    bif(0+i.toNat+(p.fst.length - i.toNat)).ble p.fst.length then
     bif decide (0<=i)&&decide (i<=(↑(FZ p.fst.length 0):Int))then
      some ((AV.sl 11 0 0 i.toNat 0,[BS.seq true 11 p.fst.length fun i_1=>bif i_1.blt (0+i.toNat)then Ai (F i_1)else bif i_1.blt (0+i.toNat+(p.fst.length - i.toNat))then [AV.cplx FloatKind.f64 0 0,AV.int IntKind.i64 0,AV.str [],AV.str [],AV.bool false,AV.bool false,AV.int IntKind.i64 0,AV.int IntKind.i64 0,AV.int IntKind.i64 0,AV.str [],AV.bool false]else Ai (F i_1),BS.arr true 1 [[AV.cplx FloatKind.f64 p.snd.re p.snd.im]]]))
     else none
    else none
  else none:=by kernel_rfl
theorem agT{p:LV}{N:Nat}{r:AV}{h:Heap}(e:Mh Ox N Bm (eLV p).1 (eLV p).2=some (r,h)):Aa PG Bm (eLV p).1 (eLV p).2 r h/\(eLV p).2.length<=h.length:=
 KL (Sa (ak kC1_ok AL)) Nt mixed e
theorem agU(p:LV)(h:Uf p):Aa PG Bm (eLV p).1 (eLV p).2 (oIx p).1 (oIx p).2/\(eLV p).2.length<=(oIx p).2.length:=by
 obtain⟨h1,h2,h3⟩:=h
 have run:∀ d i m,i+d=p.1.length->d<m->LP Ox (p.1.length+1) 2 Bm (SF 2) 0 [] m (SIx p (i:Nat))=some (.int .i64 (DX p.2 (p.1.drop i) i),Za p):=by
  intro d
  induction d with
  | zero=>
   intro i m hi hm
   obtain⟨m,rfl⟩:∃ k,m=k+1:=⟨m - 1,by omega⟩
   rw[fK,HJ,decide_eq_false (by omega),cond_false,List.drop_eq_nil_of_le (by omega)]
   rfl
  | succ d ih=>
   intro i m hi hm
   obtain⟨m,rfl⟩:∃ k,m=k+1:=⟨m - 1,by omega⟩
   have hil:i<p.1.length:=by omega
   rw[fK,HJ,decide_eq_true hil,IL,drop_cons (z:=default) hil]
   simp only[cond_true,Bool.and_true,Int.toNat_natCast,Nat.zero_add,AB hil]
   rw[qEV (h3 _ (getD_mem hil)) h2,Bz (by omega)]
   unfold DX
   cases hv:AH p.2 (p.1.getD i default).ver with
   | true=>
    simp only[Bool.not_true,cond_false,if_true]
    exact ih (i+1) m (by omega) (by omega)
   | false=>
    simp only[Bool.not_false,cond_true]
    rfl
 exact agT ((ajm (p.1.length+1) p).trans (run p.1.length 0 (p.1.length+1) (by omega) (by omega)))
theorem agV:kIx.Ok PG:=Known.specH_ok agU
theorem aae(p:LV):Pm (eLV p).1 (eLV p).2=p:=by
 show((List.range p.1.length).map (fun i=>Bf (Ai (p.1.getD i default))),(⟨p.2.re,p.2.im⟩:Ver))=p
 refine Prod.ext ?_ rfl
 refine List.ext_getElem (by simp) fun i g1 g2=>?_
 simp[GK,List.getD,List.getElem?_eq_getElem g2]
theorem qLV{R:Type}{p:LV}{P:LV->Prop}{k:LV->Option R}(h:P p):Yz Pm P eLV (eLV p).1 (eLV p).2 k=k p:=qF p (aae p) h rfl
def Oy(v:Ver):Nat->Nat->Nat->(Nat->Entry)->Nat × (Nat->Entry)
 | 0,_,i,F=>(i,F)
 | d+1,j,i,F=>bif AH v (F j).ver then Oy v d (j+1) (i+1) (fun x=>bif Nat.beq x i then F j else F x)else Oy v d (j+1) i F
def Zc(n:Nat)(r:Nat × (Nat->Entry)):Nat->Entry:=fun x=>bif Nat.blt x r.1 then r.2 x else bif Nat.blt x (r.1+(n - r.1))then default else r.2 x
theorem del_run{p:LV}(h:Uf p){N:Nat}:∀ d i j m F,j+d=p.1.length->d<m->i<j->(∀ x,j<=x->x<p.1.length->F x=p.1.getD x default) ->
  LP MQ N 2 A9 (SF 2) 0 [] m (SDl p (i:Nat) (j:Nat) F)=some (.sl 11 0 0 (Oy p.2 d j i F).1 0,[.seq true 11 p.1.length fun x=>Ai (Zc p.1.length (Oy p.2 d j i F) x),.arr true 1 [[eV p.2]]]):=by
 obtain⟨h1,h2,h3⟩:=h
 intro d
 induction d with
 | zero=>
  intro i j m F hj hm hij hF
  obtain⟨m,rfl⟩:∃ k,m=k+1:=⟨m - 1,by omega⟩
  have hc:FZ p.1.length 0=p.1.length:=rfl
  rw[Zb,HJ,decide_eq_false (by omega),cond_false,hc]
  have hle:decide ((i:Int)<=(p.1.length:Int))=true:=decide_eq_true (by omega)
  simp only[IL,hle,Bool.and_true,cond_true,Int.toNat_natCast,beq_false (by omega:p.1.length - i ≠ 0),cond_false,Nat.zero_add,Bn (by omega:i+(p.1.length - i)<=p.1.length)]
  congr 5
  funext x
  unfold Zc Oy
  cases Nat.blt x i <;> cases Nat.blt x (i+(p.1.length - i)) <;> rfl
 | succ d ih=>
  intro i j m F hj hm hij hF
  obtain⟨m,rfl⟩:∃ k,m=k+1:=⟨m - 1,by omega⟩
  have hjl:j<p.1.length:=by omega
  have hil:i<p.1.length:=by omega
  rw[Zb,HJ,HJ,decide_eq_true hjl,decide_eq_true hil,IL,IL]
  simp only[cond_true,Bool.and_true,Int.toNat_natCast,Nat.zero_add,AB hjl,AB hil]
  have hFj:=hF j (Nat.le_refl _) hjl
  rw[qEV (by rw[hFj];exact h3 _ (getD_mem hjl)) h2,Bz (by omega),Bz (by omega)]
  unfold Oy
  cases hv:AH p.2 (F j).ver with
  | true=>
   simp only[Bool.not_true,Bool.not_false,cond_true]
   have e:(fun i'=>bif Nat.beq i' i then Ai (F j)else Ai (F i'))=fun x=>Ai (bif Nat.beq x i then F j else F x):=by
    funext x;cases Nat.beq x i <;> rfl
   rw[e]
   exact ih (i+1) (j+1) m _ (by omega) (by omega) (by omega) fun x hx hxl=>by
    rw[beq_false (by omega:x ≠ i),cond_false];exact hF x (by omega) hxl
  | false=>
   simp only[Bool.not_true,Bool.not_false,cond_false]
   exact ih i (j+1) m F (by omega) (by omega) (by omega) fun x hx hxl=>hF x (by omega) hxl
def rD(p:LV):Nat × (Nat->Entry):=Oy p.2 (p.1.length - ((DX p.2 p.1 0).toNat+1)) ((DX p.2 p.1 0).toNat+1) (DX p.2 p.1 0).toNat fun x=>p.1.getD x default
def kD(p:LV):Nat:=if DX p.2 p.1 0 = -1 then p.1.length else(rD p).1
def gD(p:LV):Nat->Entry:=if DX p.2 p.1 0 = -1 then fun x=>p.1.getD x default else Zc p.1.length (rD p)
def WO(p:LV):AV × Heap:=(.sl 11 0 0 (kD p) 0,[.seq true 11 p.1.length fun x=>Ai (gD p x),.arr true 1 [[eV p.2]]])
theorem LF(v:Ver):∀ (l:List Entry) (i:Nat),(DX v l i = -1/\l.filter (fun e=>AH v e.ver)=l) \/ ∃ k:Nat,k<l.length/\DX v l i=((i+k:Nat):Int)/\(l.take (k+1)).filter (fun e=>AH v e.ver)=l.take k
 | [],i=>.inl ⟨rfl,rfl⟩
 | e::l,i=>by
  unfold DX
  cases hv:AH v e.ver with
  | true=>
   rw[if_pos rfl]
   rcases LF v l (i+1)with ⟨h1,h2⟩ | ⟨k,h1,h2,h3⟩
   ·exact .inl ⟨h1,by rw[List.filter_cons,if_pos hv,h2]⟩
   ·refine .inr ⟨k+1,by simp;omega,by rw[h2];congr 1;omega,?_⟩
    rw[List.take_succ_cons,List.filter_cons,if_pos hv,h3,List.take_succ_cons]
  | false=>
   rw[if_neg (by simp)]
   refine .inr ⟨0,by simp,by simp,?_⟩
   simp[hv]
theorem rM{p:LV}{N:Nat}{r:AV}{h:Heap}(e:Mh MQ N A9 (eLV p).1 (eLV p).2=some (r,h)):Aa PG A9 (eLV p).1 (eLV p).2 r h/\(eLV p).2.length<=h.length:=
 KL (Sa (ak kC1_ok (ak agV AL))) Nt mixed e
theorem agW(p:LV)(h:Uf p):Aa PG A9 (eLV p).1 (eLV p).2 (WO p).1 (WO p).2/\(eLV p).2.length<=(WO p).2.length:=by
 have key:=agS (p.1.length+1) p
 rw[qLV h]at key
 rcases LF p.2 p.1 0 with ⟨e1,e2⟩ | ⟨k,e1,e2,e3⟩
 ·rw[e1]at key
  have:WO p=(.sl 11 0 0 p.1.length 0,Za p):=by unfold WO kD gD;rw[if_pos e1,if_pos e1];rfl
  rw[this]
  exact rM key
 ·rw[Nat.zero_add]at e2
  have hne:¬ (DX p.2 p.1 0 = -1):=by rw[e2];omega
  have h1:=h.1
  rw[decide_eq_false hne,cond_false,e2,Bz (by omega)]at key
  have run:=del_run h (N:=p.1.length+1) (p.1.length - (k+1)) k (k+1) (p.1.length+1) (fun x=>p.1.getD x default) (by omega) (by omega) (by omega) (fun x _ _=>rfl)
  have:WO p=(.sl 11 0 0 (Oy p.2 (p.1.length - (k+1)) (k+1) k fun x=>p.1.getD x default).1 0,[.seq true 11 p.1.length fun x=>Ai (Zc p.1.length (Oy p.2 (p.1.length - (k+1)) (k+1) k fun x=>p.1.getD x default) x),.arr true 1 [[eV p.2]]]):=by
   unfold WO kD gD
   rw[if_neg hne,if_neg hne]
   unfold rD
   rw[e2,Int.toNat_natCast]
  rw[this]
  exact rM (key.trans run)
def agX:Known:=.specH A9 Pm Uf eLV WO
theorem aeu:agX.Ok PG:=Known.specH_ok agW
theorem Zd{v:Ver}{l:List Entry}:∀ (d j i:Nat) (F:Nat->Entry),j+d=l.length->i=((l.take j).filter fun e=>AH v e.ver).length->(∀ x,x<i->F x=((l.take j).filter fun e=>AH v e.ver).getD x default) ->
  (∀ x,j<=x->x<l.length->F x=l.getD x default)->i<=j->(Oy v d j i F).1=(l.filter fun e=>AH v e.ver).length /\ ∀ x,x<(Oy v d j i F).1->(Oy v d j i F).2 x=(l.filter fun e=>AH v e.ver).getD x default
 | 0,j,i,F,hj,hi,h1,_,_=>by
  have:l.take j=l:=List.take_of_length_le (by omega)
  rw[this]at hi h1
  exact⟨hi,h1⟩
 | d+1,j,i,F,hj,hi,h1,h2,hij=>by
  have hjl:j<l.length:=by omega
  have hFj:=h2 j (Nat.le_refl _) hjl
  have htk:l.take (j+1)=l.take j++[l.getD j default]:=by
   rw[List.take_add_one,List.getElem?_eq_getElem hjl]
   simp[List.getD,List.getElem?_eq_getElem hjl]
  unfold Oy
  cases hv:AH v (F j).ver with
  | true=>
   simp only[cond_true]
   have hf:(l.take (j+1)).filter (fun e=>AH v e.ver)=(l.take j).filter (fun e=>AH v e.ver)++[l.getD j default]:=by
    rw[htk,List.filter_append]
    congr 1
    rw[hFj]at hv
    rw[List.filter_cons,if_pos hv,List.filter_nil]
   refine Zd d (j+1) (i+1) _ (by omega) (by rw[hf,List.length_append,<- hi];rfl) (fun x hx=>?_) (fun x hx hxl=>?_) (by omega)
   ·rw[hf]
    by_cases e:x=i
    ·subst e
     rw[beq_true rfl,cond_true,hFj]
     rw[hi];simp[List.getD]
    ·rw[beq_false e,cond_false,h1 x (by omega)]
     unfold List.getD
     rw[List.getElem?_append_left (by omega)]
   ·rw[beq_false (by omega:x ≠ i),cond_false];exact h2 x (by omega) hxl
  | false=>
   simp only[cond_false]
   have hf:(l.take (j+1)).filter (fun e=>AH v e.ver)=(l.take j).filter (fun e=>AH v e.ver):=by
    rw[htk,List.filter_append]
    rw[hFj]at hv
    rw[List.filter_cons,if_neg (by rw[hv];simp),List.filter_nil,List.append_nil]
   exact Zd d (j+1) i F (by omega) (by rw[hf];exact hi) (by rw[hf];exact h1) (fun x hx hxl=>h2 x (by omega) hxl) (by omega)
theorem ajn(p:LV):kD p=(p.1.filter fun e=>AH p.2 e.ver).length /\ ∀ x,x<kD p->gD p x=(p.1.filter fun e=>AH p.2 e.ver).getD x default:=by
 unfold kD gD
 rcases LF p.2 p.1 0 with ⟨e1,e2⟩ | ⟨k,e1,e2,e3⟩
 ·rw[if_pos e1,if_pos e1,e2]
  exact⟨rfl,fun x _=>rfl⟩
 ·rw[Nat.zero_add]at e2
  have hne:¬ (DX p.2 p.1 0 = -1):=by rw[e2];omega
  rw[if_neg hne,if_neg hne]
  unfold rD
  rw[e2,Int.toNat_natCast]
  obtain⟨h1,h2⟩:=Zd (v:=p.2) (l:=p.1) (p.1.length - (k+1)) (k+1) k (fun x=>p.1.getD x default) (by omega) (by rw[e3,List.length_take];omega) (fun x hx=>by
   rw[e3]
   unfold List.getD
   rw[List.getElem?_take,if_pos hx]) (fun x _ _=>rfl) (by omega)
  refine⟨h1,fun x hx=>?_⟩
  unfold Zc
  rw[AB hx,cond_true]
  exact h2 x hx
theorem aev(n:Nat)(f:Nat->List AV):Mh Et 2 AK [AV.tr 11 (n+1) f] [] =
 bif((0+(n+1))*112).ble 140737488355328&&(0+(n+1)).ble 140737488355328 then
  some ((AV.sl 11 0 0 (n+1) 0,[BS.seq true 11 (n+1) f]))
 else none:=by kernel_rfl
def pNe(l:List Entry):Prop:=l.length<=10000/\l ≠ []
theorem cW(l:List Entry)(h:pNe l):Aa PG AK [Ae l] [] (YC 11 Ai default l).1 (YC 11 Ai default l).2:=by
 obtain⟨h1,h2⟩:=h
 cases l with
 | nil=>exact absurd rfl h2
 | cons a r=>
  have k:=aev r.length fun i=>Ai ((a::r).getD i default)
  simp only[List.length_cons]at h1
  simp only[lS (n:=0+(r.length+1)) (b:=112) (by omega) (by omega),YR,Bool.and_true,cond_true]at k
  exact(KL (eK (md:=fun _=>none) (l:=[]) fun k hk=>by cases hk) WC mixed k).1
def Ze:Known:=.specB AK (dL Bf) pNe Pf (fun l=>YC 11 Ai default l)
theorem cX:Ze.Ok PG:=Known.specB_ok cW
def lT:Env:=Pk [] mdL [QL,Ze,agX]
theorem ajo{n f:Nat}{xs:List AV}{r:AV}(e:Am lT n f xs=some r):Aa PG f xs [] r []:=zX (ak No (ak cX (ak aeu AL))) e
def Zf:Env:=MN [QL]
theorem rN{n f:Nat}{xs:List AV}{r:AV}(e:Am Zf n f xs=some r):Aa PG f xs [] r []:=Ik (md:=fun _=>none) (ak No AL) e
theorem agY(f:Ver)(l:Ver)(v:Ver):Am Zf 9 HH [AV.agg [eV f,eV l,AV.nils],eV v] =
 gC (DA) (V2) (Dz) ([AV.cplx FloatKind.f64 f.re f.im,AV.cplx FloatKind.f64 v.re v.im]) fun y0=>
 gC (DA) (V2) (Dz) ([AV.cplx FloatKind.f64 l.re l.im,AV.cplx FloatKind.f64 v.re v.im]) fun y1=>
 some (AV.agg [AV.cplx FloatKind.f64 (BB y0.fst y0.snd).re (BB y0.fst y0.snd).im,AV.cplx FloatKind.f64 (BB y1.fst y1.snd).re (BB y1.fst y1.snd).im,AV.nils]):=by kernel_rfl
theorem agZ(f:Ver)(l:Ver)(v:Ver):Am Zf 9 HH [AV.agg [eV f,eV l,AV.trl 11 []],eV v] =
 gC (DA) (V2) (Dz) ([AV.cplx FloatKind.f64 f.re f.im,AV.cplx FloatKind.f64 v.re v.im]) fun y2=>
 gC (DA) (V2) (Dz) ([AV.cplx FloatKind.f64 l.re l.im,AV.cplx FloatKind.f64 v.re v.im]) fun y3=>
 some (AV.agg [AV.cplx FloatKind.f64 (BB y2.fst y2.snd).re (BB y2.fst y2.snd).im,AV.cplx FloatKind.f64 (BB y3.fst y3.snd).re (BB y3.fst y3.snd).im,AV.trl 11 []]):=by kernel_rfl
theorem ag0(f:Ver)(l:Ver)(v:Ver)(lg:List Entry):Am lT 9 HH [AV.agg [eV f,eV l,Ae lg],eV v] =
 gC (dL Bf) (pNe) (Pf) ([Ae lg]) fun y4=>
 Yz (Pm) (Uf) (eLV) ([AV.sl 11 0 0 y4.length 0,AV.fn (Fn.func C3) [] [AV.ptr 1 0 0]]) ([BS.seq true 11 y4.length fun i=>Ai (y4.getD i default),BS.arr true 1 [[AV.cplx FloatKind.f64 v.re v.im]]]) fun y5=>
 gC (DA) (V2) (Dz) ([AV.cplx FloatKind.f64 f.re f.im,AV.cplx FloatKind.f64 y5.snd.re y5.snd.im]) fun y6=>
 gC (DA) (V2) (Dz) ([AV.cplx FloatKind.f64 l.re l.im,AV.cplx FloatKind.f64 y5.snd.re y5.snd.im]) fun y7=>
 bif((kD y5).beq 0||(kD y5).ble y5.fst.length)&&true then
  some (AV.agg [AV.cplx FloatKind.f64 (BB y6.fst y6.snd).re (BB y6.fst y6.snd).im,AV.cplx FloatKind.f64 (BB y7.fst y7.snd).re (BB y7.fst y7.snd).im,AV.tr 11 (kD y5) fun i=>Ai (gD y5 i)])
 else none:=by kernel_rfl
theorem aaf(p:TV)(h:rH p):Aa PG HH (rI p) [] (oTV p) []:=by
 obtain⟨⟨f,l,lg⟩,v⟩:=p
 have h:QP ⟨f,l,lg⟩ v:=h
 have hf:=h.fl
 have hla:=h.la
 have hv:=h.v
 simp only at hf hla
 cases lg with
 | nil=>
  refine Aa.split (On.of [] [eV v] (.agg (On.of [eV f,eV l] [] .nil))) ?_ ?_
  ·have k:=agY f l v
   rw[Jj hf hv,Jj hla hv]at k
   exact(rN k).res (Is Df)
  ·have k:=agZ f l v
   rw[Jj hf hv,Jj hla hv]at k
   exact(rN k).res (Is fD)
 | cons a r=>
  have k:=ag0 f l v (a::r)
  have hp:Uf (a::r,v):=⟨h.len,hv,h.log⟩
  have e0:gC (R:=AV) (dL Bf) pNe Pf [Ae (a::r)]=fun k=>k (a::r):=by funext k;exact Aw _ (Eo _) ⟨h.len,by simp⟩ (.refl _)
  rw[e0]at k
  have k:Am lT 9 HH [.agg [eV f,eV l,Ae (a::r)],eV v]=Yz Pm Uf eLV (eLV (a::r,v)).1 (eLV (a::r,v)).2 fun y5=>gC DA V2 Dz [.cplx .f64 f.re f.im,.cplx .f64 y5.2.re y5.2.im] fun y6=>gC DA V2 Dz [.cplx .f64 l.re l.im,.cplx .f64 y5.2.re y5.2.im] fun y7=>
   bif((kD y5).beq 0||(kD y5).ble y5.1.length)&&true then some (.agg [eV (BB y6.1 y6.2),eV (BB y7.1 y7.2),.tr 11 (kD y5) fun i=>Ai (gD y5 i)])else none:=k
  rw[qLV hp,Jj hf hv,Jj hla hv]at k
  obtain⟨g1,g2⟩:=ajn (a::r,v)
  have hle:(kD (a::r,v)).ble (a::r).length=true:=Bn (by rw[g1];exact List.length_filter_le _ _)
  simp only[hle,Bool.or_true,Bool.and_true,cond_true]at k
  refine(ajo k).res (Is ?_)
  show AR _ (Ae ((a::r).filter fun e=>AH v e.ver))
  unfold Ae C5
  rw[<- g1]
  exact AR.trs fun i hi=>by rw[g2 i hi];exact .refl _
def lU:Known:=.spec HH dTV rH rI oTV
theorem Zg:lU.Ok PG:=Known.spec_ok aaf
def rO:List Known:=[lL,lU,Mn,kPush]
theorem rP:∀ k ∈ rO,k.Ok PG:=ak Vq (ak Zg (ak Ir (ak kPush_ok AL)))
def Zh:Env:=MN rO
theorem ag1{n f:Nat}{xs:List AV}{r:AV}(e:Am Zh n f xs=some r):Aa PG f xs [] r []:=Ik (md:=fun _=>none) rP e
theorem aag(r:Rep)(v:Ver):Am Zh 9 Im [AV.agg (Ag r),eV v] =
 gC (CO) (Cw) (CP) ([AV.agg (Ag r)]) fun y8=>
 gC (dTV) (rH) (rI) ([AV.agg (AJ y8.tail),AV.cplx FloatKind.f64 v.re v.im]) fun y9=>
 some (AV.agg [AV.int IntKind.i64 y8.shard,AV.int IntKind.i64 y8.self.node,AV.int IntKind.i64 y8.self.boot,AV.int IntKind.i64 y8.view.shard,AV.int IntKind.i64 y8.view.epoch,AV.int IntKind.i64 y8.view.gen,AV.int IntKind.i64 y8.view.phase,Ay y8.view.chain,AV.int IntKind.i64 y8.frozen,AV.cplx FloatKind.f64 (BB y9.fst.floor y9.snd).re (BB y9.fst.floor y9.snd).im,AV.cplx FloatKind.f64 (BB y9.fst.last y9.snd).re (BB y9.fst.last y9.snd).im,Ae (List.filter (fun e=>AH y9.snd e.ver) y9.fst.log),Ax y8.seen,AV.cplx FloatKind.f64 y8.got.re y8.got.im,Ch y8.synced]):=by kernel_rfl
def dRV(a:List AV):Rep × Ver:=(Cy (AA a 0),⟨(BE a 1).1,(BE a 1).2⟩)
def fL(p:Rep × Ver):Prop:=Cw p.1/\QP p.1.tail p.2
def rQ(p:Rep × Ver):List AV:=[.agg (Ag p.1),eV p.2]
theorem qRV{R:Type}{r:Rep}{v:Ver}{k:Rep × Ver->Option R}(h:Cw r)(h':QP r.tail v):gC dRV fL rQ [.agg (Ag r),eV v] k=k (r,v):=Aw (r,v) (Prod.ext (B8 r) rfl) ⟨h,h'⟩ (.refl _)
theorem rR(p:Rep × Ver)(h:fL p):Aa PG Im (rQ p) [] (.agg (Ag (Jp p.1 p.2))) []:=by
 obtain⟨r,v⟩:=p
 have k:=aag r v
 rw[R7 (P:=Cw) h.1]at k
 have k:Am Zh 9 Im [.agg (Ag r),eV v]=gC dTV rH rI [.agg (AJ r.tail),eV v] fun y=>some (.agg (Ag {r with tail:=XO y.1 y.2})):=k
 rw[qTV h.2]at k
 exact ag1 k
def rS:Known:=.spec Im dRV fL rQ (fun p=>.agg (Ag (Jp p.1 p.2)))
theorem rT:rS.Ok PG:=Known.spec_ok rR
def acK:List Known:=[Vo,kPush]
theorem aah:∀ k ∈ acK,k.Ok PG:=ak Ow (ak kPush_ok AL)
def Pn:Env:=Pk [] (fun f=>bif Nat.beq f ER then some 0 else none) acK
theorem ajp{n f:Nat}{xs:List AV}{r:AV}(e:Am Pn n f xs=some r):Aa PG f xs [] r []:=zX aah e
def z15:List AV:=[.int .i64 0,.int .i64 0,.int .i64 0,.int .i64 0,.int .i64 0,.int .i64 0,.int .i64 0,.nils,.int .i64 0,.cplx .f64 0 0,.cplx .f64 0 0,.nils,.nils,.cplx .f64 0 0,.nils]
def STk(l:List Entry)(r:Rep)(i:Int):St:={fr:=[(1,Ae l),(2,.ptr 0 0 0),(4,.ptr 1 0 0),(5,.int .i64 i)],hp:=[.arr true 15 [Ag r],.arr true 15 [z15]]}
def lV(l:List Entry)(r:Rep)(i:Int)(K:Rep->Int->Option AV):Option AV:=
 bif decide (i=(l.length:Int))then some (.agg (Ag r))else rg i l.length <|
  gC Np Au Nq [eV (l.getD i.toNat default).ver] fun y0=>gC Np Au Nq [eV r.tail.last] fun y1=>
  bif decide ((nu y0:Int)=IntKind.i64.wrap ((nu y1:Int)+1))then rg i l.length <| gC QO fJ Nu [.agg (Ag r),.agg (Ai (l.getD i.toNat default))] fun y2=>K (pushP y2.1 y2.2).1 (IntKind.i64.wrap (i+1))
  else K r (IntKind.i64.wrap (i+1))
theorem aai(N:Nat)(r:Rep)(l:List Entry):Am Pn (N+1) DT [.agg (Ag r),Ae l]=lV l r 0 fun r i=>JP Pn N 0 DT Bp 0 N (STk l r i):=by kernel_rfl
theorem WQ(N m:Nat)(r:Rep)(l:List Entry)(i:Int):JP Pn N 0 DT Bp 0 (m+1) (STk l r i)=lV l r i fun r i=>JP Pn N 0 DT Bp 0 m (STk l r i):=by kernel_rfl
structure Ht(r:Rep)(l:List Entry):Prop where
 log:r.tail.log.length+l.length<=10000
 last:Au r.tail.last
 seen:r.seen.length<=1 /\ ∀ a ∈ r.seen,a.sess=1
 ent:∀ e ∈ l,Au e.ver/\e.sess=1
theorem Ht.push{r:Rep}{e:Entry}{l:List Entry}(h:Ht r (e::l)):PushOk r e:=⟨by have:=h.log;simp only[List.length_cons]at this;omega,h.last,(h.ent e (by simp)).1,h.seen,(h.ent e (by simp)).2⟩
theorem aaj{l:List Seen}{s:Seen}(h:l.length<=1 /\ ∀ a ∈ l,a.sess=1)(hs:s.sess=1):(putP l s).length<=1 /\ ∀ a ∈ putP l s,a.sess=1:=by
 cases l with
 | nil=>exact⟨by simp[putP],fun a ha=>by simp[putP]at ha;rw[ha];exact hs⟩
 | cons b l=>
  have:l=[]:=by cases l with
   | nil=>rfl
   | cons c d=>simp at h
  subst this
  show(bif decide (b.num<s.num)then [s]else [b]).length<=1 /\ ∀ a ∈ (bif decide (b.num<s.num)then [s]else [b]),a.sess=1
  cases decide (b.num<s.num)with
  | true=>exact⟨by simp,fun a ha=>by simp at ha;rw[ha];exact hs⟩
  | false=>exact h
theorem Ht.next{r:Rep}{e:Entry}{l:List Entry}(h:Ht r (e::l)):Ht r l/\Ht (pushP r e).1 l:=by
 have h1:=h.log
 simp only[List.length_cons]at h1
 refine⟨⟨by omega,h.last,h.seen,fun x hx=>h.ent x (by simp[hx])⟩,?_⟩
 unfold pushP
 cases AH r.tail.last e.ver with
 | false=>exact⟨by simp only[cond_false];omega,h.last,h.seen,fun x hx=>h.ent x (by simp[hx])⟩
 | true=>exact⟨by simp only[cond_true,pushR,List.length_append,List.length_cons,List.length_nil];omega,(h.ent e (by simp)).1,aaj h.seen (h.ent e (by simp)).2,fun x hx=>h.ent x (by simp[hx])⟩
theorem QQ{l:List Entry}{K:Rep->Int->Option AV}{r:Rep}{i:Nat}(h:Ht r (l.drop i))(hl:l.length<=10000)(hi:i<=l.length)(hK:∀ r',i<l.length->Ht r' (l.drop (i+1))->K r' ((i+1:Nat):Int)=some (.agg (Ag (K8 r' (l.drop (i+1)))))) :
  lV l r (i:Int) K=some (.agg (Ag (K8 r (l.drop i)))):=by
 unfold lV
 by_cases e:i=l.length
 ·rw[decide_eq_true (by rw[e]),cond_true,List.drop_eq_nil_of_le (by omega)];rfl
 ·have hil:i<l.length:=by omega
  rw[decide_eq_false (by omega),cond_false,Bq hil,Int.toNat_natCast]
  rw[drop_cons (z:=default) hil]at h ⊢
  obtain⟨n1,n2⟩:=h.next
  have hpush:PushOk r (l.getD i default):=h.push
  have hver:Au (l.getD i default).ver:=(h.ent _ (List.mem_cons_self)).1
  rw[show(fun y0=>gC Np Au Nq [eV r.tail.last] fun y1=>bif decide ((nu y0:Int)=IntKind.i64.wrap ((nu y1:Int)+1))then rg (i:Int) l.length <| gC QO fJ Nu [.agg (Ag r),.agg (Ai (l.getD i default))] fun y2=>K (pushP y2.1 y2.2).1 (IntKind.i64.wrap ((i:Int)+1))else K r (IntKind.i64.wrap ((i:Int)+1))) =
   fun y0=>bif decide ((nu y0:Int)=IntKind.i64.wrap ((nu r.tail.last:Int)+1))then K (pushP r (l.getD i default)).1 (IntKind.i64.wrap ((i:Int)+1))else K r (IntKind.i64.wrap ((i:Int)+1)) from by
    funext y0
    have q1:=qV1 (R:=AV) h.last (k:=fun y1=>bif decide ((nu y0:Int)=IntKind.i64.wrap ((nu y1:Int)+1))then rg (i:Int) l.length <| gC QO fJ Nu [.agg (Ag r),.agg (Ai (l.getD i default))] fun y2=>K (pushP y2.1 y2.2).1 (IntKind.i64.wrap ((i:Int)+1))else K r (IntKind.i64.wrap ((i:Int)+1)))
    refine q1.trans ?_
    rw[Bq hil,qRE (r:=r) (e:=l.getD i default) (P:=fJ) hpush]]
  have q0:=qV1 (R:=AV) hver (k:=fun y0=>bif decide ((nu y0:Int)=IntKind.i64.wrap ((nu r.tail.last:Int)+1))then K (pushP r (l.getD i default)).1 (IntKind.i64.wrap ((i:Int)+1))else K r (IntKind.i64.wrap ((i:Int)+1)))
  refine q0.trans ?_
  have hnl:=h.last.lt.2
  have hw:IntKind.i64.wrap ((nu r.tail.last:Int)+1)=((nu r.tail.last+1:Nat):Int):=wrap64 (by omega)
  rw[hw,Bz (by omega),R4]
  unfold K8
  cases decide (nu (l.getD i default).ver=nu r.tail.last+1)with
  | true=>exact hK _ hil n2
  | false=>exact hK _ hil n1
theorem aak(p:Rep × List Entry)(h:Ht p.1 p.2):Aa PG DT [.agg (Ag p.1),Ae p.2] [] (.agg (Ag (K8 p.1 p.2))) []:=by
 obtain⟨r,l⟩:=p
 have h:Ht r l:=h
 have hl:l.length<=10000:=by have:=h.log;omega
 have run:∀ d i m r,i+d=l.length->d<m->Ht r (l.drop i)->JP Pn (l.length+1) 0 DT Bp 0 m (STk l r (i:Nat))=some (.agg (Ag (K8 r (l.drop i)))):=by
  intro d
  induction d with
  | zero=>
   intro i m r hi hm h
   obtain⟨m,rfl⟩:∃ k,m=k+1:=⟨m - 1,by omega⟩
   rw[WQ]
   exact QQ h hl (by omega) fun r' hlt _=>by omega
  | succ d ih=>
   intro i m r hi hm h
   obtain⟨m,rfl⟩:∃ k,m=k+1:=⟨m - 1,by omega⟩
   rw[WQ]
   exact QQ h hl (by omega) fun r' _ h'=>ih (i+1) m r' (by omega) (by omega) h'
 refine ajp ((aai (l.length+1) r l).trans ?_)
 have:=QQ (l:=l) (K:=fun r i=>JP Pn (l.length+1) 0 DT Bp 0 (l.length+1) (STk l r i)) (r:=r) (i:=0) (by rw[List.drop_zero];exact h) hl (by omega) fun r' hlt h'=>run (l.length - 1) 1 (l.length+1) r' (by omega) (by omega) h'
 rw[List.drop_zero]at this
 exact this
def dRL(a:List AV):Rep × List Entry:=(Cy (AA a 0),AN Bf (a.getD 1 .nils))
def pRL(p:Rep × List Entry):Prop:=Ht p.1 p.2
def eRL(p:Rep × List Entry):List AV:=[.agg (Ag p.1),Ae p.2]
def acL:Known:=.spec DT dRL pRL eRL (fun p=>.agg (Ag (K8 p.1 p.2)))
theorem aal:acL.Ok PG:=Known.spec_ok aak
def Dl(m:Msg)(k:Int):Msg:=⟨k,m.src,m.dst,m.boot,m.sboot,m.shard,m.epoch,m.gen,m.sess,m.num,m.a,m.code,m.has,m.fresh,m.key,m.val,m.ver,m.floor,m.op,m.entries,m.chain,m.views,m.image⟩
def acM:List Known:=[lL,Uc,YX,acL,lU,Fz,QL,YQ,R8,kBehind,kTo,lH,Kb,La,Mk]
theorem aam:∀ k ∈ acM,k.Ok PG:=ak Vq (ak QN (ak WH (ak aal (ak Zg (ak DW (ak No (ak WD (ak Ph (ak kBehind_ok (ak qV (ak YU (ak Kc (ak KO (ak LD AL))))))))))))))
def XQ:Env:=MN acM
theorem Nv{n f:Nat}{xs:List AV}{r:AV}(e:Am XQ n f xs=some r):Aa PG f xs [] r []:=Ik (md:=fun _=>none) aam e
theorem h8(r:Rep)(m:Msg):Am XQ 9 DQ [AV.agg (Ag r),AV.agg (Ac (Dl m 8))] =
 gC (CO) (Cw) (CP) ([AV.agg (Ag r)]) fun y0=>
 bif !decide ((Dl m 8).dst=y0.self.node)then
  some (AV.tup [AV.agg (Ag y0),AV.nils])
 else
  bif !decide ((Dl m 8).boot=y0.self.boot)then
   some (AV.tup [AV.agg (Ag y0),AV.nils])
  else
   bif !decide ((Dl m 8).shard=y0.shard)then
    some (AV.tup [AV.agg (Ag y0),AV.nils])
   else
    bif decide ((Dl m 8).epoch<=y0.view.epoch)then
     some (AV.tup [AV.agg (Ag y0),AV.nils])
    else
     bif decide ((Dl m 8).epoch<y0.frozen)then
      some (AV.tup [AV.agg (Ag y0),AV.nils])
     else
      some (AV.tup [AV.agg [AV.int IntKind.i64 y0.shard,AV.int IntKind.i64 y0.self.node,AV.int IntKind.i64 y0.self.boot,AV.int IntKind.i64 y0.view.shard,AV.int IntKind.i64 y0.view.epoch,AV.int IntKind.i64 y0.view.gen,AV.int IntKind.i64 y0.view.phase,Ay y0.view.chain,AV.int IntKind.i64 m.epoch,AV.cplx FloatKind.f64 y0.tail.floor.re y0.tail.floor.im,AV.cplx FloatKind.f64 y0.tail.last.re y0.tail.last.im,Ae y0.tail.log,Ax y0.seen,AV.cplx FloatKind.f64 y0.got.re y0.got.im,Ch y0.synced],AV.trl 31 [[AV.int IntKind.i64 9,AV.int IntKind.i64 y0.self.node,AV.int IntKind.i64 m.src,AV.int IntKind.i64 0,AV.int IntKind.i64 y0.self.boot,AV.int IntKind.i64 y0.shard,AV.int IntKind.i64 m.epoch,AV.int IntKind.i64 0,AV.int IntKind.i64 0,AV.int IntKind.i64 0,AV.int IntKind.i64 y0.view.epoch,AV.int IntKind.i64 0,AV.bool !decide (y0.view.phase=0),AV.bool false,AV.str [],AV.str [],AV.cplx FloatKind.f64 y0.tail.last.re y0.tail.last.im,AV.cplx FloatKind.f64 0 0,AV.int IntKind.i64 0,AV.str [],AV.str [],AV.str [],AV.bool false,AV.nils,AV.nils,AV.nils,AV.cplx FloatKind.f64 0 0,AV.cplx FloatKind.f64 0 0,AV.int IntKind.i64 0,AV.nils,AV.nils]]]):=by kernel_rfl
def Zi(o:Rep × List Msg):AV:=.tup [.agg (Ag o.1),AG o.2]
def LG(r:Rep):Option AV:=some (.tup [.agg (Ag r),.nils])
theorem gate{R:Type}{a b c:Bool}{X K:Option R}:(bif !a then X else bif !b then X else bif !c then X else K)=bif a&&(b&&c)then K else X:=by cases a <;> cases b <;> cases c <;> rfl
theorem ajq{R:Type}{a b:Bool}{X K:Option R}:(bif a then X else bif b then X else K)=bif !a && !b then K else X:=by cases a <;> cases b <;> rfl
theorem Mx{r:Rep}:AR (.tup [.agg (Ag r),.nils]) (Zi (r,[])):=.tup (.cons (.refl _) (.cons Df .nil))
theorem KP{m:Msg}{k:Int}(h:m.kind=k):Dl m k=m:=by cases m;simp only at h;subst h;rfl
def Zj(r:Rep)(m:Msg)(l:List Member)(ph:Int)(fl la:Ver)(lg se:AV)(go:Ver)(sy:AV):List AV:=
 [.int .i64 r.shard,.int .i64 r.self.node,.int .i64 r.self.boot,.int .i64 m.shard,.int .i64 m.epoch,.int .i64 m.gen,.int .i64 ph,Ay l,.int .i64 r.frozen,eV fl,eV la,lg,se,eV go,sy]
def gt{R:Type}(y:Rep)(m:Msg)(X K:Option R):Option R:=bif !decide (m.dst=y.self.node)then X else bif !decide (m.boot=y.self.boot)then X else bif !decide (m.shard=y.shard)then X else K
theorem ajr{R:Type}{y:Rep}{m:Msg}{X K:Option R}:gt y m X K=bif QJ y m then K else X:=gate
def ag2(m:Msg)(l:List Member):Msg:=⟨10,m.src,m.dst,m.boot,m.sboot,m.shard,m.epoch,m.gen,m.sess,m.num,m.a,m.code,m.has,m.fresh,m.key,m.val,m.ver,m.floor,m.op,m.entries,l,m.views,m.image⟩
theorem aew{m:Msg}(h:m.kind=10):ag2 m m.chain=m:=by cases m;simp only at h;subst h;rfl
def agK(cs:List AV):Option AV:=gC CO Gc CP [.agg cs] fun y=>some (.tup [.agg cs,AG (AD y)])
def lW(y:Rep)(m:Msg)(l:List Member)(ph:Int)(sy:AV):Option AV:=gC (dL Ca) CH T5 [Ay l] fun a=>
 bif m.fresh then gC dI2 pI2 eI2 [.int .i64 m.epoch,.int .i64 0] fun b=>agK (Zj y m a ph (vr b.1 b.2) (vr b.1 b.2) .nils .nils (vr b.1 b.2) sy)
 else agK (Zj y m a ph y.tail.floor y.tail.last (Ae y.tail.log) (Ax y.seen) y.tail.last sy)
def lX(y:Rep)(m:Msg)(K:Option AV):Option AV:=
 bif m.fresh then bif !decide (y.view.phase=0)then bif !decide (y.frozen<=m.epoch)then bif !decide (m.epoch=y.frozen)then LG y else K else K else bif !decide (y.frozen<=m.epoch)then LG y else K
 else bif !decide (y.view.phase=0)then bif !decide (m.epoch=y.frozen)then LG y else K else LG y
def H10(m:Msg)(K:Rep->Option AV):Rep->Option AV:=fun y=>gt y m (LG y) <| bif decide (m.epoch<0)then LG y else bif decide (1099511627776<m.epoch)then LG y else bif decide (m.epoch<=y.view.epoch)then LG y else K y
theorem ajs(r:Rep)(m:Msg)(a:Member):Am XQ 9 DQ [.agg (Ag r),.agg (Ac (ag2 m [a]))] =
  gC CO Cw CP [.agg (Ag r)] (H10 m fun y=>bif !(P5 [a] y.self)then LG y else lX y m (lW y m [a] 3 (.trl 1 [[.bool true]]))):=by kernel_rfl
theorem ag3{m:Msg}{K:Rep->Option AV}{r:Rep}(h0:0<=m.epoch)(h1:m.epoch<=1099511627776):H10 m K r=bif QJ r m then bif decide (m.epoch<=r.view.epoch)then LG r else K r else LG r:=by
 unfold H10
 rw[ajr,decide_eq_false (by omega:¬ m.epoch<0),decide_eq_false (by omega:¬ 1099511627776<m.epoch)]
 rfl
theorem Zk{r:Rep}{m:Msg}{K:Option AV}:lX r m K=bif(m.fresh&&decide (r.frozen<=m.epoch))||(!decide (r.view.phase=0)&&decide (m.epoch=r.frozen))then K else LG r:=by
 unfold lX
 cases m.fresh <;> cases decide (r.view.phase=0) <;> cases decide (r.frozen<=m.epoch) <;> cases decide (m.epoch=r.frozen) <;> rfl
theorem qI2{R:Type}{a b:Int}{k:Nat × Nat->Option R}(ha:0<=a)(hb:0<=b):gC dI2 pI2 eI2 [.int .i64 a,.int .i64 b] k=k (a.toNat,b.toNat):=by
 refine Aw (a.toNat,b.toNat) rfl trivial ?_
 show Cg _ [.int .i64 (a.toNat:Int),.int .i64 (b.toNat:Int)]
 rw[Int.toNat_of_nonneg ha,Int.toNat_of_nonneg hb]
 exact .refl _
theorem rU{cs:List AV}{R':Rep}(hd:Cy cs=R')(hs:Cg cs (Ag R'))(h:Gc R'):agK cs=some (.tup [.agg cs,AG (AD R')]):=by
 unfold agK
 exact Aw (dec:=CO) (pre:=Gc) (enc:=CP) R' hd h (.cons (.agg hs) .nil)
theorem aex{r:Rep}{m:Msg}{l:List Member}{sy:AV}{bs:List Bool}(hl:CH l)(hml:m.chain=l)(h0:0<=m.epoch)(hsy:AN HA sy=bs)(hsb:AR sy (Ch bs))(hbs:bs=true::List.replicate (m.chain.length - 1) false)(hR:Gc (KN r m)) :
  ∃ v,lW r m l (bif decide (m.chain.length=1)then 3 else 2) sy=some v/\AR v (Zi (KN r m,AD (KN r m))):=by
 unfold lW
 rw[acx hl]
 have dR:∀ (fl la go:Ver) (lg se:AV),Cy (Zj r m l (bif decide (m.chain.length=1)then 3 else 2) fl la lg se go sy)=⟨r.shard,⟨r.self.node,r.self.boot⟩,⟨m.shard,m.epoch,m.gen,bif decide (m.chain.length=1)then 3 else 2,l⟩,r.frozen,⟨fl,la,AN Bf lg⟩,AN BZ se,go,bs⟩:=by
  intro fl la go lg se
  show(⟨r.shard,⟨r.self.node,r.self.boot⟩,⟨m.shard,m.epoch,m.gen,bif decide (m.chain.length=1)then 3 else 2,AN Ca (Ay l)⟩,r.frozen,⟨fl,la,AN Bf lg⟩,AN BZ se,go,AN HA sy⟩:Rep)=_
  rw[EH,hsy]
 cases hf:m.fresh with
 | true=>
  rw[cond_true,qI2 h0 (by decide)]
  have e:KN r m=⟨r.shard,⟨r.self.node,r.self.boot⟩,⟨m.shard,m.epoch,m.gen,bif decide (m.chain.length=1)then 3 else 2,l⟩,r.frozen,tail0 m.epoch,[],vr m.epoch.toNat 0,bs⟩:=by
   unfold KN kY
   rw[hf,hbs,hml];rfl
  have hd:=dR (vr m.epoch.toNat 0) (vr m.epoch.toNat 0) (vr m.epoch.toNat 0) .nils .nils
  rw[e]at hR ⊢
  have hs:Cg (Zj r m l (bif decide (m.chain.length=1)then 3 else 2) (vr m.epoch.toNat 0) (vr m.epoch.toNat 0) .nils .nils (vr m.epoch.toNat 0) sy) (Ag ⟨r.shard,⟨r.self.node,r.self.boot⟩,⟨m.shard,m.epoch,m.gen,bif decide (m.chain.length=1)then 3 else 2,l⟩,r.frozen,tail0 m.epoch,[],vr m.epoch.toNat 0,bs⟩):=
   Ei (by repeat' (first | exact trivial | exact Df | exact hsb | exact AR.refl _ | refine⟨?_,?_⟩))
  exact⟨_,rU hd hs hR,.tup (.cons (.agg hs) (.refl _))⟩
 | false=>
  rw[cond_false]
  have e:KN r m=⟨r.shard,⟨r.self.node,r.self.boot⟩,⟨m.shard,m.epoch,m.gen,bif decide (m.chain.length=1)then 3 else 2,l⟩,r.frozen,r.tail,r.seen,r.tail.last,bs⟩:=by
   unfold KN kY
   rw[hf,hbs,hml];rfl
  have hd:=dR r.tail.floor r.tail.last r.tail.last (Ae r.tail.log) (Ax r.seen)
  rw[Eo,EB]at hd
  rw[e]at hR ⊢
  have hs:Cg (Zj r m l (bif decide (m.chain.length=1)then 3 else 2) r.tail.floor r.tail.last (Ae r.tail.log) (Ax r.seen) r.tail.last sy) (Ag ⟨r.shard,⟨r.self.node,r.self.boot⟩,⟨m.shard,m.epoch,m.gen,bif decide (m.chain.length=1)then 3 else 2,l⟩,r.frozen,r.tail,r.seen,r.tail.last,bs⟩):=
   Ei (by repeat' (first | exact trivial | exact hsb | exact AR.refl _ | refine⟨?_,?_⟩))
  exact⟨_,rU hd hs hR,.tup (.cons (.agg hs) (.refl _))⟩
def aan(a:List AV):Rep × Msg:=(Cy (AA a 0),BI (AA a 1))
def lY(p:Rep × Msg):List AV:=[.agg (Ag p.1),.agg (Ac p.2)]
def ag4(p:Rep × Msg):AV:=Zi (GC p.1 p.2)
end Go.Wk
end
noncomputable section
set_option linter.unusedVariables false
set_option linter.unusedSimpArgs false
namespace Go.AM
def D4(c c':AV):Prop:=∀ (w:World) (I:Nat->Prop) (φ:Phi) (u:Value),RV w I φ c u->RV w I φ c' u
def DB(cs cs':List AV):Prop:=cs.length=cs'.length /\ ∀ (k:Nat) c c',cs[k]? = some c->cs'[k]? = some c'->D4 c c'
theorem D4.refl(c:AV):D4 c c:=fun _ _ _ _ h=>h
theorem DB.refl(cs:List AV):DB cs cs:=⟨rfl,fun k c c' e e'=>by rw[e]at e';cases e';exact .refl _⟩
theorem DB.nil:DB [] []:=.refl _
theorem DB.cons{c c':AV}{cs cs':List AV}(h:D4 c c')(h':DB cs cs'):DB (c::cs) (c'::cs'):=by
 refine⟨by simp[h'.1],fun k x x' e e'=>?_⟩
 cases k with
 | zero=>simp at e e';exact e ▸ e' ▸ h
 | succ k=>exact h'.2 k x x' (by simpa using e) (by simpa using e')
theorem DB.get{cs cs':List AV}(h:DB cs cs'){k:Nat}{c':AV}(e:cs'[k]? = some c'):∃ c,cs[k]? = some c/\D4 c c':=by
 have hl:k<cs.length:=by
  rw[h.1]
  rcases Nat.lt_or_ge k cs'.length with h1 | h1
  ·exact h1
  ·rw[List.getElem?_eq_none h1]at e;cases e
 exact⟨_,List.getElem?_eq_getElem hl,h.2 k _ _ (List.getElem?_eq_getElem hl) e⟩
theorem D4.of{c c':AV}(h:AR c c')(hc:BP c=true):D4 c c':=fun w I φ u hv=>
 (h w I u (hv.free hc)).mono (fun _ hB=>⟨hB,rfl⟩) (fun _=>Nat.le_refl _) (Phi.no_le φ)
inductive Gx:BS->BS->Prop
 | refl (x:BS):Gx x x
 | arr (m:Bool) (sz:Nat) (es es':List (List AV)) (hl:es.length=es'.length) (h:∀ (i:Nat) cs cs',es[i]? = some cs->es'[i]? = some cs'->DB cs cs'):Gx (.arr m sz es) (.arr m sz es')
 | seq (m:Bool) (sz n k:Nat) (f g:Nat->List AV) (hk:k<=n) (h:∀ i,i<k->Cg (f i) (g i)):Gx (.seq m sz n f) (.seq m sz k g)
 | one (m:Bool) (sz:Nat) (cs:List AV) (g:Nat->List AV) (h:Cg cs (g 0)) (hf:cs.all BP=true):Gx (.arr m sz [cs]) (.seq m sz 1 g)
 | zero (m:Bool) (sz:Nat) (g:Nat->List AV):Gx (.arr m sz []) (.seq m sz 0 g)
 | pmap (m:Bool) (ks:List (List UInt8)) (v v':List UInt8->AV) (h:∀ s ∈ ks,AR (v s) (v' s)):Gx (.pmap m ks v) (.pmap m ks v')
theorem Gx.kind{x y:BS}(h:Gx x y):live y=live x/\An y=An x/\(y=.none->x=.none)/\(Ds x->Ds y):=by
 cases h with
 | refl=>exact⟨rfl,rfl,id,id⟩
 | arr=>exact⟨rfl,rfl,fun e=>by(cases e),id⟩
 | seq m sz n k f g hk h=>exact⟨rfl,rfl,fun e=>by(cases e),fun e=>by simp only[Ds]at e ⊢;omega⟩
 | one=>exact⟨rfl,rfl,fun e=>by(cases e),fun e=>e.elim⟩
 | zero=>exact⟨rfl,rfl,fun e=>by(cases e),fun e=>e.elim⟩
 | pmap=>exact⟨rfl,rfl,fun e=>by(cases e),fun e=>e.elim⟩
theorem Gx.rb{w:World}{I:Nat->Prop}{φ:Phi}{B o sz:Nat}{x y:BS}(h:Gx x y)(hr:RB w I φ B o sz x):RB w I φ B o sz y:=by
 cases h with
 | refl=>exact hr
 | arr m s es es' hl h=>
  obtain⟨h1,h2,h3,h4⟩:=hr
  have old:∀ (i:Nat) cs',es'[i]? = some cs' -> ∃ cs,es[i]? = some cs/\DB cs cs':=by
   intro i cs' e
   have hi:i<es.length:=by
    rw[hl]
    rcases Nat.lt_or_ge i es'.length with h | h
    ·exact h
    ·rw[List.getElem?_eq_none h]at e;cases e
   exact⟨_,List.getElem?_eq_getElem hi,h i _ _ (List.getElem?_eq_getElem hi) e⟩
  refine⟨h1,h2,fun i cs' e=>?_,fun i cs' k c' e e'=>?_⟩
  ·obtain⟨cs,e1,e2⟩:=old i cs' e
   rw[<- e2.1];exact h3 i cs e1
  ·obtain⟨cs,e1,e2⟩:=old i cs' e
   obtain⟨c,e3,e4⟩:=e2.get e'
   obtain⟨u,a1,a2,a3⟩:=h4 i cs k c e1 e3
   exact⟨u,a1,a2,e4 _ _ _ _ a3⟩
 | seq m s n k0 f g hk h=>
  obtain⟨h1,h2,h3,h4⟩:=hr
  refine⟨h1,h2,fun i hi=>?_,fun i k c' hi e=>?_⟩
  ·rw[<- (h i hi).1];exact h3 i (Nat.lt_of_lt_of_le hi hk)
  ·obtain⟨c,e1,e2⟩:=(h i hi).get e
   obtain⟨u,a1,a2,a3⟩:=h4 i k c (Nat.lt_of_lt_of_le hi hk) e1
   exact⟨u,a1,a2,e2 w I u a3⟩
 | pmap m ks v v' h=>
  obtain⟨h1,h2,mes,clock,h3,h4⟩:=hr
  exact⟨h1,h2,mes,clock,h3,h4.1,fun i s e a b=>let ⟨x,y⟩:=h4.2.1 i s e a b;⟨x,h s (List.mem_of_getElem? a) w I _ y⟩,h4.2.2⟩
 | zero m s g=>
  obtain⟨h1,h2,h3,h4⟩:=hr
  exact⟨h1,h2,fun i hi=>absurd hi (Nat.not_lt_zero i),fun i k c' hi=>absurd hi (Nat.not_lt_zero i)⟩
 | one m s cs g h hf=>
  obtain⟨h1,h2,h3,h4⟩:=hr
  have zero:∀ i,i<1->i=0:=fun i hi=>by omega
  refine⟨h1,h2,fun i hi=>?_,fun i k c' hi e=>?_⟩
  ·rw[zero i hi,<- h.1];exact h3 0 cs rfl
  ·rw[zero i hi]at e ⊢
   obtain⟨c,e1,e2⟩:=h.get e
   obtain⟨u,a1,a2,a3⟩:=h4 0 cs k c rfl e1
   exact⟨u,a1,a2,e2 w I u (a3.free ((List.all_eq_true.1 hf) c (List.mem_of_getElem? e1)))⟩
def HSub(h h':Heap):Prop:=h.length=h'.length /\ ∀ b,Gx (Ab h b) (Ab h' b)
theorem HSub.refl(h:Heap):HSub h h:=⟨rfl,fun b=>.refl _⟩
theorem HSub.nil:HSub [] []:=.refl _
theorem HSub.cons{x y:BS}{h h':Heap}(hx:Gx x y)(hh:HSub h h'):HSub (x::h) (y::h'):=by
 refine⟨by simp[hh.1],fun b=>?_⟩
 cases b with
 | zero=>exact hx
 | succ b=>exact hh.2 b
theorem HSub.rh{w:World}{I:Nat->Prop}{φ:Phi}{h h':Heap}(s:HSub h h')(hh:RH w I φ (Ab h)):RH w I φ (Ab h'):=by
 have k:=fun b=>(s.2 b).kind
 refine⟨fun b e=>hh.none b ((k b).2.2.1 e),fun b e=>?_,fun b b' B o sz o' sz' e e'=>hh.inj b b' B o sz o' sz' ((k b).2.1 ▸ e) ((k b').2.1 ▸ e'),fun b B o sz e=>hh.disj b B o sz ((k b).2.1 ▸ e),
  fun b B o sz e e'=>hh.imm b B o sz ((k b).1 ▸ e) ((k b).2.1 ▸ e'),hh.lt⟩
 rcases hh.blk b ((k b).1 ▸ e)with ⟨B,o,sz,e1,r⟩ | ⟨e1,hp⟩
 ·exact .inl ⟨B,o,sz,e1,(s.2 b).rb r⟩
 ·exact .inr ⟨e1,(k b).2.2.2 hp⟩
theorem HSub.mut{φ:Phi}{h h':Heap}(s:HSub h h'){B:Nat}(hm:Dr φ (Ab h') B):Dr φ (Ab h) B:=by
 obtain⟨b,o,sz,e,e'⟩:=hm
 exact⟨b,o,sz,(s.2 b).kind.2.1 ▸ e,e'⟩
theorem Aa.sub{P:Program}{f:Nat}{args args':List AV}{hp hp' rh:Heap}{r:AV}(h:Aa P f args' hp' r rh)(ha:DB args args')(hs:HSub hp hp'):Aa P f args hp r rh:=by
 intro w I φ ra hh hx
 refine(h w I φ ra (hs.rh hh) ⟨ha.1.symm.trans hx.1,fun k c' u e e'=>?_⟩).mono fun u w' ⟨φ',I',a1,a2,a3⟩=>⟨φ',I',a1,a2,?_⟩
 ·obtain⟨c,e1,e2⟩:=ha.get e
  exact e2 _ _ _ _ (hx.2 k c u e1 e')
 ·exact⟨fun b p hb e=>a3.le b p (hs.1 ▸ hb) e,a3.Ile,fun B hB=>(a3.Inew B hB).imp id (Or.imp hs.mut id),fun B hB=>(a3.mt B hB).imp hs.mut id,a3.ext.weaken fun B hB=>hs.mut hB⟩
theorem Aa.resub{P:Program}{f:Nat}{args:List AV}{hp rh rh':Heap}{r r':AV}(h:Aa P f args hp r rh)(ha:D4 r r')(hs:HSub rh rh'):Aa P f args hp r' rh':=by
 intro w I φ ra hh hx
 exact(h w I φ ra hh hx).mono fun u w' ⟨φ',I',a1,a2,a3⟩=>⟨φ',I',ha _ _ _ _ a1,hs.rh a2,⟨a3.le,a3.Ile,a3.Inew,fun B hB=>a3.mt B (hs.mut hB),a3.ext⟩⟩
def gPG{X:Type}(dec:List AV->Heap->X)(pre:X->Prop)(enc:X->List AV × Heap)(args:List AV)(hp:Heap):Prop:=pre (dec args hp)/\DB args (enc (dec args hp)).1/\HSub hp (enc (dec args hp)).2
def Known.specG{X:Type}(f:Nat)(dec:List AV->Heap->X)(pre:X->Prop)(enc:X->List AV × Heap)(out:X->AV × Heap):Known:=
 {f:=f,ans:=fun args hp=>some {X:=X,g:=cd (gPG dec pre enc args hp),a:=dec args hp,r:=out}}
theorem Known.specG_ok{P:Program}{X:Type}{f:Nat}{dec:List AV->Heap->X}{pre:X->Prop}{enc:X->List AV × Heap}{out:X->AV × Heap}
  (h:∀ x,pre x->Aa P f (enc x).1 (enc x).2 (out x).1 (out x).2/\(enc x).2.length<=(out x).2.length):(Known.specG f dec pre enc out).Ok P:=by
 intro args hp A e hg
 cases e
 obtain⟨h1,h2,h3⟩:=QF.1 hg
 have:=h _ h1
 exact⟨this.1.sub h2 h3,by rw[h3.1];exact this.2⟩
def BF{R:Type}{X:Type}(dec:List AV->Heap->X)(pre:X->Prop)(enc:X->List AV × Heap)(A:List AV)(H:Heap)(k:X->Option R):Option R:=gX (gPG dec pre enc A H) (dec A H) k
theorem BT{R:Type}{X:Type}{dec:List AV->Heap->X}{pre:X->Prop}{enc:X->List AV × Heap}{A:List AV}{H:Heap}{k:X->Option R}(x:X)(h1:dec A H=x)(h2:pre x)(h3:DB A (enc x).1)(h4:HSub H (enc x).2) :
  BF dec pre enc A H k=k x:=by
 subst h1;exact kV ⟨h2,h3,h4⟩
theorem D4.sn{sz b n cm:Nat}:D4 (.sl sz b 0 n cm) (.sn sz b n):=by
 intro w I φ u h
 cases h with
 | sl _ _ B o _ _ _ cap q hφ hq hl hc hs=>
  rw[Nat.zero_mul,Nat.add_zero]at hq
  rw[Nat.zero_add]at hs
  subst hq
  exact .sn sz b n B _ cap hφ hl hs
 | sle _ _ _ a=>exact .sn0 sz b _
theorem D4.unsn{sz b n:Nat}(hn:0<n):D4 (.sn sz b n) (.sl sz b 0 n n):=by
 intro w I φ u h
 cases h with
 | sn0=>exact absurd hn (Nat.lt_irrefl 0)
 | sn _ _ _ B o cap hφ hl hs=>exact .sl sz b B o 0 n n cap o hφ (by simp) hl hl (by simpa using hs)
theorem Aa.nilSn{P:Program}{f:Nat}{args:List AV}(h:Aa P f args [] .nils [])(sz:Nat)(g:Nat->List AV):Aa P f args [] (.sn sz 0 0) [.seq true sz 0 g]:=by
 intro w I φ ra hh hx
 refine(h w I φ ra hh hx).mono fun u w' ⟨φ',I',a1,a2,a3⟩=>?_
 have hp:=a2.phan (nx:=0) (Ic 0) true sz g
 have e:AZ (Ab []) 0 (.seq true sz 0 g)=Ab [.seq true sz 0 g]:=by
  funext b
  cases b with
  | zero=>rw[AS];rfl
  | succ b=>rw[AQ _ _ (Nat.succ_ne_zero b),Ic];simp[Ab]
 rw[e]at hp
 refine⟨φ',I',?_,hp.1,a3.trans (hp.2 _)⟩
 cases a1
 exact .sn0 _ _ _
theorem Aa.blkSn{P:Program}{f:Nat}{args:List AV}{sz n cm:Nat}{x:BS}{g:Nat->List AV}(h:Aa P f args [] (.sl sz 0 0 n cm) [x])(hx:Gx x (.seq true sz n g)) :
  Aa P f args [] (.sn sz 0 n) [.seq true sz n g]:=by
 intro w I φ ra hh hx'
 have hs:HSub [x] [.seq true sz n g]:=.cons hx .nil
 refine(h w I φ ra hh hx').mono fun u w' ⟨φ',I',a1,a2,a3⟩=>⟨φ',I',D4.sn w' I' φ' u a1,hs.rh a2,⟨a3.le,a3.Ile,a3.Inew,fun B hB=>a3.mt B (hs.mut hB),a3.ext⟩⟩
def up(c k:Nat)(i:Nat):Option Nat:=bif Nat.blt i c then some i else some (i+k)
def Cr(c base:Nat)(r:AV)(h:Heap):Option (AV × Heap):=
 let s:=OR c [0] {fr:=[(0,r)],hp:=h}
 some (ren (up c (base - c)) (A3 s.fr 0),(s.hp.take c).map (BD (up c (base - c)))++(List.replicate (base - c) .dead++(s.hp.drop c).map (BD (up c (base - c)))))
def BA(c:Nat)(env:Env)(n f:Nat)(args:List AV)(hp:Heap):Option (AV × Heap):=D2 (R:=AV × Heap) env n f args hp (Cr c hp.length)
theorem NX{c:Nat}{P:Program}{f:Nat}{args:List AV}{hp hp':Heap}{res r:AV}{h:Heap}(hc:c<=hp.length)(k1:Cr c hp.length res hp'=some (r,h))(k2:hp.length<=hp'.length)(hcon:Aa P f args hp res hp') :
  Aa P f args hp r h/\hp.length<=h.length:=by
 have hlen:c<=(OR c [0] {fr:=[(0,res)],hp:=hp'}).hp.length:=by
  show c<=(MB [0] (Jm c [0] {fr:=[(0,res)],hp:=hp'}).hp).length
  rw[O5];exact TR (Nat.le_trans hc k2)
 simp only[Cr,Option.some.injEq,Prod.mk.injEq]at k1
 obtain⟨rfl,rfl⟩:=k1
 refine⟨fun w I φ ra hh hx=>(hcon w I φ ra hh hx).mono fun u w' ⟨φ',I',a1,a2,a3⟩=>?_,by simp;omega⟩
 have hs:Cc w' I' φ' {fr:=[(0,res)],hp:=hp'} {tmps:=#[u],defers:=[]}:=by
  refine⟨a2,fun t=>?_⟩
  cases t with
  | zero=>exact a1
  | succ t=>exact .undef _
 obtain⟨_,φ2,n2,n3⟩:=Yu c [0] hs (Nat.le_trans hc k2)
 generalize OR c [0] {fr:=[(0,res)],hp:=hp'}=s at *
 have st:=(a3.mono hc).trans n3
 obtain⟨k,hk⟩:∃ k,k=hp.length - c:=⟨_,rfl⟩
 rw[<- hk]
 let φ3:Phi:=fun b=>if b<c then φ2 b else if b<hp.length then φ b else φ2 (b - k)
 have hρ:∀ i b',up c k i=some b'->φ3 b'=φ2 i:=by
  intro i b' e
  unfold up at e
  by_cases hi:i<c
  ·rw[AB hi,cond_true]at e;cases e;simp only[φ3,if_pos hi]
  ·rw[CI (by omega),cond_false]at e
   cases e
   simp only[φ3,if_neg (by omega:¬ i+k<c),if_neg (by omega:¬ i+k<hp.length),Nat.add_sub_cancel]
 have hg:∀ b,Ab ((s.hp.take c).map (BD (up c k))++(List.replicate k .dead++(s.hp.drop c).map (BD (up c k)))) b =
   if b<c then BD (up c k) (Ab s.hp b)else if b<hp.length then .dead else BD (up c k) (Ab s.hp (b - k)):=by
  intro b
  have hN:∀ i,(s.hp.length<=i)->BD (up c k) (Ab s.hp i)=.none:=fun i hi=>by rw[EX hi];rfl
  have hl1:((s.hp.take c).map (BD (up c k))).length=c:=by simp;omega
  by_cases h1:b<c
  ·rw[if_pos h1]
   simp only[Ab,List.getD]
   rw[List.getElem?_append_left (by omega)]
   simp only[List.getElem?_map,List.getElem?_take,if_pos h1]
   rw[List.getElem?_eq_getElem (by omega:b<s.hp.length)];rfl
  ·rw[if_neg h1]
   by_cases h2:b<hp.length
   ·rw[if_pos h2]
    simp only[Ab,List.getD]
    rw[List.getElem?_append_right (by omega),List.getElem?_append_left (by simp;omega),List.getElem?_replicate,if_pos (by rw[hl1];omega)];rfl
   ·rw[if_neg h2]
    simp only[Ab,List.getD]
    rw[List.getElem?_append_right (by omega),List.getElem?_append_right (by simp;omega),hl1]
    simp only[List.getElem?_map,List.getElem?_drop,List.length_replicate]
    rw[show c+(b - c - k)=b - k by omega]
    cases e:s.hp[b - k]? with
    | none=>rfl
    | some x=>rfl
 have key:∀ b,live (Ab ((s.hp.take c).map (BD (up c k))++(List.replicate k .dead++(s.hp.drop c).map (BD (up c k)))) b)=true ->
   ∃ i,(i<c/\b=i\/c<=i/\b=i+k)/\Ab ((s.hp.take c).map (BD (up c k))++(List.replicate k .dead++(s.hp.drop c).map (BD (up c k)))) b=BD (up c k) (Ab s.hp i)/\φ3 b=φ2 i/\live (Ab s.hp i)=true:=by
  intro b hl
  rw[hg b]at hl ⊢
  by_cases h1:b<c
  ·rw[if_pos h1]at hl ⊢
   exact⟨b,.inl ⟨h1,rfl⟩,rfl,by simp only[φ3,if_pos h1],(Bb _ _).1 hl⟩
  ·rw[if_neg h1]at hl ⊢
   by_cases h2:b<hp.length
   ·rw[if_pos h2]at hl;cases hl
   ·rw[if_neg h2]at hl ⊢
    exact⟨b - k,.inr ⟨by omega,by omega⟩,rfl,by simp only[φ3,if_neg h1,if_neg h2],(Bb _ _).1 hl⟩
 have hmut:∀ b,An (Ab ((s.hp.take c).map (BD (up c k))++(List.replicate k .dead++(s.hp.drop c).map (BD (up c k)))) b)=true ->
   ∃ i,(i<c/\b=i\/c<=i/\b=i+k)/\φ3 b=φ2 i/\An (Ab s.hp i)=true:=by
  intro b hm
  obtain⟨i,h1,h2,h3,h4⟩:=key b (A5 hm)
  rw[h2]at hm
  exact⟨i,h1,h3,(Bb _ _).2.1 hm⟩
 refine⟨φ3,I',?_,⟨fun b e=>?_,fun b hl=>?_,fun b b' B o sz o' sz' hm hm' e e'=>?_,fun b B o sz hm e=>?_,fun b B o sz hl hm e=>?_,n2.hh.lt⟩,⟨fun b p hb e=>?_,st.Ile,st.Inew,fun B hB=>?_,st.ext⟩⟩
 ·exact(n2.fr 0).ren hρ
 ·rw[hg b]at e
  by_cases h1:b<c
  ·rw[if_pos h1]at e;simp only[φ3,if_pos h1];exact n2.hh.none b ((Bb _ _).2.2.1 e)
  ·rw[if_neg h1]at e
   by_cases h2:b<hp.length
   ·rw[if_pos h2]at e;cases e
   ·rw[if_neg h2]at e;simp only[φ3,if_neg h1,if_neg h2];exact n2.hh.none _ ((Bb _ _).2.2.1 e)
 ·obtain⟨i,h1,h2,h3,h4⟩:=key b hl
  rcases n2.hh.blk i h4 with ⟨B,o,sz,e,r⟩ | ⟨e,hp⟩
  ·exact .inl ⟨B,o,sz,h3.trans e,by rw[h2];exact r.ren hρ⟩
  ·exact .inr ⟨h3.trans e,by rw[h2];exact Fi _ hp⟩
 ·obtain⟨i,h1,h3,h4⟩:=hmut b hm
  obtain⟨i',h1',h3',h4'⟩:=hmut b' hm'
  have:=n2.hh.inj i i' B o sz o' sz' h4 h4' (h3 ▸ e) (h3' ▸ e')
  omega
 ·obtain⟨i,h1,h3,h4⟩:=hmut b hm
  exact n2.hh.disj i B o sz h4 (h3 ▸ e)
 ·obtain⟨i,h1,h2,h3,h4⟩:=key b hl
  rw[h2]at hl hm
  exact n2.hh.imm i B o sz h4 (by rw[<- (Bb (up c k) _).2.2.2 hl];exact hm) (h3 ▸ e)
 ·by_cases h1:b<c
  ·simp only[φ3,if_pos h1];exact st.le b p h1 e
  ·simp only[φ3,if_neg h1,if_pos hb];exact e
 ·obtain⟨b,o,sz,hm,e⟩:=hB
  obtain⟨i,h1,h3,h4⟩:=hmut b hm
  exact st.mt B ⟨i,o,sz,h4,h3 ▸ e⟩
theorem Zl{c:Nat}{P:Program}{env:Env}(henv:C2 P env)(hcode:F8 P env)(hm:P.follows .mixedOrders=true){n f:Nat}{args:List AV}{hp:Heap}{r:AV}{h:Heap}(hc:c<=hp.length)
  (e:BA c env n f args hp=some (r,h)):Aa P f args hp r h/\hp.length<=h.length:=by
 obtain⟨res,hp',k1,k2,hcon⟩:=K5 henv hcode hm n f args hp _ _ e
 exact NX hc k1 k2 hcon
end Go.AM
end
noncomputable section
namespace Go.Md
open Go.AM
structure Item where
 key:List UInt8
 val:List UInt8
 has:Bool
 ver:Ver
deriving DecidableEq,Inhabited
def Af(x:Item):List AV:=[.str x.key,.str x.val,.bool x.has,.cplx .f64 x.ver.re x.ver.im]
def Bd(cs:List AV):Item:=⟨Gu cs 0,Gu cs 1,Ih cs 2,⟨(BE cs 3).1,(BE cs 3).2⟩⟩
theorem cY(x:Item):Bd (Af x)=x:=rfl
def Al(l:List Item):AV:=C5 4 Af default l
theorem E1(l:List Item):AN Bd (Al l)=l:=EO cY l
structure Pump where
 num:Int
 out:List Entry
 done:List Item
deriving DecidableEq,Inhabited
def Bg(x:Pump):List AV:=[.int .i64 x.num,Ae x.out,Al x.done]
def De(cs:List AV):Pump:=⟨Ar cs 0,Fx Bf cs 1,Fx Bd cs 2⟩
theorem HK(x:Pump):De (Bg x)=x:=by
 show(⟨x.num,AN Bf (Ae x.out),AN Bd (Al x.done)⟩:Pump)=x
 rw[Eo,E1]
structure Wait where
 ver:Ver
 dst:Int
 sess:Int
 num:Int
deriving DecidableEq,Inhabited
def Ba(x:Wait):List AV:=[.cplx .f64 x.ver.re x.ver.im,.int .i64 x.dst,.int .i64 x.sess,.int .i64 x.num]
def IN(cs:List AV):Wait:=⟨⟨(BE cs 0).1,(BE cs 0).2⟩,Ar cs 1,Ar cs 2,Ar cs 3⟩
theorem cZ(x:Wait):IN (Ba x)=x:=rfl
def DN(l:List Wait):AV:=C5 4 Ba default l
theorem aao(l:List Wait):AN IN (DN l)=l:=EO cZ l
structure Ask where
 num:Int
 key:List UInt8
 calls:List Msg
deriving DecidableEq,Inhabited
def B4(x:Ask):List AV:=[.int .i64 x.num,.str x.key,AG x.calls]
def Ge(cs:List AV):Ask:=⟨Ar cs 0,Gu cs 1,Fx BI cs 2⟩
theorem Mp(x:Ask):Ge (B4 x)=x:=by
 show(⟨x.num,x.key,AN BI (AG x.calls)⟩:Ask)=x
 rw[R1]
def CF(l:List Ask):AV:=C5 3 B4 default l
theorem aey(l:List Ask):AN Ge (CF l)=l:=EO Mp l
structure Desk where
 rep:Rep
 pump:Pump
 clean:List Item
 busy:Bool
 waits:List Wait
 asks:List Ask
 next:Int
deriving DecidableEq,Inhabited
def AP(x:Desk):List AV:=[.int .i64 x.rep.shard,.int .i64 x.rep.self.node,.int .i64 x.rep.self.boot,.int .i64 x.rep.view.shard,.int .i64 x.rep.view.epoch,.int .i64 x.rep.view.gen,.int .i64 x.rep.view.phase,Ay x.rep.view.chain,.int .i64 x.rep.frozen,.cplx .f64 x.rep.tail.floor.re x.rep.tail.floor.im,.cplx .f64 x.rep.tail.last.re x.rep.tail.last.im,Ae x.rep.tail.log,Ax x.rep.seen,.cplx .f64 x.rep.got.re x.rep.got.im,Ch x.rep.synced,.int .i64 x.pump.num,Ae x.pump.out,Al x.pump.done,Al x.clean,.bool x.busy,DN x.waits,CF x.asks,.int .i64 x.next]
def IP(cs:List AV):Desk:=⟨⟨Ar cs 0,⟨Ar cs 1,Ar cs 2⟩,⟨Ar cs 3,Ar cs 4,Ar cs 5,Ar cs 6,Fx Ca cs 7⟩,Ar cs 8,⟨⟨(BE cs 9).1,(BE cs 9).2⟩,⟨(BE cs 10).1,(BE cs 10).2⟩,Fx Bf cs 11⟩,Fx BZ cs 12,⟨(BE cs 13).1,(BE cs 13).2⟩,Fx HA cs 14⟩,⟨Ar cs 15,Fx Bf cs 16,Fx Bd cs 17⟩,Fx Bd cs 18,Ih cs 19,Fx IN cs 20,Fx Ge cs 21,Ar cs 22⟩
theorem Jk(x:Desk):IP (AP x)=x:=by
 show(⟨⟨x.rep.shard,⟨x.rep.self.node,x.rep.self.boot⟩,⟨x.rep.view.shard,x.rep.view.epoch,x.rep.view.gen,x.rep.view.phase,AN Ca (Ay x.rep.view.chain)⟩,x.rep.frozen,⟨⟨x.rep.tail.floor.re,x.rep.tail.floor.im⟩,⟨x.rep.tail.last.re,x.rep.tail.last.im⟩,AN Bf (Ae x.rep.tail.log)⟩,AN BZ (Ax x.rep.seen),⟨x.rep.got.re,x.rep.got.im⟩,AN HA (Ch x.rep.synced)⟩,⟨x.pump.num,AN Bf (Ae x.pump.out),AN Bd (Al x.pump.done)⟩,AN Bd (Al x.clean),x.busy,AN IN (DN x.waits),AN Ge (CF x.asks),x.next⟩:Desk)=x
 simp only[EH,Eo,EB,O7,E1,aao,aey]
structure Conf where
 nodes:Int
 chain:Int
 shards:Int
 clients:Int
 maxKey:Int
 maxVal:Int
 high:Int
 low:Int
 room:Int
 maxLog:Int
 batch:Int
 sessions:Int
 suspect:Int
 patience:Int
 maxSeq:Int
deriving DecidableEq,Inhabited
def CG(x:Conf):List AV:=[.int .i64 x.nodes,.int .i64 x.chain,.int .i64 x.shards,.int .i64 x.clients,.int .i64 x.maxKey,.int .i64 x.maxVal,.int .i64 x.high,.int .i64 x.low,.int .i64 x.room,.int .i64 x.maxLog,.int .i64 x.batch,.int .i64 x.sessions,.int .i64 x.suspect,.int .i64 x.patience,.int .i64 x.maxSeq]
def JK(cs:List AV):Conf:=⟨Ar cs 0,Ar cs 1,Ar cs 2,Ar cs 3,Ar cs 4,Ar cs 5,Ar cs 6,Ar cs 7,Ar cs 8,Ar cs 9,Ar cs 10,Ar cs 11,Ar cs 12,Ar cs 13,Ar cs 14⟩
theorem SJ(x:Conf):JK (CG x)=x:=rfl
end Go.Md
end
noncomputable section
open Go Go.AM Go.Md
namespace Go.Hd
open Go.Wk
set_option maxRecDepth 100000
set_option maxHeartbeats 400000
def asc(f:Nat):List (Nat × Nat)->Option Nat
 | []=>none
 | (g,m)::r=>bif Nat.beq f g then some m else asc f r
def BU(lv:List (Nat × Nat × List Nat))(md:List (Nat × Nat))(fz:List (Nat × Nat × List Nat))(l:List Known):Env:=
 {Vm (fun f=>asc f md) (Nl l)with live:=fun f b=>QD f b (lv++Vl),frz:=fun f b=>QD f b fz}
theorem Fo{lv:List (Nat × Nat × List Nat)}{md:List (Nat × Nat)}{fz:List (Nat × Nat × List Nat)}{l:List Known}(h:∀ k ∈ l,k.Ok PG):C2 PG (BU lv md fz l):=⟨kU rfl,TU h⟩
theorem Dm{lv:List (Nat × Nat × List Nat)}{md:List (Nat × Nat)}{fz:List (Nat × Nat × List Nat)}{l:List Known}:F8 PG (BU lv md fz l):=QC rfl
theorem BQ{lv:List (Nat × Nat × List Nat)}{md:List (Nat × Nat)}{fz:List (Nat × Nat × List Nat)}{l:List Known}(h:∀ k ∈ l,k.Ok PG){n f:Nat}{args:List AV}{r:AV}(e:Am (BU lv md fz l) n f args=some r):Aa PG f args [] r []:=
 Tb (Fo h) Dm mixed e
theorem conC{lv:List (Nat × Nat × List Nat)}{md:List (Nat × Nat)}{fz:List (Nat × Nat × List Nat)}{l:List Known}(h:∀ k ∈ l,k.Ok PG){c n f:Nat}{args:List AV}{hp:Heap}{r:AV}{h':Heap}(hc:c<=hp.length)
  (e:BA c (BU lv md fz l) n f args hp=some (r,h')):Aa PG f args hp r h'/\hp.length<=h'.length:=Zl (Fo h) Dm mixed hc e
theorem Zm{lv:List (Nat × Nat × List Nat)}{md:List (Nat × Nat)}{fz:List (Nat × Nat × List Nat)}{l:List Known}(h:∀ k ∈ l,k.Ok PG){n f:Nat}{args:List AV}{r:AV}{h':Heap}
  (e:BA 0 (BU lv md fz l) n f args []=some (r,h')):Aa PG f args [] r h':=(Zl (Fo h) Dm mixed (Nat.le_refl 0) e).1
theorem Hc{F sz b:Nat}(hb:b<=1000)(hn:Am Et 2 F [.nils]=some .nils)(he:Mh Et 2 F [.trl sz []] []=some (.sl sz 0 0 0 0,[.arr true sz []]))
  (hs:∀ n f,Mh Et 2 F [.tr sz (n+1) f] []=bif Nat.ble ((0+(n+1))*b) 140737488355328&&Nat.ble (0+(n+1)) 140737488355328 then some (.sl sz 0 0 (n+1) 0,[.seq true sz (n+1) f])else none)
  {n:Nat} (f:Nat->List AV) (h:n<=100000):Aa PG F [.tr sz n f] [] (.sn sz 0 n) [.seq true sz n f]:=by
 have e0:Et=BU [] [] [] []:=rfl
 rw[e0]at hn he hs
 cases n with
 | zero=>
  refine Aa.split (On.of [] [] .nil) ((BQ (fun k hk=>by cases hk) hn).nilSn sz f) ?_
  have:=(KL (Fo (fun k hk=>by cases hk)) Dm mixed he).1
  exact this.blkSn (.zero true sz f)
 | succ n=>
  have h1:n+1<=100000:=h
  have:=hs n f
  rw[Bn (by have:=Nat.mul_le_mul h1 hb;rw[Nat.zero_add];omega),Bn (by omega)]at this
  have:=(KL (Fo (fun k hk=>by cases hk)) Dm mixed this).1
  exact this.blkSn (.refl _)
theorem Nw{n:Nat}(f:Nat->List AV)(h:n<=100000):Aa PG Br [.tr 4 n f] [] (.sn 4 0 n) [.seq true 4 n f]:=Hc (b:=56) (by omega) (by kernel_rfl) (by kernel_rfl) (fun n f=>by kernel_rfl) f h
theorem WR{n:Nat}(f:Nat->List AV)(h:n<=100000):Aa PG FQ [.tr 4 n f] [] (.sn 4 0 n) [.seq true 4 n f]:=Hc (b:=40) (by omega) (by kernel_rfl) (by kernel_rfl) (fun n f=>by kernel_rfl) f h
theorem Zn{n:Nat}(f:Nat->List AV)(h:n<=100000):Aa PG Gv [.tr 3 n f] [] (.sn 3 0 n) [.seq true 3 n f]:=Hc (b:=48) (by omega) (by kernel_rfl) (by kernel_rfl) (fun n f=>by kernel_rfl) f h
theorem Gf{n:Nat}(f:Nat->List AV)(h:n<=100000):Aa PG AK [.tr 11 n f] [] (.sn 11 0 n) [.seq true 11 n f]:=Hc (b:=112) (by omega) (by kernel_rfl) (by kernel_rfl) (fun n f=>by kernel_rfl) f h
theorem Zo{n:Nat}(f:Nat->List AV)(h:n<=100000):Aa PG Gw [.tr 31 n f] [] (.sn 31 0 n) [.seq true 31 n f]:=Hc (b:=392) (by omega) (by kernel_rfl) (by kernel_rfl) (fun n f=>by kernel_rfl) f h
theorem rV{n:Nat}(f:Nat->List AV)(h:n<=100000):Aa PG FR [.tr 5 n f] [] (.sn 5 0 n) [.seq true 5 n f]:=Hc (b:=56) (by omega) (by kernel_rfl) (by kernel_rfl) (fun n f=>by kernel_rfl) f h
def Ep(a:List AV):Nat × (Nat->List AV):=match a.getD 0 .nils with
 | .tr _ n f=>(n,f)
 | .trl _ es=>(es.length,fun i=>es.getD i [])
 | _=>(0,fun _=>[])
def Er(sz:Nat)(p:Nat × (Nat->List AV)):List AV:=[.tr sz p.1 p.2]
def Es(p:Nat × (Nat->List AV)):Prop:=p.1<=100000
def Nx(F sz:Nat):Known:=.specB F Ep Es (Er sz) (fun p=>(.sn sz 0 p.1,[.seq true sz p.1 p.2]))
def FH(F sz:Nat):Known:=.spec F Ep Es (Er sz) (fun p=>.tr sz p.1 p.2)
theorem It{F sz:Nat}(h:∀ {n:Nat} (f:Nat->List AV),n<=100000->Aa PG F [.tr sz n f] [] (.sn sz 0 n) [.seq true sz n f]):(Nx F sz).Ok PG:=Known.specB_ok fun p hp=>h p.2 hp
theorem Dn{F sz:Nat}(h:∀ {n:Nat} (f:Nat->List AV),n<=100000->Aa PG F [.tr sz n f] [] (.sn sz 0 n) [.seq true sz n f]):(FH F sz).Ok PG:=Known.spec_ok fun p hp=>
 (h p.2 hp).snapped (by
  show(match IF 400 (Ab [.seq true sz p.1 p.2]) (.sn sz 0 p.1)with
   | some (r,_,g)=>bif g then some r else none
   | none=>none)=_
  show(bif Nat.ble p.1 p.1 then some (AV.tr sz p.1 p.2)else none)=_
  rw[Bn (Nat.le_refl _)];rfl)
theorem WT{R:Type}{sz n:Nat}{f:Nat->List AV}{k:Nat × (Nat->List AV)->Option R}(h:n<=100000):gC Ep Es (Er sz) [.tr sz n f] k=k (n,f):=Aw (n,f) rfl h (.refl _)
def By{X:Type}(P:X->Bool):List X->Nat->Int
 | [],_=>-1
 | x::r,i=>bif P x then(i:Int)else By P r (i+1)
theorem HL{X:Type}{P:X->Bool}:∀ (l:List X) (i:Nat),By P l i = -1 ↔ ∀ x ∈ l,P x=false
 | [],i=>⟨fun _ _ h=>by simp at h,fun _=>rfl⟩
 | x::r,i=>by
  unfold By
  cases h:P x with
  | true=>exact⟨fun e=>by rw[cond_true]at e;omega,fun e=>by have:=e x (by simp);rw[h]at this;cases this⟩
  | false=>
   rw[cond_false,HL r (i+1)]
   exact⟨fun e y hy=>(List.mem_cons.1 hy).elim (fun q=>q ▸ h) (e y),fun e y hy=>e y (by simp[hy])⟩
theorem NY{X:Type}{P:X->Bool}(z:X):∀ (l:List X) (i:Nat),By P l i ≠ -1 -> ∃ k,By P l i=((i+k:Nat):Int)/\k<l.length/\P (l.getD k z)=true /\ ∀ x ∈ l.take k,P x=false
 | [],i,h=>absurd rfl h
 | x::r,i,h=>by
  unfold By at h ⊢
  cases hx:P x with
  | true=>exact⟨0,by simp,by simp,by simpa using hx,by simp⟩
  | false=>
   rw[hx,cond_false]at h
   obtain⟨k,h1,h2,h3,h4⟩:=NY z r (i+1) h
   refine⟨k+1,?_,by simpa using h2,by simpa using h3,fun y hy=>?_⟩
   ·rw[cond_false,h1];congr 1;omega
   ·rw[List.take_succ_cons]at hy
    exact(List.mem_cons.1 hy).elim (fun q=>q ▸ hx) (h4 y)
theorem Oz{X R:Type}{p:X->Bool}{l:List X}{z:X}{L:Nat->Int->Option R}{A:Int->Option R}(hn:l.length<=100000)
  (hst:∀ m (i:Int),L (m+1) i=bif decide (i<(l.length:Int))then rg i l.length (bif Nat.blt i.toNat l.length then bif p (l.getD i.toNat z)then A i else L m (IntKind.i64.wrap (i+1))else none)else A (-1)) :
  ∀ (d i m:Nat),i+d=l.length->d<m->L m (i:Nat)=A (By p (l.drop i) i):=by
 intro d
 induction d with
 | zero=>
  intro i m hi hm
  obtain⟨m,rfl⟩:∃ k,m=k+1:=⟨m - 1,by omega⟩
  rw[hst,decide_eq_false (by omega),cond_false,List.drop_eq_nil_of_le (by omega)]
  rfl
 | succ d ih=>
  intro i m hi hm
  obtain⟨m,rfl⟩:∃ k,m=k+1:=⟨m - 1,by omega⟩
  have hil:i<l.length:=by omega
  rw[hst,decide_eq_true (by omega),cond_true,Bq hil,Int.toNat_natCast,AB hil,cond_true,Bz (by omega),ih (i+1) m (by omega) (by omega),drop_cons (z:=z) hil]
  show _=A (bif p (l.getD i z)then(i:Int)else By p (l.drop (i+1)) (i+1))
  cases p (l.getD i z) <;> rfl
def LH{X:Type}(F:Nat->X)(i:Nat)(x:X):Nat->X:=fun k=>bif k.beq i then x else F k
theorem Po{X:Type}(e:X->List AV)(F:Nat->X)(i:Nat)(x:X):(fun k=>bif k.beq i then e x else e (F k))=fun k=>e (LH F i x k):=by
 funext k
 unfold LH
 cases k.beq i <;> rfl
theorem aez{X:Type}(F:Nat->X)(i:Nat)(x:X):LH F i x i=x:=by unfold LH;rw[AM.beq_true rfl];rfl
theorem fM{X:Type}(F:Nat->X){i k:Nat}(x:X)(h:k ≠ i):LH F i x k=F k:=by unfold LH;rw[AM.beq_false h];rfl
theorem acN{X:Type}{p:X->Bool}{x:X}(h:p x=true):([x].filter fun x=>!p x)=[]:=by rw[List.filter_cons,h];rfl
theorem ajt{X:Type}{p:X->Bool}{x:X}(h:p x=false):([x].filter fun x=>!p x)=[x]:=by rw[List.filter_cons,h];rfl
theorem del_run{X R:Type}{p:X->Bool}{l:List X}{z:X}{L:Nat->(Nat->X)->Int->Int->Option R}{A:(Nat->X)->Nat->Option R}(hn:l.length<=100000)
  (hst:∀ m F (i j:Int),L (m+1) F i j=bif decide (j<(l.length:Int))then rg j l.length (bif Nat.blt j.toNat l.length then bif !p (F j.toNat)then rg i l.length (bif Nat.blt i.toNat l.length&&true then L m (LH F i.toNat (F j.toNat)) (IntKind.i64.wrap (i+1)) (IntKind.i64.wrap (j+1))else none)else L m F i (IntKind.i64.wrap (j+1))else none)else
   bif decide (0<=i)&&decide (i<=(l.length:Int))then A F i.toNat else none) :
  ∀ (d i j m:Nat) (F:Nat->X),j+d=l.length->d<m->i<j->i=((l.take j).filter fun x=>!p x).length->(∀ x,x<i->F x=((l.take j).filter fun x=>!p x).getD x z)->(∀ x,j<=x->x<l.length->F x=l.getD x z) ->
   ∃ G:Nat->X,L m F (i:Nat) (j:Nat)=A G (l.filter fun x=>!p x).length /\ ∀ x,x<(l.filter fun x=>!p x).length->G x=(l.filter fun x=>!p x).getD x z:=by
 intro d
 induction d with
 | zero=>
  intro i j m F hj hm hij hi h1 h2
  obtain⟨m,rfl⟩:∃ k,m=k+1:=⟨m - 1,by omega⟩
  have ht:l.take j=l:=List.take_of_length_le (by omega)
  rw[ht]at hi h1
  rw[hst,decide_eq_false (by omega),cond_false,decide_eq_true (by omega),decide_eq_true (by omega),Bool.and_true,cond_true,Int.toNat_natCast]
  exact⟨F,by rw[<- hi],fun x hx=>h1 x (by omega)⟩
 | succ d ih=>
  intro i j m F hj hm hij hi h1 h2
  obtain⟨m,rfl⟩:∃ k,m=k+1:=⟨m - 1,by omega⟩
  have hjl:j<l.length:=by omega
  have hx:F j=l.getD j z:=h2 j (Nat.le_refl _) hjl
  have ht:l.take (j+1)=l.take j++[l.getD j z]:=by
   rw[List.take_add_one,List.getD,List.getElem?_eq_getElem hjl];rfl
  rw[hst,decide_eq_true (by omega),cond_true,Bq hjl,Int.toNat_natCast,AB hjl,cond_true,hx]
  cases hp:p (l.getD j z)with
  | true=>
   rw[Bool.not_true,cond_false,Bz (by omega)]
   have hf:((l.take (j+1)).filter fun x=>!p x)=((l.take j).filter fun x=>!p x):=by
    rw[ht,List.filter_append,acN hp,List.append_nil]
   exact ih i (j+1) m F (by omega) (by omega) (by omega) (by rw[hf];exact hi) (fun x hx=>by rw[hf];exact h1 x hx) (fun x hx hx'=>h2 x (by omega) hx')
  | false=>
   have hil:i<l.length:=by omega
   rw[Bool.not_false,cond_true,Bq hil,Int.toNat_natCast,AB hil,Bool.and_true,cond_true,Bz (by omega),Bz (by omega)]
   have hf:((l.take (j+1)).filter fun x=>!p x)=((l.take j).filter fun x=>!p x)++[l.getD j z]:=by
    rw[ht,List.filter_append,ajt hp]
   refine ih (i+1) (j+1) m _ (by omega) (by omega) (by omega) (by rw[hf,List.length_append,<- hi];rfl) (fun x hx=>?_) (fun x hx hx'=>?_)
   ·rw[hf]
    by_cases hxi:x=i
    ·subst hxi
     rw[aez]
     simp only[List.getD]
     rw[List.getElem?_append_right (by omega),show x - ((l.take j).filter fun x=>!p x).length=0 by omega];rfl
    ·rw[fM _ _ hxi,h1 x (by omega)]
     simp only[List.getD]
     rw[List.getElem?_append_left (by omega)]
   ·rw[fM _ _ (by omega)];exact h2 x (by omega) hx'
theorem filter_none{X:Type}{p:X->Bool}{l:List X}(h:∀ x ∈ l,p x=false):(l.filter fun x=>!p x)=l:=List.filter_eq_self.2 fun x hx=>by simp[h x hx]
theorem getD_take{X:Type}{l:List X}{k x:Nat}{z:X}(h:x<k):(l.take k).getD x z=l.getD x z:=by
 simp only[List.getD,List.getElem?_take,if_pos h]
def Bc{X:Type}(sz:Nat)(e:X->List AV)(z:X)(l:List X):BS:=.seq true sz l.length fun i=>e (l.getD i z)
theorem aeA{X:Type}{sz n:Nat}{e:X->List AV}{z:X}{l:List X}{f:Nat->List AV}(hn:l.length<=n)(h:∀ i,i<l.length->f i=e (l.getD i z)):Gx (.seq true sz n f) (Bc sz e z l):=
 .seq true sz n l.length f _ hn fun i hi=>by rw[h i hi];exact .refl _
theorem Sb{X:Type}{p:X->Bool}{l:List X}{z:X}{L:Nat->(Nat->X)->Int->Int->Option (AV × Heap)}{A:(Nat->X)->Nat->Option (AV × Heap)}{m:Nat}(hn:l.length<=100000)(hm:l.length<m)
  (hst:∀ m F (i j:Int),L (m+1) F i j=bif decide (j<(l.length:Int))then rg j l.length (bif Nat.blt j.toNat l.length then bif !p (F j.toNat)then rg i l.length (bif Nat.blt i.toNat l.length&&true then L m (LH F i.toNat (F j.toNat)) (IntKind.i64.wrap (i+1)) (IntKind.i64.wrap (j+1))else none)else L m F i (IntKind.i64.wrap (j+1))else none)else
   bif decide (0<=i)&&decide (i<=(l.length:Int))then A F i.toNat else none) (hi:By p l 0 ≠ -1) :
  ∃ G:Nat->X,L m (fun i=>l.getD i z) (By p l 0) (IntKind.i64.wrap (By p l 0+1))=A G (l.filter fun x=>!p x).length/\0<l.length/\(l.filter fun x=>!p x).length<=l.length /\ ∀ x,x<(l.filter fun x=>!p x).length->G x=(l.filter fun x=>!p x).getD x z:=by
 obtain⟨k,h1,h2,h3,h4⟩:=NY z l 0 hi
 rw[Nat.zero_add]at h1
 have hf0:((l.take k).filter fun x=>!p x)=l.take k:=filter_none h4
 have ht:l.take (k+1)=l.take k++[l.getD k z]:=by
  rw[List.take_add_one,List.getD,List.getElem?_eq_getElem h2];rfl
 have hf:((l.take (k+1)).filter fun x=>!p x)=l.take k:=by
  rw[ht,List.filter_append,hf0];rw[acN h3,List.append_nil]
 obtain⟨G,g1,g2⟩:=del_run hn hst (l.length - (k+1)) k (k+1) m (fun i=>l.getD i z) (by omega) (by omega) (by omega) (by rw[hf];simp;omega) (fun x hx=>by rw[hf,getD_take hx]) (fun x _ _=>rfl)
 refine⟨G,?_,by omega,List.length_filter_le _ _,g2⟩
 rw[h1,Bz (by omega)];exact g1
abbrev Itm:=Md.Item
abbrev Txt:=List UInt8
def Iu{X:Type}(d:List AV->X):BS->List X
 | .seq _ _ n f=>(List.range n).map fun i=>d (f i)
 | .arr _ _ es=>es.map d
 | _=>[]
theorem He{X:Type}{sz:Nat}{e:X->List AV}{d:List AV->X}{z:X}(h:∀ x,d (e x)=x)(l:List X):Iu d (Bc sz e z l)=l:=by
 show(List.range l.length).map (fun i=>d (e (l.getD i z)))=l
 refine List.ext_getElem (by simp) fun i g1 g2=>?_
 simp[h,List.getD,List.getElem?_eq_getElem g2]
def ag5:BS->AV
 | .arr _ _ [[c]]=>c
 | .seq _ _ _ f=>(f 0).getD 0 .undef
 | _=>.undef
def OA:BS->List AV
 | .arr _ _ [c]=>c
 | .seq _ _ _ f=>f 0
 | _=>[]
def aju(b:BS):Txt:=match ag5 b with
 | .str s=>s
 | _=>[]
def ag6(a:List AV):Txt:=match a.getD 1 .nils with
 | .tp [.str s] _=>s
 | _=>[]
def alF(a:List AV):List AV:=match a.getD 1 .nils with
 | .tp cs _=>cs
 | _=>[]
def lZ(b:BS):List Txt × (Txt->Int):=match b with
 | .pmap _ ks val=>(ks,fun k=>match val k with
  | .int _ n=>n
  | _=>0)
 | _=>([],fun _=>0)
def eO(l:List Known):Env:=BU [] [(At,5),(Ao,5),(J9,0)] [] l
def fO:AV:=.fn (.func J9) [] [.ptr 1 0 0]
def hO(y:Txt):Heap:=[.arr true 1 [[.str y]]]
def pO(y:Txt)(x:Itm):Bool:=Ah x.key y
def xCO:List AV->Itm × Txt:=fun a=>(Bd (AA a 0),ag6 a)
def rW(q:Itm × Txt):List AV:=[.agg (Af q.1),.tp [.str q.2] 0]
theorem ajv(q:Itm × Txt):Am (eO []) 9 J9 (rW q)=some (.bool (pO q.2 q.1)):=by kernel_rfl
def Zp:Known:=.spec J9 xCO (fun _=>True) rW (fun q=>.bool (pO q.2 q.1))
theorem Ug:Zp.Ok PG:=Known.spec_ok fun q _=>BQ (fun k hk=>by cases hk) (ajv q)
theorem ag7(q:Itm × Txt):xCO (rW q)=q:=Prod.ext rfl rfl
def gO{R:Type}(q:Itm × Txt)(k:Itm × Txt->Option R):Option R:=gC xCO (fun _=>True) rW (rW q) k
theorem acO{R:Type}(q:Itm × Txt)(k:Itm × Txt->Option R):gO q k=k q:=Aw q (ag7 q) trivial (.refl _)
def SIO(n:Nat)(F:Nat->Itm)(y:Txt)(i:Int):St:={fr:=[(0,.sn 4 0 n),(1,fO),(7,.int .i64 n),(8,.int .i64 i)],hp:=.seq true 4 n (fun i=>Af (F i))::hO y}
def LIO(N m n:Nat)(F:Nat->Itm)(y:Txt)(i:Int):Option (AV × Heap):=LP (eO [Zp]) N 2 At (Cr 2 2) 0 [] m (SIO n F y i)
abbrev YO:=List Itm × Txt
def FJ(p:YO):List AV × Heap:=([.sn 4 0 p.1.length,fO],Bc 4 Af default p.1::hO p.2)
theorem ajw(N:Nat)(p:YO):BA 2 (eO [Zp]) (N+1) At (FJ p).1 (FJ p).2=LIO N N p.1.length (fun i=>p.1.getD i default) p.2 0:=by kernel_rfl
theorem ajx(N m n:Nat)(F:Nat->Itm)(y:Txt)(i:Int):LIO N (m+1) n F y i=bif decide (i<(n:Int))then rg i n (bif Nat.blt i.toNat n then gO (F i.toNat,y) (fun q=>bif pO q.2 q.1 then some (.int .i64 i,.seq true 4 n (fun i=>Af (F i))::hO y)else LIO N m n F y (IntKind.i64.wrap (i+1)))else none)else some (.int .i64 (-1),.seq true 4 n (fun i=>Af (F i))::hO y):=by kernel_rfl
def fN(_:List AV)(h:Heap):YO:=(Iu Bd (Ab h 0),aju (Ab h 1))
theorem rX(p:YO):fN (FJ p).1 (FJ p).2=p:=Prod.ext (He (sz:=4) (fun _=>rfl) p.1) rfl
def GR(p:YO):Prop:=p.1.length<=100000
theorem ag8(p:YO)(h:GR p):Aa PG At (FJ p).1 (FJ p).2 (.int .i64 (By (pO p.2) p.1 0)) (FJ p).2/\(FJ p).2.length<=(FJ p).2.length:=by
 obtain⟨N,hN⟩:∃ N,N=200000:=⟨_,rfl⟩
 refine conC (ak Ug AL) (c:=2) (n:=N+1) (Nat.le_refl 2) ((ajw N p).trans ?_)
 have:=Oz (p:=pO p.2) (l:=p.1) (z:=default) (L:=fun m i=>LIO N m p.1.length (fun i=>p.1.getD i default) p.2 i) (A:=fun i=>some (.int .i64 i,(FJ p).2)) h
  (fun m i=>by rw[ajx,acO];rfl) p.1.length 0 N (by omega) (by unfold GR at h;omega)
 rw[List.drop_zero]at this
 exact this
def rY:Known:=.specG At fN GR FJ (fun p=>(.int .i64 (By (pO p.2) p.1 0),(FJ p).2))
theorem Zq:rY.Ok PG:=Known.specG_ok ag8
def SDO(n:Nat)(F:Nat->Itm)(y:Txt)(i j:Int):St:={fr:=[(0,.sn 4 0 n),(1,fO),(5,.int .i64 i),(6,.int .i64 j)],hp:=.seq true 4 n (fun i=>Af (F i))::hO y}
def fP(N m n:Nat)(F:Nat->Itm)(y:Txt)(i j:Int):Option (AV × Heap):=LP (eO [rY,Zp]) N 2 Ao (Cr 2 2) 0 [] m (SDO n F y i j)
theorem ajy(N:Nat)(p:YO):BA 2 (eO [rY,Zp]) (N+1) Ao (FJ p).1 (FJ p).2=BF fN GR FJ (FJ p).1 (FJ p).2 fun q=>
 bif decide (By (pO q.2) q.1 0 = -1)then some (.sn 4 0 p.1.length,(FJ q).2)
 else LP (eO [rY,Zp]) N 2 Ao (Cr 2 2) 0 [] N {fr:=[(0,.sn 4 0 p.1.length),(1,fO),(5,.int .i64 (By (pO q.2) q.1 0)),(6,.int .i64 (IntKind.i64.wrap (By (pO q.2) q.1 0+1)))],hp:=(FJ q).2}:=by kernel_rfl
def AO(n:Nat)(y:Txt)(F:Nat->Itm)(i:Nat):Option (AV × Heap):=
 bif Nat.blt 0 n then bif(n - i).beq 0 then some (.sn 4 0 i,.seq true 4 n (fun i=>Af (F i))::hO y)
 else bif(i+(n - i)).ble n then some (.sn 4 0 i,.seq true 4 n (fun k=>bif k.blt i then Af (F k)else bif k.blt (i+(n - i))then Af default else Af (F k))::hO y)else none
 else none
theorem ajz(N m n:Nat)(F:Nat->Itm)(y:Txt)(i j:Int):fP N (m+1) n F y i j =
 bif decide (j<(n:Int))then rg j n (bif Nat.blt j.toNat n then gO (F j.toNat,y) (fun q=>bif !pO q.2 q.1 then rg i n (bif Nat.blt i.toNat n&&true then LP (eO [rY,Zp]) N 2 Ao (Cr 2 2) 0 [] m
  {fr:=[(0,.sn 4 0 n),(1,fO),(5,.int .i64 (IntKind.i64.wrap (i+1))),(6,.int .i64 (IntKind.i64.wrap (j+1)))],hp:=.seq true 4 n (fun k=>bif k.beq i.toNat then Af (F j.toNat)else Af (F k))::hO y}else none)
  else fP N m n F y i (IntKind.i64.wrap (j+1)))else none)
 else bif decide (0<=i)&&decide (i<=(n:Int))then bif Nat.blt 0 n then bif(n - i.toNat).beq 0 then bif decide (0<=i)&&decide (i<=(n:Int))then some (.sn 4 0 i.toNat,.seq true 4 n (fun i=>Af (F i))::hO y)else none
  else bif(i.toNat+(n - i.toNat)).ble n then bif decide (0<=i)&&decide (i<=(n:Int))then some (.sn 4 0 i.toNat,.seq true 4 n (fun k=>bif k.blt i.toNat then Af (F k)else bif k.blt (i.toNat+(n - i.toNat))then Af default else Af (F k))::hO y)else none else none
  else none else none:=by kernel_rfl
theorem ag9(N m n:Nat)(F:Nat->Itm)(y:Txt)(i j:Int):fP N (m+1) n F y i j =
 bif decide (j<(n:Int))then rg j n (bif Nat.blt j.toNat n then bif !pO y (F j.toNat)then rg i n (bif Nat.blt i.toNat n&&true then fP N m n (LH F i.toNat (F j.toNat)) y (IntKind.i64.wrap (i+1)) (IntKind.i64.wrap (j+1))else none)else fP N m n F y i (IntKind.i64.wrap (j+1))else none)
 else bif decide (0<=i)&&decide (i<=(n:Int))then AO n y F i.toNat else none:=by
 rw[ajz,acO,Po Af]
 unfold AO
 cases decide (0<=i)&&decide (i<=(n:Int)) <;> rfl
def fQ(p:YO):AV × Heap:=(.sn 4 0 (p.1.filter fun x=>!pO p.2 x).length,Bc 4 Af default (p.1.filter fun x=>!pO p.2 x)::hO p.2)
theorem aha(p:YO)(h:GR p):Aa PG Ao (FJ p).1 (FJ p).2 (fQ p).1 (fQ p).2/\(FJ p).2.length<=(fQ p).2.length:=by
 obtain⟨N,hN⟩:∃ N,N=200000:=⟨_,rfl⟩
 have hq:∀ {K:YO->Option (AV × Heap)},BF fN GR FJ (FJ p).1 (FJ p).2 K=K p:=fun {K}=>BT p (rX p) h (.refl _) (.refl _)
 have e:=ajy N p
 rw[hq]at e
 by_cases hi:By (pO p.2) p.1 0 = -1
 ·rw[decide_eq_true hi,cond_true]at e
  have c:=(conC (ak Zq (ak Ug AL)) (c:=2) (hp:=(FJ p).2) (Nat.le_refl 2) e)
  have hf:=filter_none ((HL p.1 0).1 hi)
  refine⟨?_,Nat.le_refl _⟩
  unfold fQ
  rw[hf]
  exact c.1
 ·rw[decide_eq_false hi,cond_false]at e
  have hp:=h
  unfold GR at hp
  obtain⟨G,g1,g2,g3,g4⟩:=Sb (p:=pO p.2) (z:=default) (L:=fun m F i j=>fP N m p.1.length F p.2 i j) (A:=AO p.1.length p.2) (m:=N) hp (by omega) (fun m F i j=>ag9 N m p.1.length F p.2 i j) hi
  have e2:=e.trans g1
  generalize hk:(p.1.filter fun x=>!pO p.2 x).length=k at *
  have hl:(Bc 4 Af default (p.1.filter fun x=>!pO p.2 x))=.seq true 4 k fun i=>Af ((p.1.filter fun x=>!pO p.2 x).getD i default):=by unfold Bc;rw[hk]
  unfold AO at e2
  rw[AB g2,cond_true]at e2
  refine⟨?_,Nat.le_refl _⟩
  unfold fQ
  rw[hl,hk]
  cases hz:(p.1.length - k).beq 0 with
  | true=>
   rw[hz,cond_true]at e2
   have c:=(conC (ak Zq (ak Ug AL)) (c:=2) (hp:=(FJ p).2) (Nat.le_refl 2) e2).1
   exact c.resub (.refl _) (.cons (.seq true 4 p.1.length k _ _ g3 fun i hi=>by rw[g4 i hi];exact .refl _) (.refl _))
  | false=>
   rw[hz,cond_false,Bn (by omega),cond_true]at e2
   have c:=(conC (ak Zq (ak Ug AL)) (c:=2) (hp:=(FJ p).2) (Nat.le_refl 2) e2).1
   exact c.resub (.refl _) (.cons (.seq true 4 p.1.length k _ _ g3 fun i hi=>by rw[AB hi,cond_true,g4 i hi];exact .refl _) (.refl _))
def kDO:Known:=.specG Ao fN GR FJ fQ
theorem ahb:kDO.Ok PG:=Known.specG_ok aha
def eF(l:List Known):Env:=BU [] [(At,5),(Ao,5),(EP,5)] [] l
def fF:AV:=.fn (.func EP) [] [.ptr 1 0 0]
def hF(y:List Txt × (Txt->Int)):Heap:=[.arr true 1 [[.mp 2]],.pmap true y.1 fun k=>.int .i64 (y.2 k)]
def pF(y:List Txt × (Txt->Int))(x:Itm):Bool:=bif BH x.key y.1 then decide (0<y.2 x.key)else false
def tF{R:Type}(y:List Txt × (Txt->Int))(x:Itm)(k:Bool->Option R):Option R:=bif BH x.key y.1 then k (decide (0<y.2 x.key))else k false
theorem ajA{R:Type}(y:List Txt × (Txt->Int))(x:Itm)(k:Bool->Option R):tF y x k=k (pF y x):=by
 unfold tF pF
 first | rfl | (cases BH x.key y.1 <;> rfl)
def xCF:List AV->Heap->Itm × List Txt × (Txt->Int):=fun a h=>(Bd (AA a 0),lZ (Ab h 1))
def SK(q:Itm × List Txt × (Txt->Int)):List AV × Heap:=([.agg (Af q.1),.ptr 0 0 0],[.arr true 1 [[.mp 1]],.pmap true q.2.1 fun k=>.int .i64 (q.2.2 k)])
theorem ajB(q:Itm × List Txt × (Txt->Int)):BA 2 (eF []) 9 EP (SK q).1 (SK q).2=tF q.2 q.1 fun b=>some (.bool b,(SK q).2):=by kernel_rfl
def Zr:Known:=.specG EP xCF (fun _=>True) SK (fun q=>(.bool (pF q.2 q.1),(SK q).2))
theorem Uh:Zr.Ok PG:=Known.specG_ok fun q _=>conC (fun k hk=>by cases hk) (c:=2) (n:=9) (Nat.le_refl 2) ((ajB q).trans (ajA _ _ _))
theorem ahc(q:Itm × List Txt × (Txt->Int)):xCF (SK q).1 (SK q).2=q:=rfl
def gF{R:Type}(q:Itm × List Txt × (Txt->Int))(k:Itm × List Txt × (Txt->Int)->Option R):Option R:=BF xCF (fun _=>True) SK (SK q).1 (SK q).2 k
theorem gF_eq{R:Type}(q:Itm × List Txt × (Txt->Int))(k:Itm × List Txt × (Txt->Int)->Option R):gF q k=k q:=BT q (ahc q) trivial (.refl _) (.refl _)
def SIF(n:Nat)(F:Nat->Itm)(y:List Txt × (Txt->Int))(i:Int):St:={fr:=[(0,.sn 4 0 n),(1,fF),(7,.int .i64 n),(8,.int .i64 i)],hp:=.seq true 4 n (fun i=>Af (F i))::hF y}
def LIF(N m n:Nat)(F:Nat->Itm)(y:List Txt × (Txt->Int))(i:Int):Option (AV × Heap):=LP (eF [Zr]) N 3 At (Cr 3 3) 0 [] m (SIF n F y i)
abbrev YF:=List Itm × List Txt × (Txt->Int)
def E5(p:YF):List AV × Heap:=([.sn 4 0 p.1.length,fF],Bc 4 Af default p.1::hF p.2)
theorem ajC(N:Nat)(p:YF):BA 3 (eF [Zr]) (N+1) At (E5 p).1 (E5 p).2=LIF N N p.1.length (fun i=>p.1.getD i default) p.2 0:=by kernel_rfl
theorem ajD(N m n:Nat)(F:Nat->Itm)(y:List Txt × (Txt->Int))(i:Int):LIF N (m+1) n F y i=bif decide (i<(n:Int))then rg i n (bif Nat.blt i.toNat n then gF (F i.toNat,y) (fun q=>bif pF q.2 q.1 then some (.int .i64 i,.seq true 4 n (fun i=>Af (F i))::hF y)else LIF N m n F y (IntKind.i64.wrap (i+1)))else none)else some (.int .i64 (-1),.seq true 4 n (fun i=>Af (F i))::hF y):=by kernel_rfl
def Zt(_:List AV)(h:Heap):YF:=(Iu Bd (Ab h 0),lZ (Ab h 2))
theorem rZ(p:YF):Zt (E5 p).1 (E5 p).2=p:=Prod.ext (He (sz:=4) (fun _=>rfl) p.1) rfl
def QR(p:YF):Prop:=p.1.length<=100000
theorem ahd(p:YF)(h:QR p):Aa PG At (E5 p).1 (E5 p).2 (.int .i64 (By (pF p.2) p.1 0)) (E5 p).2/\(E5 p).2.length<=(E5 p).2.length:=by
 obtain⟨N,hN⟩:∃ N,N=200000:=⟨_,rfl⟩
 refine conC (ak Uh AL) (c:=3) (n:=N+1) (Nat.le_refl 3) ((ajC N p).trans ?_)
 have:=Oz (p:=pF p.2) (l:=p.1) (z:=default) (L:=fun m i=>LIF N m p.1.length (fun i=>p.1.getD i default) p.2 i) (A:=fun i=>some (.int .i64 i,(E5 p).2)) h
  (fun m i=>by rw[ajD,gF_eq];rfl) p.1.length 0 N (by omega) (by unfold QR at h;omega)
 rw[List.drop_zero]at this
 exact this
def sD:Known:=.specG At Zt QR E5 (fun p=>(.int .i64 (By (pF p.2) p.1 0),(E5 p).2))
theorem Zu:sD.Ok PG:=Known.specG_ok ahd
def SDF(n:Nat)(F:Nat->Itm)(y:List Txt × (Txt->Int))(i j:Int):St:={fr:=[(0,.sn 4 0 n),(1,fF),(5,.int .i64 i),(6,.int .i64 j)],hp:=.seq true 4 n (fun i=>Af (F i))::hF y}
def fR(N m n:Nat)(F:Nat->Itm)(y:List Txt × (Txt->Int))(i j:Int):Option (AV × Heap):=LP (eF [sD,Zr]) N 3 Ao (Cr 3 3) 0 [] m (SDF n F y i j)
theorem ajE(N:Nat)(p:YF):BA 3 (eF [sD,Zr]) (N+1) Ao (E5 p).1 (E5 p).2=BF Zt QR E5 (E5 p).1 (E5 p).2 fun q=>
 bif decide (By (pF q.2) q.1 0 = -1)then some (.sn 4 0 p.1.length,(E5 q).2)
 else LP (eF [sD,Zr]) N 3 Ao (Cr 3 3) 0 [] N {fr:=[(0,.sn 4 0 p.1.length),(1,fF),(5,.int .i64 (By (pF q.2) q.1 0)),(6,.int .i64 (IntKind.i64.wrap (By (pF q.2) q.1 0+1)))],hp:=(E5 q).2}:=by kernel_rfl
def AF(n:Nat)(y:List Txt × (Txt->Int))(F:Nat->Itm)(i:Nat):Option (AV × Heap):=
 bif Nat.blt 0 n then bif(n - i).beq 0 then some (.sn 4 0 i,.seq true 4 n (fun i=>Af (F i))::hF y)
 else bif(i+(n - i)).ble n then some (.sn 4 0 i,.seq true 4 n (fun k=>bif k.blt i then Af (F k)else bif k.blt (i+(n - i))then Af default else Af (F k))::hF y)else none
 else none
theorem ajF(N m n:Nat)(F:Nat->Itm)(y:List Txt × (Txt->Int))(i j:Int):fR N (m+1) n F y i j =
 bif decide (j<(n:Int))then rg j n (bif Nat.blt j.toNat n then gF (F j.toNat,y) (fun q=>bif !pF q.2 q.1 then rg i n (bif Nat.blt i.toNat n&&true then LP (eF [sD,Zr]) N 3 Ao (Cr 3 3) 0 [] m
  {fr:=[(0,.sn 4 0 n),(1,fF),(5,.int .i64 (IntKind.i64.wrap (i+1))),(6,.int .i64 (IntKind.i64.wrap (j+1)))],hp:=.seq true 4 n (fun k=>bif k.beq i.toNat then Af (F j.toNat)else Af (F k))::hF y}else none)
  else fR N m n F y i (IntKind.i64.wrap (j+1)))else none)
 else bif decide (0<=i)&&decide (i<=(n:Int))then bif Nat.blt 0 n then bif(n - i.toNat).beq 0 then bif decide (0<=i)&&decide (i<=(n:Int))then some (.sn 4 0 i.toNat,.seq true 4 n (fun i=>Af (F i))::hF y)else none
  else bif(i.toNat+(n - i.toNat)).ble n then bif decide (0<=i)&&decide (i<=(n:Int))then some (.sn 4 0 i.toNat,.seq true 4 n (fun k=>bif k.blt i.toNat then Af (F k)else bif k.blt (i.toNat+(n - i.toNat))then Af default else Af (F k))::hF y)else none else none
  else none else none:=by kernel_rfl
theorem ahe(N m n:Nat)(F:Nat->Itm)(y:List Txt × (Txt->Int))(i j:Int):fR N (m+1) n F y i j =
 bif decide (j<(n:Int))then rg j n (bif Nat.blt j.toNat n then bif !pF y (F j.toNat)then rg i n (bif Nat.blt i.toNat n&&true then fR N m n (LH F i.toNat (F j.toNat)) y (IntKind.i64.wrap (i+1)) (IntKind.i64.wrap (j+1))else none)else fR N m n F y i (IntKind.i64.wrap (j+1))else none)
 else bif decide (0<=i)&&decide (i<=(n:Int))then AF n y F i.toNat else none:=by
 rw[ajF,gF_eq,Po Af]
 unfold AF
 cases decide (0<=i)&&decide (i<=(n:Int)) <;> rfl
def fU(p:YF):AV × Heap:=(.sn 4 0 (p.1.filter fun x=>!pF p.2 x).length,Bc 4 Af default (p.1.filter fun x=>!pF p.2 x)::hF p.2)
theorem ahf(p:YF)(h:QR p):Aa PG Ao (E5 p).1 (E5 p).2 (fU p).1 (fU p).2/\(E5 p).2.length<=(fU p).2.length:=by
 obtain⟨N,hN⟩:∃ N,N=200000:=⟨_,rfl⟩
 have hq:∀ {K:YF->Option (AV × Heap)},BF Zt QR E5 (E5 p).1 (E5 p).2 K=K p:=fun {K}=>BT p (rZ p) h (.refl _) (.refl _)
 have e:=ajE N p
 rw[hq]at e
 by_cases hi:By (pF p.2) p.1 0 = -1
 ·rw[decide_eq_true hi,cond_true]at e
  have c:=(conC (ak Zu (ak Uh AL)) (c:=3) (hp:=(E5 p).2) (Nat.le_refl 3) e)
  have hf:=filter_none ((HL p.1 0).1 hi)
  refine⟨?_,Nat.le_refl _⟩
  unfold fU
  rw[hf]
  exact c.1
 ·rw[decide_eq_false hi,cond_false]at e
  have hp:=h
  unfold QR at hp
  obtain⟨G,g1,g2,g3,g4⟩:=Sb (p:=pF p.2) (z:=default) (L:=fun m F i j=>fR N m p.1.length F p.2 i j) (A:=AF p.1.length p.2) (m:=N) hp (by omega) (fun m F i j=>ahe N m p.1.length F p.2 i j) hi
  have e2:=e.trans g1
  generalize hk:(p.1.filter fun x=>!pF p.2 x).length=k at *
  have hl:(Bc 4 Af default (p.1.filter fun x=>!pF p.2 x))=.seq true 4 k fun i=>Af ((p.1.filter fun x=>!pF p.2 x).getD i default):=by unfold Bc;rw[hk]
  unfold AF at e2
  rw[AB g2,cond_true]at e2
  refine⟨?_,Nat.le_refl _⟩
  unfold fU
  rw[hl,hk]
  cases hz:(p.1.length - k).beq 0 with
  | true=>
   rw[hz,cond_true]at e2
   have c:=(conC (ak Zu (ak Uh AL)) (c:=3) (hp:=(E5 p).2) (Nat.le_refl 3) e2).1
   exact c.resub (.refl _) (.cons (.seq true 4 p.1.length k _ _ g3 fun i hi=>by rw[g4 i hi];exact .refl _) (.refl _))
  | false=>
   rw[hz,cond_false,Bn (by omega),cond_true]at e2
   have c:=(conC (ak Zu (ak Uh AL)) (c:=3) (hp:=(E5 p).2) (Nat.le_refl 3) e2).1
   exact c.resub (.refl _) (.cons (.seq true 4 p.1.length k _ _ g3 fun i hi=>by rw[AB hi,cond_true,g4 i hi];exact .refl _) (.refl _))
def kDF:Known:=.specG Ao Zt QR E5 fU
theorem ahg:kDF.Ok PG:=Known.specG_ok ahf
def eT(l:List Known):Env:=BU [] [(At,5),(Ao,5),(Ga,5)] [] l
def fT:AV:=.fn (.func Ga) [] [.ptr 1 0 0]
def hT(y:List Txt × (Txt->Int)):Heap:=[.arr true 1 [[.mp 2]],.pmap true y.1 fun k=>.int .i64 (y.2 k)]
def pT(y:List Txt × (Txt->Int))(x:Itm):Bool:=bif BH x.key y.1 then decide (y.2 x.key=0)else true
def tT{R:Type}(y:List Txt × (Txt->Int))(x:Itm)(k:Bool->Option R):Option R:=bif BH x.key y.1 then k (decide (y.2 x.key=0))else k true
theorem ajG{R:Type}(y:List Txt × (Txt->Int))(x:Itm)(k:Bool->Option R):tT y x k=k (pT y x):=by
 unfold tT pT
 first | rfl | (cases BH x.key y.1 <;> rfl)
def xCT:List AV->Heap->Itm × List Txt × (Txt->Int):=fun a h=>(Bd (AA a 0),lZ (Ab h 1))
def SL(q:Itm × List Txt × (Txt->Int)):List AV × Heap:=([.agg (Af q.1),.ptr 0 0 0],[.arr true 1 [[.mp 1]],.pmap true q.2.1 fun k=>.int .i64 (q.2.2 k)])
theorem ajH(q:Itm × List Txt × (Txt->Int)):BA 2 (eT []) 9 Ga (SL q).1 (SL q).2=tT q.2 q.1 fun b=>some (.bool b,(SL q).2):=by kernel_rfl
def Zv:Known:=.specG Ga xCT (fun _=>True) SL (fun q=>(.bool (pT q.2 q.1),(SL q).2))
theorem Ui:Zv.Ok PG:=Known.specG_ok fun q _=>conC (fun k hk=>by cases hk) (c:=2) (n:=9) (Nat.le_refl 2) ((ajH q).trans (ajG _ _ _))
theorem ahh(q:Itm × List Txt × (Txt->Int)):xCT (SL q).1 (SL q).2=q:=rfl
def gT{R:Type}(q:Itm × List Txt × (Txt->Int))(k:Itm × List Txt × (Txt->Int)->Option R):Option R:=BF xCT (fun _=>True) SL (SL q).1 (SL q).2 k
theorem acP{R:Type}(q:Itm × List Txt × (Txt->Int))(k:Itm × List Txt × (Txt->Int)->Option R):gT q k=k q:=BT q (ahh q) trivial (.refl _) (.refl _)
def SIT(n:Nat)(F:Nat->Itm)(y:List Txt × (Txt->Int))(i:Int):St:={fr:=[(0,.sn 4 0 n),(1,fT),(7,.int .i64 n),(8,.int .i64 i)],hp:=.seq true 4 n (fun i=>Af (F i))::hT y}
def LIT(N m n:Nat)(F:Nat->Itm)(y:List Txt × (Txt->Int))(i:Int):Option (AV × Heap):=LP (eT [Zv]) N 3 At (Cr 3 3) 0 [] m (SIT n F y i)
abbrev YT:=List Itm × List Txt × (Txt->Int)
def E6(p:YT):List AV × Heap:=([.sn 4 0 p.1.length,fT],Bc 4 Af default p.1::hT p.2)
theorem ajI(N:Nat)(p:YT):BA 3 (eT [Zv]) (N+1) At (E6 p).1 (E6 p).2=LIT N N p.1.length (fun i=>p.1.getD i default) p.2 0:=by kernel_rfl
theorem ajJ(N m n:Nat)(F:Nat->Itm)(y:List Txt × (Txt->Int))(i:Int):LIT N (m+1) n F y i=bif decide (i<(n:Int))then rg i n (bif Nat.blt i.toNat n then gT (F i.toNat,y) (fun q=>bif pT q.2 q.1 then some (.int .i64 i,.seq true 4 n (fun i=>Af (F i))::hT y)else LIT N m n F y (IntKind.i64.wrap (i+1)))else none)else some (.int .i64 (-1),.seq true 4 n (fun i=>Af (F i))::hT y):=by kernel_rfl
def Zw(_:List AV)(h:Heap):YT:=(Iu Bd (Ab h 0),lZ (Ab h 2))
theorem sE(p:YT):Zw (E6 p).1 (E6 p).2=p:=Prod.ext (He (sz:=4) (fun _=>rfl) p.1) rfl
def SM(p:YT):Prop:=p.1.length<=100000
theorem ahi(p:YT)(h:SM p):Aa PG At (E6 p).1 (E6 p).2 (.int .i64 (By (pT p.2) p.1 0)) (E6 p).2/\(E6 p).2.length<=(E6 p).2.length:=by
 obtain⟨N,hN⟩:∃ N,N=200000:=⟨_,rfl⟩
 refine conC (ak Ui AL) (c:=3) (n:=N+1) (Nat.le_refl 3) ((ajI N p).trans ?_)
 have:=Oz (p:=pT p.2) (l:=p.1) (z:=default) (L:=fun m i=>LIT N m p.1.length (fun i=>p.1.getD i default) p.2 i) (A:=fun i=>some (.int .i64 i,(E6 p).2)) h
  (fun m i=>by rw[ajJ,acP];rfl) p.1.length 0 N (by omega) (by unfold SM at h;omega)
 rw[List.drop_zero]at this
 exact this
def sG:Known:=.specG At Zw SM E6 (fun p=>(.int .i64 (By (pT p.2) p.1 0),(E6 p).2))
theorem Zx:sG.Ok PG:=Known.specG_ok ahi
def SDT(n:Nat)(F:Nat->Itm)(y:List Txt × (Txt->Int))(i j:Int):St:={fr:=[(0,.sn 4 0 n),(1,fT),(5,.int .i64 i),(6,.int .i64 j)],hp:=.seq true 4 n (fun i=>Af (F i))::hT y}
def fV(N m n:Nat)(F:Nat->Itm)(y:List Txt × (Txt->Int))(i j:Int):Option (AV × Heap):=LP (eT [sG,Zv]) N 3 Ao (Cr 3 3) 0 [] m (SDT n F y i j)
theorem ajK(N:Nat)(p:YT):BA 3 (eT [sG,Zv]) (N+1) Ao (E6 p).1 (E6 p).2=BF Zw SM E6 (E6 p).1 (E6 p).2 fun q=>
 bif decide (By (pT q.2) q.1 0 = -1)then some (.sn 4 0 p.1.length,(E6 q).2)
 else LP (eT [sG,Zv]) N 3 Ao (Cr 3 3) 0 [] N {fr:=[(0,.sn 4 0 p.1.length),(1,fT),(5,.int .i64 (By (pT q.2) q.1 0)),(6,.int .i64 (IntKind.i64.wrap (By (pT q.2) q.1 0+1)))],hp:=(E6 q).2}:=by kernel_rfl
def AT(n:Nat)(y:List Txt × (Txt->Int))(F:Nat->Itm)(i:Nat):Option (AV × Heap):=
 bif Nat.blt 0 n then bif(n - i).beq 0 then some (.sn 4 0 i,.seq true 4 n (fun i=>Af (F i))::hT y)
 else bif(i+(n - i)).ble n then some (.sn 4 0 i,.seq true 4 n (fun k=>bif k.blt i then Af (F k)else bif k.blt (i+(n - i))then Af default else Af (F k))::hT y)else none
 else none
theorem ajL(N m n:Nat)(F:Nat->Itm)(y:List Txt × (Txt->Int))(i j:Int):fV N (m+1) n F y i j =
 bif decide (j<(n:Int))then rg j n (bif Nat.blt j.toNat n then gT (F j.toNat,y) (fun q=>bif !pT q.2 q.1 then rg i n (bif Nat.blt i.toNat n&&true then LP (eT [sG,Zv]) N 3 Ao (Cr 3 3) 0 [] m
  {fr:=[(0,.sn 4 0 n),(1,fT),(5,.int .i64 (IntKind.i64.wrap (i+1))),(6,.int .i64 (IntKind.i64.wrap (j+1)))],hp:=.seq true 4 n (fun k=>bif k.beq i.toNat then Af (F j.toNat)else Af (F k))::hT y}else none)
  else fV N m n F y i (IntKind.i64.wrap (j+1)))else none)
 else bif decide (0<=i)&&decide (i<=(n:Int))then bif Nat.blt 0 n then bif(n - i.toNat).beq 0 then bif decide (0<=i)&&decide (i<=(n:Int))then some (.sn 4 0 i.toNat,.seq true 4 n (fun i=>Af (F i))::hT y)else none
  else bif(i.toNat+(n - i.toNat)).ble n then bif decide (0<=i)&&decide (i<=(n:Int))then some (.sn 4 0 i.toNat,.seq true 4 n (fun k=>bif k.blt i.toNat then Af (F k)else bif k.blt (i.toNat+(n - i.toNat))then Af default else Af (F k))::hT y)else none else none
  else none else none:=by kernel_rfl
theorem ahj(N m n:Nat)(F:Nat->Itm)(y:List Txt × (Txt->Int))(i j:Int):fV N (m+1) n F y i j =
 bif decide (j<(n:Int))then rg j n (bif Nat.blt j.toNat n then bif !pT y (F j.toNat)then rg i n (bif Nat.blt i.toNat n&&true then fV N m n (LH F i.toNat (F j.toNat)) y (IntKind.i64.wrap (i+1)) (IntKind.i64.wrap (j+1))else none)else fV N m n F y i (IntKind.i64.wrap (j+1))else none)
 else bif decide (0<=i)&&decide (i<=(n:Int))then AT n y F i.toNat else none:=by
 rw[ajL,acP,Po Af]
 unfold AT
 cases decide (0<=i)&&decide (i<=(n:Int)) <;> rfl
def fX(p:YT):AV × Heap:=(.sn 4 0 (p.1.filter fun x=>!pT p.2 x).length,Bc 4 Af default (p.1.filter fun x=>!pT p.2 x)::hT p.2)
theorem ahk(p:YT)(h:SM p):Aa PG Ao (E6 p).1 (E6 p).2 (fX p).1 (fX p).2/\(E6 p).2.length<=(fX p).2.length:=by
 obtain⟨N,hN⟩:∃ N,N=200000:=⟨_,rfl⟩
 have hq:∀ {K:YT->Option (AV × Heap)},BF Zw SM E6 (E6 p).1 (E6 p).2 K=K p:=fun {K}=>BT p (sE p) h (.refl _) (.refl _)
 have e:=ajK N p
 rw[hq]at e
 by_cases hi:By (pT p.2) p.1 0 = -1
 ·rw[decide_eq_true hi,cond_true]at e
  have c:=(conC (ak Zx (ak Ui AL)) (c:=3) (hp:=(E6 p).2) (Nat.le_refl 3) e)
  have hf:=filter_none ((HL p.1 0).1 hi)
  refine⟨?_,Nat.le_refl _⟩
  unfold fX
  rw[hf]
  exact c.1
 ·rw[decide_eq_false hi,cond_false]at e
  have hp:=h
  unfold SM at hp
  obtain⟨G,g1,g2,g3,g4⟩:=Sb (p:=pT p.2) (z:=default) (L:=fun m F i j=>fV N m p.1.length F p.2 i j) (A:=AT p.1.length p.2) (m:=N) hp (by omega) (fun m F i j=>ahj N m p.1.length F p.2 i j) hi
  have e2:=e.trans g1
  generalize hk:(p.1.filter fun x=>!pT p.2 x).length=k at *
  have hl:(Bc 4 Af default (p.1.filter fun x=>!pT p.2 x))=.seq true 4 k fun i=>Af ((p.1.filter fun x=>!pT p.2 x).getD i default):=by unfold Bc;rw[hk]
  unfold AT at e2
  rw[AB g2,cond_true]at e2
  refine⟨?_,Nat.le_refl _⟩
  unfold fX
  rw[hl,hk]
  cases hz:(p.1.length - k).beq 0 with
  | true=>
   rw[hz,cond_true]at e2
   have c:=(conC (ak Zx (ak Ui AL)) (c:=3) (hp:=(E6 p).2) (Nat.le_refl 3) e2).1
   exact c.resub (.refl _) (.cons (.seq true 4 p.1.length k _ _ g3 fun i hi=>by rw[g4 i hi];exact .refl _) (.refl _))
  | false=>
   rw[hz,cond_false,Bn (by omega),cond_true]at e2
   have c:=(conC (ak Zx (ak Ui AL)) (c:=3) (hp:=(E6 p).2) (Nat.le_refl 3) e2).1
   exact c.resub (.refl _) (.cons (.seq true 4 p.1.length k _ _ g3 fun i hi=>by rw[AB hi,cond_true,g4 i hi];exact .refl _) (.refl _))
def kDT:Known:=.specG Ao Zw SM E6 fX
theorem ahl:kDT.Ok PG:=Known.specG_ok ahk
def eW(l:List Known):Env:=BU [] [(CT,5),(BN,5),(FG,0)] [] l
def fW:AV:=.fn (.func FG) [] [.ptr 1 0 0]
def hW(y:Msg):Heap:=[.arr true 31 [Ac y]]
def pW(y:Msg)(x:Wait):Bool:=decide (x.sess=y.sess)
def xCW:List AV->Wait × Msg:=fun a=>(IN (AA a 0),BI (alF a))
def sH(q:Wait × Msg):List AV:=[.agg (Ba q.1),.tp (Ac q.2) 0]
theorem ajM(q:Wait × Msg):Am (eW []) 9 FG (sH q)=some (.bool (pW q.2 q.1)):=by kernel_rfl
def Zy:Known:=.spec FG xCW (fun _=>True) sH (fun q=>.bool (pW q.2 q.1))
theorem Uj:Zy.Ok PG:=Known.spec_ok fun q _=>BQ (fun k hk=>by cases hk) (ajM q)
theorem ahm(q:Wait × Msg):xCW (sH q)=q:=Prod.ext rfl (C8 q.2)
def gW{R:Type}(q:Wait × Msg)(k:Wait × Msg->Option R):Option R:=gC xCW (fun _=>True) sH (sH q) k
theorem acQ{R:Type}(q:Wait × Msg)(k:Wait × Msg->Option R):gW q k=k q:=Aw q (ahm q) trivial (.refl _)
def SIW(n:Nat)(F:Nat->Wait)(y:Msg)(i:Int):St:={fr:=[(0,.sn 4 0 n),(1,fW),(7,.int .i64 n),(8,.int .i64 i)],hp:=.seq true 4 n (fun i=>Ba (F i))::hW y}
def LIW(N m n:Nat)(F:Nat->Wait)(y:Msg)(i:Int):Option (AV × Heap):=LP (eW [Zy]) N 2 CT (Cr 2 2) 0 [] m (SIW n F y i)
abbrev YW:=List Wait × Msg
def ES(p:YW):List AV × Heap:=([.sn 4 0 p.1.length,fW],Bc 4 Ba default p.1::hW p.2)
theorem ajN(N:Nat)(p:YW):BA 2 (eW [Zy]) (N+1) CT (ES p).1 (ES p).2=LIW N N p.1.length (fun i=>p.1.getD i default) p.2 0:=by kernel_rfl
theorem ajO(N m n:Nat)(F:Nat->Wait)(y:Msg)(i:Int):LIW N (m+1) n F y i=bif decide (i<(n:Int))then rg i n (bif Nat.blt i.toNat n then gW (F i.toNat,y) (fun q=>bif pW q.2 q.1 then some (.int .i64 i,.seq true 4 n (fun i=>Ba (F i))::hW y)else LIW N m n F y (IntKind.i64.wrap (i+1)))else none)else some (.int .i64 (-1),.seq true 4 n (fun i=>Ba (F i))::hW y):=by kernel_rfl
def Zz(_:List AV)(h:Heap):YW:=(Iu IN (Ab h 0),BI (OA (Ab h 1)))
theorem sI(p:YW):Zz (ES p).1 (ES p).2=p:=Prod.ext (He (sz:=4) (fun _=>rfl) p.1) (C8 p.2)
def SN(p:YW):Prop:=p.1.length<=100000
theorem ahn(p:YW)(h:SN p):Aa PG CT (ES p).1 (ES p).2 (.int .i64 (By (pW p.2) p.1 0)) (ES p).2/\(ES p).2.length<=(ES p).2.length:=by
 obtain⟨N,hN⟩:∃ N,N=200000:=⟨_,rfl⟩
 refine conC (ak Uj AL) (c:=2) (n:=N+1) (Nat.le_refl 2) ((ajN N p).trans ?_)
 have:=Oz (p:=pW p.2) (l:=p.1) (z:=default) (L:=fun m i=>LIW N m p.1.length (fun i=>p.1.getD i default) p.2 i) (A:=fun i=>some (.int .i64 i,(ES p).2)) h
  (fun m i=>by rw[ajO,acQ];rfl) p.1.length 0 N (by omega) (by unfold SN at h;omega)
 rw[List.drop_zero]at this
 exact this
def sJ:Known:=.specG CT Zz SN ES (fun p=>(.int .i64 (By (pW p.2) p.1 0),(ES p).2))
theorem ZA:sJ.Ok PG:=Known.specG_ok ahn
def SDW(n:Nat)(F:Nat->Wait)(y:Msg)(i j:Int):St:={fr:=[(0,.sn 4 0 n),(1,fW),(5,.int .i64 i),(6,.int .i64 j)],hp:=.seq true 4 n (fun i=>Ba (F i))::hW y}
def fY(N m n:Nat)(F:Nat->Wait)(y:Msg)(i j:Int):Option (AV × Heap):=LP (eW [sJ,Zy]) N 2 BN (Cr 2 2) 0 [] m (SDW n F y i j)
theorem ajP(N:Nat)(p:YW):BA 2 (eW [sJ,Zy]) (N+1) BN (ES p).1 (ES p).2=BF Zz SN ES (ES p).1 (ES p).2 fun q=>
 bif decide (By (pW q.2) q.1 0 = -1)then some (.sn 4 0 p.1.length,(ES q).2)
 else LP (eW [sJ,Zy]) N 2 BN (Cr 2 2) 0 [] N {fr:=[(0,.sn 4 0 p.1.length),(1,fW),(5,.int .i64 (By (pW q.2) q.1 0)),(6,.int .i64 (IntKind.i64.wrap (By (pW q.2) q.1 0+1)))],hp:=(ES q).2}:=by kernel_rfl
def AW(n:Nat)(y:Msg)(F:Nat->Wait)(i:Nat):Option (AV × Heap):=
 bif Nat.blt 0 n then bif(n - i).beq 0 then some (.sn 4 0 i,.seq true 4 n (fun i=>Ba (F i))::hW y)
 else bif(i+(n - i)).ble n then some (.sn 4 0 i,.seq true 4 n (fun k=>bif k.blt i then Ba (F k)else bif k.blt (i+(n - i))then Ba default else Ba (F k))::hW y)else none
 else none
theorem ajQ(N m n:Nat)(F:Nat->Wait)(y:Msg)(i j:Int):fY N (m+1) n F y i j =
 bif decide (j<(n:Int))then rg j n (bif Nat.blt j.toNat n then gW (F j.toNat,y) (fun q=>bif !pW q.2 q.1 then rg i n (bif Nat.blt i.toNat n&&true then LP (eW [sJ,Zy]) N 2 BN (Cr 2 2) 0 [] m
  {fr:=[(0,.sn 4 0 n),(1,fW),(5,.int .i64 (IntKind.i64.wrap (i+1))),(6,.int .i64 (IntKind.i64.wrap (j+1)))],hp:=.seq true 4 n (fun k=>bif k.beq i.toNat then Ba (F j.toNat)else Ba (F k))::hW y}else none)
  else fY N m n F y i (IntKind.i64.wrap (j+1)))else none)
 else bif decide (0<=i)&&decide (i<=(n:Int))then bif Nat.blt 0 n then bif(n - i.toNat).beq 0 then bif decide (0<=i)&&decide (i<=(n:Int))then some (.sn 4 0 i.toNat,.seq true 4 n (fun i=>Ba (F i))::hW y)else none
  else bif(i.toNat+(n - i.toNat)).ble n then bif decide (0<=i)&&decide (i<=(n:Int))then some (.sn 4 0 i.toNat,.seq true 4 n (fun k=>bif k.blt i.toNat then Ba (F k)else bif k.blt (i.toNat+(n - i.toNat))then Ba default else Ba (F k))::hW y)else none else none
  else none else none:=by kernel_rfl
theorem aho(N m n:Nat)(F:Nat->Wait)(y:Msg)(i j:Int):fY N (m+1) n F y i j =
 bif decide (j<(n:Int))then rg j n (bif Nat.blt j.toNat n then bif !pW y (F j.toNat)then rg i n (bif Nat.blt i.toNat n&&true then fY N m n (LH F i.toNat (F j.toNat)) y (IntKind.i64.wrap (i+1)) (IntKind.i64.wrap (j+1))else none)else fY N m n F y i (IntKind.i64.wrap (j+1))else none)
 else bif decide (0<=i)&&decide (i<=(n:Int))then AW n y F i.toNat else none:=by
 rw[ajQ,acQ,Po Ba]
 unfold AW
 cases decide (0<=i)&&decide (i<=(n:Int)) <;> rfl
def fZ(p:YW):AV × Heap:=(.sn 4 0 (p.1.filter fun x=>!pW p.2 x).length,Bc 4 Ba default (p.1.filter fun x=>!pW p.2 x)::hW p.2)
theorem ahp(p:YW)(h:SN p):Aa PG BN (ES p).1 (ES p).2 (fZ p).1 (fZ p).2/\(ES p).2.length<=(fZ p).2.length:=by
 obtain⟨N,hN⟩:∃ N,N=200000:=⟨_,rfl⟩
 have hq:∀ {K:YW->Option (AV × Heap)},BF Zz SN ES (ES p).1 (ES p).2 K=K p:=fun {K}=>BT p (sI p) h (.refl _) (.refl _)
 have e:=ajP N p
 rw[hq]at e
 by_cases hi:By (pW p.2) p.1 0 = -1
 ·rw[decide_eq_true hi,cond_true]at e
  have c:=(conC (ak ZA (ak Uj AL)) (c:=2) (hp:=(ES p).2) (Nat.le_refl 2) e)
  have hf:=filter_none ((HL p.1 0).1 hi)
  refine⟨?_,Nat.le_refl _⟩
  unfold fZ
  rw[hf]
  exact c.1
 ·rw[decide_eq_false hi,cond_false]at e
  have hp:=h
  unfold SN at hp
  obtain⟨G,g1,g2,g3,g4⟩:=Sb (p:=pW p.2) (z:=default) (L:=fun m F i j=>fY N m p.1.length F p.2 i j) (A:=AW p.1.length p.2) (m:=N) hp (by omega) (fun m F i j=>aho N m p.1.length F p.2 i j) hi
  have e2:=e.trans g1
  generalize hk:(p.1.filter fun x=>!pW p.2 x).length=k at *
  have hl:(Bc 4 Ba default (p.1.filter fun x=>!pW p.2 x))=.seq true 4 k fun i=>Ba ((p.1.filter fun x=>!pW p.2 x).getD i default):=by unfold Bc;rw[hk]
  unfold AW at e2
  rw[AB g2,cond_true]at e2
  refine⟨?_,Nat.le_refl _⟩
  unfold fZ
  rw[hl,hk]
  cases hz:(p.1.length - k).beq 0 with
  | true=>
   rw[hz,cond_true]at e2
   have c:=(conC (ak ZA (ak Uj AL)) (c:=2) (hp:=(ES p).2) (Nat.le_refl 2) e2).1
   exact c.resub (.refl _) (.cons (.seq true 4 p.1.length k _ _ g3 fun i hi=>by rw[g4 i hi];exact .refl _) (.refl _))
  | false=>
   rw[hz,cond_false,Bn (by omega),cond_true]at e2
   have c:=(conC (ak ZA (ak Uj AL)) (c:=2) (hp:=(ES p).2) (Nat.le_refl 2) e2).1
   exact c.resub (.refl _) (.cons (.seq true 4 p.1.length k _ _ g3 fun i hi=>by rw[AB hi,cond_true,g4 i hi];exact .refl _) (.refl _))
def kDW:Known:=.specG BN Zz SN ES fZ
theorem ahq:kDW.Ok PG:=Known.specG_ok ahp
theorem Ps{X:Type}(e:X->List AV)(z:X)(l k:List X):Be l.length (fun i=>e (l.getD i z)) (View.fn k.length fun i=>e (k.getD i z))=fun i=>e ((l++k).getD i z):=YA e z l k
theorem Pt{X:Type}(e:X->List AV)(z:X)(l:List X)(x:X):Be l.length (fun i=>e (l.getD i z)) (View.list [e x])=fun i=>e ((l++[x]).getD i z):=YB e z l [x]
theorem Vt{X:Type}(sz:Nat)(e:X->List AV)(z:X)(l:List X)(x:X):BS.seq true sz (l.length+1) (Be l.length (fun i=>e (l.getD i z)) (View.list [e x]))=Bc sz e z (l++[x]):=by
 unfold Bc;rw[Pt,List.length_append];rfl
theorem aeB{X:Type}(sz:Nat)(e:X->List AV)(z:X)(l k:List X):BS.seq true sz (l.length+k.length) (Be l.length (fun i=>e (l.getD i z)) (View.fn k.length fun i=>e (k.getD i z)))=Bc sz e z (l++k):=by
 unfold Bc;rw[Ps,List.length_append]
def Uk(l:List Known):Env:=BU [] [(Br,1),(Ao,5),(At,0),(Iq,1),(J8,0),(Mi,0)] [] l
theorem ahr(l:List Itm)(key:Txt):BA 0 (Uk [Nx Br 4,kDO]) 9 Iq [Al l,AV.str key] [] =
 gC (Ep) (Es) (Er 4) ([AV.tr 4 l.length fun i=>Af (l.getD i default)]) fun y0=>
 BF (fN) (GR) (FJ) ([AV.sn 4 0 y0.fst,AV.fn (Fn.func 153) [] [AV.ptr 1 0 0]]) ([BS.seq true 4 y0.fst y0.snd,BS.arr true 1 [[AV.str key]]]) fun y1=>
 some ((AV.sn 4 0 (List.filter (fun x=>!pO y1.snd x) y1.fst).length,[BS.seq true 4 (List.filter (fun x=>!pO y1.snd x) y1.fst).length fun i=>Af ((List.filter (fun x=>!pO y1.snd x) y1.fst).getD i default)])):=by kernel_rfl
def Cd(l:List Itm)(key:Txt):List Itm:=l.filter fun x=>!Ah x.key key
def KQ(p:YO):List AV:=[Al p.1,.str p.2]
def MR(a:List AV):YO:=(AN Bd (a.getD 0 .nils),Gu a 1)
theorem Sc(p:YO):MR (KQ p)=p:=Prod.ext (E1 p.1) rfl
theorem ZB:(Nx Br 4).Ok PG:=It Nw
theorem WU:(FH Br 4).Ok PG:=Dn Nw
theorem gA(p:YO)(h:GR p):Aa PG Iq (KQ p) [] (.sn 4 0 (Cd p.1 p.2).length) [Bc 4 Af default (Cd p.1 p.2)]:=by
 refine Zm (ak ZB (ak ahb AL)) ((ahr p.1 p.2).trans ?_)
 rw[WT h]
 exact BT (p.1,p.2) (rX (p.1,p.2)) h (.refl _) (.refl _)
def aap:Known:=.specB Iq MR GR KQ (fun p=>(.sn 4 0 (Cd p.1 p.2).length,[Bc 4 Af default (Cd p.1 p.2)]))
theorem gB:aap.Ok PG:=Known.specB_ok gA
theorem ahs{R:Type}{l:List Itm}{key:Txt}{k:YO->Option R}(h:l.length<=100000):gC MR GR KQ [.tr 4 l.length fun i=>Af (l.getD i default),.str key] k=k (l,key):=Aw (l,key) (Sc (l,key)) h (.refl _)
def acR:Known:=.spec Iq MR GR KQ (fun p=>Al (Cd p.1 p.2))
theorem snL{X:Type}(sz:Nat)(e:X->List AV)(z:X)(l:List X):Bp (.sn sz 0 l.length) [Bc sz e z l]=some (C5 sz e z l):=by
 show(bif Nat.ble l.length l.length then some (C5 sz e z l)else none)=_
 rw[Bn (Nat.le_refl _)];rfl
theorem aaq:acR.Ok PG:=Known.spec_ok fun p h=>(gA p h).snapped (snL _ _ _ _)
theorem size_eq(x:Itm):Am (Uk []) 9 Mi [AV.agg (Af x)] =
 some (AV.int IntKind.i64 (IntKind.i64.wrap (IntKind.i64.wrap ((↑x.key.length:Int)+(↑x.val.length:Int))+1))):=by kernel_rfl
def QS(x:Itm):Nat:=x.key.length+x.val.length+1
def EZ(x:Itm):Prop:=x.key.length<=2000/\x.val.length<=2000
theorem w64{n:Nat}(h:n<=1000000000):IntKind.i64.wrap (n:Int)=n:=wrap64 (by omega)
theorem mA{a b:Nat}(h:a+b<=1000000000):IntKind.i64.wrap ((a:Int)+(b:Int))=((a+b:Nat):Int):=by rw[show(a:Int)+(b:Int)=((a+b:Nat):Int) by omega];exact w64 h
theorem aar(x:Itm)(h:EZ x):Aa PG Mi [.agg (Af x)] [] (.int .i64 (QS x)) []:=by
 have:=h.1;have:=h.2
 refine BQ (fun k hk=>by cases hk) ((size_eq x).trans ?_)
 rw[mA (by omega),show((x.key.length+x.val.length:Nat):Int)+1=((x.key.length+x.val.length+1:Nat):Int) by omega,w64 (by omega)];rfl
def mB:Known:=.spec Mi (fun a=>Bd (AA a 0)) EZ (fun x=>[.agg (Af x)]) (fun x=>.int .i64 (QS x))
theorem gE:mB.Ok PG:=Known.spec_ok aar
def aht{R:Type}(x:Itm)(k:Itm->Option R):Option R:=gC (fun a=>Bd (AA a 0)) EZ (fun x=>[.agg (Af x)]) [.agg (Af x)] k
theorem gI{R:Type}{x:Itm}{k:Itm->Option R}(h:EZ x):aht x k=k x:=Aw x rfl h (.refl _)
def SSz(l:List Itm)(s i:Int):St:={fr:=[(3,.int .i64 s),(6,Al l),(7,.int .i64 l.length),(8,.int .i64 i)],hp:=[]}
def LSz(N m:Nat)(l:List Itm)(s i:Int):Option AV:=LP (Uk [mB]) N 0 J8 Bp 0 [] m (SSz l s i)
theorem aeC(N:Nat)(l:List Itm):Am (Uk [mB]) (N+1) J8 [Al l]=LSz N N l 0 0:=by kernel_rfl
theorem gJ(N m:Nat)(l:List Itm)(s i:Int):LSz N (m+1) l s i=bif decide (i<(l.length:Int))then rg i l.length (aht (l.getD i.toNat default) fun y=>LSz N m l (IntKind.i64.wrap (s+QS y)) (IntKind.i64.wrap (i+1)))else some (.int .i64 s):=by kernel_rfl
def GA(l:List Itm):Nat:=(l.map QS).sum
theorem aeD(a b:List Itm):GA (a++b)=GA a+GA b:=by simp[GA]
theorem sK{l:List Itm}(h:∀ x ∈ l,EZ x):GA l<=4001*l.length:=by
 induction l with
 | nil=>simp[GA]
 | cons x r ih=>
  have:=ih fun y hy=>h y (by simp[hy])
  have h1:=h x (by simp)
  have h2:QS x<=4001:=by unfold QS;have:=h1.1;have:=h1.2;omega
  have:GA (x::r)=QS x+GA r:=by simp[GA]
  rw[this,List.length_cons];omega
def GS(l:List Itm):Prop:=l.length<=100000 /\ ∀ x ∈ l,EZ x
theorem gK{l:List Itm}(h:GS l){i:Nat}(hi:i<l.length):EZ (l.getD i default):=h.2 _ (getD_mem hi)
theorem aas{l:List Itm}{i:Nat}(h:i<l.length):GA (l.take (i+1))=GA (l.take i)+QS (l.getD i default):=by
 rw[List.take_add_one,aeD,List.getElem?_eq_getElem h]
 simp[GA,List.getD,List.getElem?_eq_getElem h]
theorem aat(l:List Itm)(h:GS l):Aa PG J8 [Al l] [] (.int .i64 (GA l)) []:=by
 obtain⟨N,hN⟩:∃ N,N=200000:=⟨_,rfl⟩
 have hl:=h.1
 refine BQ (ak gE AL) ((aeC N l).trans ?_)
 have:=Ou (n:=l.length) (fun i m=>LSz N m l (GA (l.take i):Nat) (i:Nat)=some (.int .i64 (GA l:Nat))) (fun m=>?_) (fun i m hi ih=>?_) 0 N (Nat.zero_le _) (by omega)
 ·simpa [GA] using this
 ·rw[gJ,decide_eq_false (by omega),cond_false,List.take_of_length_le (Nat.le_refl _)]
 ·have hb:=sK (l:=l.take (i+1)) fun x hx=>h.2 x (List.mem_of_mem_take hx)
  rw[List.length_take]at hb
  have e:=aas hi
  rw[gJ,decide_eq_true (by omega),cond_true,Bq hi,Int.toNat_natCast,gI (gK h hi),mA (by omega),Bz (by omega),<- e]
  exact ih
def kSz:Known:=.spec J8 (fun a=>AN Bd (a.getD 0 .nils)) GS (fun l=>[Al l]) (fun l=>.int .i64 (GA l))
theorem ahu:kSz.Ok PG:=Known.spec_ok aat
theorem qSz{R:Type}{l:List Itm}{k:List Itm->Option R}(h:GS l):gC (fun a=>AN Bd (a.getD 0 .nils)) GS (fun l=>[Al l]) [Al l] k=k l:=Aw l (E1 l) h (.refl _)
abbrev LX:=List Itm × Itm × Int
def QT(p:LX):List AV:=[Al p.1,.agg (Af p.2.1),.int .i64 p.2.2]
def gL:List Known:=[mB,aap,kSz,FH Br 4]
theorem ahv:∀ k ∈ gL,k.Ok PG:=ak gE (ak gB (ak ahu (ak WU AL)))
def SPu(l:List Itm)(room s g:Int):St:={fr:=[(2,.int .i64 room),(7,.sn 4 0 l.length),(8,.int .i64 s),(9,.int .i64 g)],hp:=[Bc 4 Af default l]}
theorem ahw(N:Nat)(p:LX):Am (Uk gL) (N+1) F9 (QT p) =
 gC (MR) (GR) (KQ) ([AV.tr 4 p.fst.length fun i=>Af (p.fst.getD i default),AV.str p.snd.fst.key]) fun y0=>
 bif(Cd y0.fst y0.snd).length.ble (Cd y0.fst y0.snd).length then
  bif(((Cd y0.fst y0.snd).length+1)*56).ble 140737488355328&&((Cd y0.fst y0.snd).length+1).ble 140737488355328 then
   bif((Cd y0.fst y0.snd).length+1).ble ((Cd y0.fst y0.snd).length+1)&&true then
    gC (fun a=>AN Bd (a.getD 0 AV.nils)) (GS) (fun l=>[Al l]) ([AV.tr 4 ((Cd y0.fst y0.snd).length+1) (Be (Cd y0.fst y0.snd).length (fun i=>Af ((Cd y0.fst y0.snd).getD i default)) (View.list [Af p.snd.fst]))]) fun y1=>
    LP (Uk gL) (N) 0 (F9) Bp 0 [] (N) ({fr:=[(2,AV.int IntKind.i64 p.snd.snd),(7,AV.sn 4 0 ((Cd y0.fst y0.snd).length+1)),(8,AV.int IntKind.i64 (↑(GA y1):Int)),(9,AV.int IntKind.i64 0)],hp:=[BS.seq true 4 ((Cd y0.fst y0.snd).length+1) (Be (Cd y0.fst y0.snd).length (fun i=>Af ((Cd y0.fst y0.snd).getD i default)) (View.list [Af p.snd.fst]))]})
   else none
  else none
 else none:=by kernel_rfl
theorem sL(N:Nat)(m:Nat)(l:List Itm)(room:Int)(s:Int)(g:Int):LP (Uk gL) N 0 F9 Bp 0 [] (m+1) (SPu l room s g) =
 bif decide (g<(↑l.length:Int))then
  bif decide (room<s)then
   bif decide (0<=g)&&decide (g<(↑l.length:Int))then
    bif g.toNat.blt l.length then
     gC (fun a=>Bd (AA a 0)) (EZ) (fun x=>[AV.agg (Af x)]) ([AV.agg (Af (l.getD g.toNat default))]) fun y2=>
     LP (Uk gL) (N) (0) (F9) (Bp) 0 ([]) (m) (SPu l room (IntKind.i64.wrap (s - (↑(QS y2):Int))) (IntKind.i64.wrap (g+1)))
    else none
   else none
  else
   bif decide ((↑l.length:Int)<=(↑l.length:Int))then
    bif decide ((↑l.length:Int)<=(↑(↑l.length:Int).toNat:Int))then
     bif decide (0<=g)&&decide (g<=(↑(↑l.length:Int).toNat:Int))then
      bif Nat.blt 0 l.length then
       bif(((↑l.length:Int).toNat - g.toNat).beq 0||((↑l.length:Int).toNat - g.toNat+g.toNat).ble l.length)&&true then
        gC (Ep) (Es) (Er 4) ([AV.tr 4 ((↑l.length:Int).toNat - g.toNat) fun i=>Af (l.getD (i+g.toNat) default)]) fun y3=>
        some (AV.tr 4 y3.fst y3.snd)
       else none
      else none
     else none
    else none
   else none
 else
  bif decide ((↑l.length:Int)<=(↑l.length:Int))then
   bif decide ((↑l.length:Int)<=(↑(↑l.length:Int).toNat:Int))then
    bif decide (0<=g)&&decide (g<=(↑(↑l.length:Int).toNat:Int))then
     bif Nat.blt 0 l.length then
      bif(((↑l.length:Int).toNat - g.toNat).beq 0||((↑l.length:Int).toNat - g.toNat+g.toNat).ble l.length)&&true then
       gC (Ep) (Es) (Er 4) ([AV.tr 4 ((↑l.length:Int).toNat - g.toNat) fun i=>Af (l.getD (i+g.toNat) default)]) fun y4=>
       some (AV.tr 4 y4.fst y4.snd)
      else none
     else none
    else none
   else none
  else none:=by kernel_rfl
def NZ(room:Int):List Itm->List Itm
 | []=>[]
 | x::r=>bif decide (room<(GA (x::r):Int))then NZ room r else x::r
def putP(p:LX):List Itm:=NZ p.2.2 (Cd p.1 p.2.1.key++[p.2.1])
def LJ(p:LX):Prop:=GS p.1/\EZ p.2.1/\p.1.length<=10000
theorem KR(l:List Itm)(k:Txt):(Cd l k).length<=l.length:=List.length_filter_le _ _
theorem aeE{l:List Itm}{k:Txt}(h:GS l):GS (Cd l k):=⟨Nat.le_trans (KR l k) h.1,fun x hx=>h.2 x ((List.mem_filter.1 hx).1)⟩
theorem ZC(room:Int):∀ l,(NZ room l).length<=l.length
 | []=>Nat.le_refl _
 | x::r=>by
  unfold NZ
  cases decide (room<(GA (x::r):Int))with
  | true=>have:=ZC room r;simp;omega
  | false=>exact Nat.le_refl _
theorem gM{l:List Itm}{g:Nat}(hg:g<=l.length)(h0:0<l.length)(hl:l.length<=100000){K:Nat × (Nat->List AV)->Option AV} :
  (bif decide ((l.length:Int)<=(l.length:Int))then bif decide ((l.length:Int)<=(((l.length:Int).toNat:Nat):Int))then bif decide ((0:Int)<=(g:Int))&&decide ((g:Int)<=(((l.length:Int).toNat:Nat):Int))then bif Nat.blt 0 l.length then
   bif(((l.length:Int).toNat - (g:Int).toNat).beq 0||((l.length:Int).toNat - (g:Int).toNat+(g:Int).toNat).ble l.length)&&true then gC Ep Es (Er 4) [.tr 4 ((l.length:Int).toNat - (g:Int).toNat) fun i=>Af (l.getD (i+(g:Int).toNat) default)] K else none else none else none else none else none)
   = K (l.length - g,fun i=>Af (l.getD (i+g) default)):=by
 simp only[Int.toNat_natCast]
 rw[decide_eq_true (Int.le_refl _),decide_eq_true (by omega),decide_eq_true (by omega),cond_true,cond_true,Bool.and_true,cond_true,AB h0,cond_true,Bn (by omega),Bool.or_true,Bool.and_true,cond_true]
 exact WT (by omega)
theorem put_con(p:LX)(h:LJ p):Aa PG F9 (QT p) [] (Al (putP p)) []:=by
 obtain⟨h1,h2,h3⟩:=h
 obtain⟨N,hN⟩:∃ N,N=200000:=⟨_,rfl⟩
 have ho:=aeE (k:=p.2.1.key) h1
 have hol:=KR p.1 p.2.1.key
 obtain⟨l,hl⟩:∃ l,l=Cd p.1 p.2.1.key++[p.2.1]:=⟨_,rfl⟩
 have hlen:l.length=(Cd p.1 p.2.1.key).length+1:=by rw[hl,List.length_append];rfl
 have hlo:GS l:=⟨by omega,fun x hx=>by
  rw[hl]at hx
  rcases List.mem_append.1 hx with h | h
  ·exact ho.2 x h
  ·simp at h;exact h ▸ h2⟩
 have run:∀ d g m,g+d=l.length->d<m -> ∃ k,k<=l.length/\NZ p.2.2 (l.drop g)=l.drop k/\LP (Uk gL) N 0 F9 Bp 0 [] m (SPu l p.2.2 (GA (l.drop g):Nat) (g:Nat))=some (.tr 4 (l.length - k) fun i=>Af (l.getD (i+k) default)):=by
  intro d
  induction d with
  | zero=>
   intro g m hg hm
   obtain⟨m,rfl⟩:∃ k,m=k+1:=⟨m - 1,by omega⟩
   refine⟨g,by omega,by rw[List.drop_eq_nil_of_le (by omega)];rfl,?_⟩
   rw[sL,decide_eq_false (by omega),cond_false]
   exact gM (by omega) (by omega) (by omega)
  | succ d ih=>
   intro g m hg hm
   obtain⟨m,rfl⟩:∃ k,m=k+1:=⟨m - 1,by omega⟩
   have hgl:g<l.length:=by omega
   have hd:=drop_cons (z:=(default:Itm)) hgl
   have hs:GA (l.drop g)=QS (l.getD g default)+GA (l.drop (g+1)):=by rw[hd];simp[GA]
   have hb:=sK (l:=l.drop g) fun x hx=>hlo.2 x (List.mem_of_mem_drop hx)
   rw[List.length_drop]at hb
   rw[sL,decide_eq_true (by omega),cond_true]
   cases hc:decide (p.2.2<((GA (l.drop g):Nat):Int))with
   | true=>
    rw[cond_true,decide_eq_true (by omega),Bool.and_true,cond_true,Int.toNat_natCast,AB hgl,cond_true]
    obtain⟨k,k1,k2,k3⟩:=ih (g+1) m (by omega) (by omega)
    refine⟨k,k1,?_,?_⟩
    ·rw[hd,NZ,<- hd,hc,cond_true];exact k2
    ·refine(gI (gK hlo hgl)).trans ?_
     rw[show((GA (l.drop g):Nat):Int) - (QS (l.getD g default):Nat)=((GA (l.drop (g+1)):Nat):Int) by omega,w64 (by omega),Bz (by omega)]
     exact k3
   | false=>
    refine⟨g,by omega,by rw[hd,NZ,<- hd,hc,cond_false],?_⟩
    rw[cond_false]
    exact gM (by omega) (by omega) (by omega)
 obtain⟨k,k1,k2,k3⟩:=run l.length 0 N (by omega) (by omega)
 rw[List.drop_zero]at k2 k3
 have e:=ahw N p
 rw[ahs h1.1]at e
 simp only at e
 rw[Bn (Nat.le_refl _),cond_true,Bn (by omega),Bn (by omega),Bool.and_true,cond_true,Bn (Nat.le_refl _),Bool.and_true,cond_true]at e
 have hq:(.tr 4 ((Cd p.1 p.2.1.key).length+1) (Be (Cd p.1 p.2.1.key).length (fun i=>Af ((Cd p.1 p.2.1.key).getD i default)) (View.list [Af p.2.1])):AV)=Al l:=by
  rw[Pt,hl]
  unfold Al C5
  rw[List.length_append];rfl
 rw[hq,qSz hlo]at e
 have hb2:BS.seq true 4 ((Cd p.1 p.2.1.key).length+1) (Be (Cd p.1 p.2.1.key).length (fun i=>Af ((Cd p.1 p.2.1.key).getD i default)) (View.list [Af p.2.1]))=Bc 4 Af default l:=by rw[hl];exact Vt _ _ _ _ _
 rw[hb2]at e
 rw[show(Cd p.1 p.2.1.key).length+1=l.length from hlen.symm]at e
 have c:=BQ ahv (e.trans k3)
 refine c.res ?_
 show AR _ (Al (NZ p.2.2 (Cd p.1 p.2.1.key++[p.2.1])))
 rw[<- hl,k2]
 unfold Al C5
 rw[List.length_drop]
 refine .trs fun i hi=>?_
 have:(l.drop k).getD i default=l.getD (i+k) default:=by
  simp only[List.getD,List.getElem?_drop];rw[Nat.add_comm]
 rw[this];exact .refl _
def aau:Known:=.spec F9 (fun a=>(AN Bd (a.getD 0 .nils),Bd (AA a 1),Ar a 2)) LJ QT (fun p=>Al (putP p))
theorem gN:aau.Ok PG:=Known.spec_ok put_con
def fG(key:Txt):AV:=.fn (.func GQ) [] [.tp [.str key] 0]
def eG(l:List Known):Env:=BU [] [(Br,0),(At,0),(GQ,0),(Iq,1)] [] l
def xG(a:List AV):Itm × Txt:=(Bd (AA a 0),ag6 a)
def yG(q:Itm × Txt):List AV:=[.agg (Af q.1),.tp [.str q.2] 0]
theorem ajR(q:Itm × Txt):Am (eG []) 9 GQ (yG q)=some (.bool (Ah q.1.key q.2)):=by kernel_rfl
def kCG:Known:=.spec GQ xG (fun _=>True) yG (fun q=>.bool (Ah q.1.key q.2))
theorem ahx:kCG.Ok PG:=Known.spec_ok fun q _=>BQ (fun k hk=>by cases hk) (ajR q)
def gG{R:Type}(q:Itm × Txt)(k:Itm × Txt->Option R):Option R:=gC xG (fun _=>True) yG (yG q) k
theorem ajS{R:Type}(q:Itm × Txt)(k:Itm × Txt->Option R):gG q k=k q:=Aw q rfl trivial (.refl _)
def SIG(l:List Itm)(key:Txt)(i:Int):St:={fr:=[(0,Al l),(1,fG key),(7,.int .i64 l.length),(8,.int .i64 i)],hp:=[]}
def LIG(N m:Nat)(l:List Itm)(key:Txt)(i:Int):Option AV:=LP (eG [kCG]) N 0 At Bp 0 [] m (SIG l key i)
theorem ajT(N:Nat)(p:YO):Am (eG [kCG]) (N+1) At [Al p.1,fG p.2]=LIG N N p.1 p.2 0:=by kernel_rfl
theorem ajU(N m:Nat)(l:List Itm)(key:Txt)(i:Int):LIG N (m+1) l key i=bif decide (i<(l.length:Int))then rg i l.length (gG (l.getD i.toNat default,key) fun q=>bif Ah q.1.key q.2 then some (.int .i64 i)else LIG N m l key (IntKind.i64.wrap (i+1)))else some (.int .i64 (-1)):=by kernel_rfl
def eIG(p:YO):List AV:=[Al p.1,fG p.2]
def dIG(a:List AV):YO:=(AN Bd (a.getD 0 .nils),match a.getD 1 .nils with
 | .fn _ _ [.tp [.str s] _]=>s
 | _=>[])
theorem ahy(p:YO)(h:GR p):Aa PG At (eIG p) [] (.int .i64 (By (fun x=>Ah x.key p.2) p.1 0)) []:=by
 obtain⟨N,hN⟩:∃ N,N=200000:=⟨_,rfl⟩
 refine BQ (ak ahx AL) ((ajT N p).trans ?_)
 have:=Oz (p:=fun x=>Ah x.key p.2) (l:=p.1) (z:=default) (L:=fun m i=>LIG N m p.1 p.2 i) (A:=fun i=>some (AV.int .i64 i)) h
  (fun m i=>by
   rw[ajU]
   cases hd:decide (i<(p.1.length:Int))with
   | false=>rfl
   | true=>
    rw[cond_true,cond_true]
    unfold rg
    cases hg:decide (0<=i)with
    | false=>rfl
    | true=>
     have h1:=of_decide_eq_true hd
     have h2:=of_decide_eq_true hg
     rw[AB (by omega),ajS];rfl) p.1.length 0 N (by omega) (by unfold GR at h;omega)
 rw[List.drop_zero]at this
 exact this
def kIG:Known:=.spec At dIG GR eIG (fun p=>.int .i64 (By (fun x=>Ah x.key p.2) p.1 0))
theorem ahz:kIG.Ok PG:=Known.spec_ok ahy
theorem qIG{R:Type}{l:List Itm}{key:Txt}{k:YO->Option R}(h:l.length<=100000):gC dIG GR eIG [.tr 4 l.length fun i=>Af (l.getD i default),.fn (.func GQ) [] [.tp [.str key] 0]] k=k (l,key):=Aw (l,key) (Prod.ext (E1 l) rfl) h (.refl _)
def kn8:List Known:=[kIG,FH Br 4,aap]
theorem sM:∀ k ∈ kn8,k.Ok PG:=ak ahz (ak WU (ak gB AL))
theorem ahA(l:List Itm)(key:Txt):Am (eG kn8) 9 Nm [Al l,AV.str key] =
 gC (dIG) (GR) (eIG) ([AV.tr 4 l.length fun i=>Af (l.getD i default),AV.fn (Fn.func GQ) [] [AV.tp [AV.str key] 0]]) fun y0=>
 bif decide (By (fun x=>Ah x.key y0.snd) y0.fst 0<0)then
  gC (Ep) (Es) (Er 4) ([AV.tr 4 l.length fun i=>Af (l.getD i default)]) fun y1=>
  some (AV.tup [AV.agg [AV.str [],AV.str [],AV.bool false,AV.cplx FloatKind.f64 0 0],AV.tr 4 y1.fst y1.snd,AV.bool false])
 else
  bif decide (0<=By (fun x=>Ah x.key y0.snd) y0.fst 0)&&decide (By (fun x=>Ah x.key y0.snd) y0.fst 0<(↑l.length:Int))then
   gC (MR) (GR) (KQ) ([AV.tr 4 l.length fun i=>Af (l.getD i default),AV.str key]) fun y2=>
   bif decide (0<=By (fun x=>Ah x.key y0.snd) y0.fst 0)&&decide (By (fun x=>Ah x.key y0.snd) y0.fst 0<(↑l.length:Int))then
    bif(Cd y2.fst y2.snd).length.ble (Cd y2.fst y2.snd).length then
     bif(((Cd y2.fst y2.snd).length+1)*56).ble 140737488355328&&((Cd y2.fst y2.snd).length+1).ble 140737488355328 then
      bif((Cd y2.fst y2.snd).length+1).ble ((Cd y2.fst y2.snd).length+1)&&true then
       some (AV.tup [AV.agg (Af (l.getD (By (fun x=>Ah x.key y0.snd) y0.fst 0).toNat default)),AV.tr 4 ((Cd y2.fst y2.snd).length+1) (Be (Cd y2.fst y2.snd).length (fun i=>Af ((Cd y2.fst y2.snd).getD i default)) (View.list [Af (l.getD (By (fun x=>Ah x.key y0.snd) y0.fst 0).toNat default)])),AV.bool true])
      else none
     else none
    else none
   else none
  else none:=by kernel_rfl
def aav(l:List Itm)(key:Txt):Option Itm:=l.find? fun x=>Ah x.key key
def ED(p:YO):Itm × List Itm × Bool:=match aav p.1 p.2 with
 | some x=>(x,Cd p.1 p.2++[x],true)
 | none=>(default,p.1,false)
def Ul(o:Itm × List Itm × Bool):AV:=.tup [.agg (Af o.1),Al o.2.1,.bool o.2.2]
theorem sN{X:Type}{p:X->Bool}{l:List X}(h:∀ x ∈ l,p x=false):l.find? p=none:=List.find?_eq_none.2 fun x hx=>by rw[h x hx];simp
theorem gQ{X:Type}{p:X->Bool}{z:X}:∀ (l:List X) (k:Nat),k<l.length->p (l.getD k z)=true->(∀ x ∈ l.take k,p x=false)->l.find? p=some (l.getD k z)
 | [],k,h,_,_=>absurd h (Nat.not_lt_zero k)
 | x::r,0,_,h,_=>by
  have:p x=true:=by simpa using h
  simp[this]
 | x::r,k+1,h,h1,h2=>by
  have hx:p x=false:=h2 x (by simp)
  rw[List.find?_cons,hx]
  have:=gQ (z:=z) r k (by simpa using h) (by simpa using h1) fun y hy=>h2 y (by simp[hy])
  simpa using this
theorem aeF(p:YO)(h:GR p):Aa PG Nm (KQ p) [] (Ul (ED p)) []:=by
 unfold GR at h
 have e:=ahA p.1 p.2
 rw[qIG h]at e
 simp only at e
 by_cases hi:By (fun x=>Ah x.key p.2) p.1 0 = -1
 ·have hn:=sN ((HL p.1 0).1 hi)
  rw[decide_eq_true (by omega),cond_true,WT h]at e
  have:Ul (ED p)=.tup [.agg (Af default),Al p.1,.bool false]:=by
   unfold ED aav;rw[hn];rfl
  rw[this]
  exact BQ sM e
 ·obtain⟨k,h1,h2,h3,h4⟩:=NY default p.1 0 hi
  rw[Nat.zero_add]at h1
  have hf:=gQ (z:=default) p.1 k h2 h3 h4
  have ho:=KR p.1 p.2
  rw[h1]at e
  rw[decide_eq_false (by omega),cond_false,decide_eq_true (by omega),decide_eq_true (by omega),Bool.and_true,cond_true,ahs h]at e
  simp only[Int.toNat_natCast]at e
  rw[Bn (Nat.le_refl _),cond_true,Bn (by omega),Bn (by omega),Bool.and_true,cond_true,Bn (Nat.le_refl _),Bool.and_true,cond_true]at e
  have:Ul (ED p)=.tup [.agg (Af (p.1.getD k default)),Al (Cd p.1 p.2++[p.1.getD k default]),.bool true]:=by
   unfold ED aav;rw[hf];rfl
  rw[this]
  have hq:Al (Cd p.1 p.2++[p.1.getD k default])=.tr 4 ((Cd p.1 p.2).length+1) (Be (Cd p.1 p.2).length (fun i=>Af ((Cd p.1 p.2).getD i default)) (View.list [Af (p.1.getD k default)])):=by
   rw[Pt];unfold Al C5;rw[List.length_append];rfl
  rw[hq]
  exact BQ sM e
def aaw:Known:=.spec Nm MR GR KQ (fun p=>Ul (ED p))
theorem gR:aaw.Ok PG:=Known.spec_ok aeF
def eS(l:List Known):Env:=BU [] [(Ka,0),(GO,0),(Jh,0)] [] l
theorem ahB(x:Entry):Am (eS []) 9 Ka [AV.agg (Ai x)] =
 some (AV.int IntKind.i64 (IntKind.i64.wrap (IntKind.i64.wrap ((↑x.key.length:Int)+(↑x.val.length:Int))+1))):=by kernel_rfl
theorem aeG(b:Bool)(n:Int)(h:Int)(l:Int):Am (eS []) 9 Jh [AV.bool b,AV.int IntKind.i64 n,AV.int IntKind.i64 h,AV.int IntKind.i64 l] =
 bif decide (h<=n)then
  some (AV.bool true)
 else
  bif decide (n<=l)then
   some (AV.bool false)
  else
   some (AV.bool b):=by kernel_rfl
theorem aax(k:Int):Am (eS []) 9 Io [AV.int IntKind.i64 k] =
 bif decide (k=1)then
  some (AV.bool true)
 else
  some (AV.bool (decide (k=4))):=by kernel_rfl
theorem sO(k:Int):Am (eS []) 9 Hr [AV.int IntKind.i64 k] =
 bif decide (k=2)then
  some (AV.bool true)
 else
  bif decide (k=3)then
   some (AV.bool true)
  else
   some (AV.bool (decide (k=4))):=by kernel_rfl
theorem aay(o:Md.Op)(c:Conf):Am (eS []) 9 Il [AV.agg (JZ o),AV.agg (CG c)] =
 bif decide (o.kind<1)then
  some (AV.int IntKind.i64 8)
 else
  bif decide (5<o.kind)then
   some (AV.int IntKind.i64 8)
  else
   bif !decide (o.kind=5)then
    bif Ah o.key []then
     some (AV.int IntKind.i64 8)
    else
     bif decide (c.maxKey<(↑o.key.length:Int))then
      some (AV.int IntKind.i64 4)
     else
      bif decide (c.maxVal<(↑o.val.length:Int))then
       some (AV.int IntKind.i64 4)
      else
       bif decide (c.maxVal<(↑o.old.length:Int))then
        some (AV.int IntKind.i64 4)
       else
        some (AV.int IntKind.i64 0)
   else
    bif decide (c.maxKey<(↑o.key.length:Int))then
     some (AV.int IntKind.i64 4)
    else
     bif decide (c.maxVal<(↑o.val.length:Int))then
      some (AV.int IntKind.i64 4)
     else
      bif decide (c.maxVal<(↑o.old.length:Int))then
       some (AV.int IntKind.i64 4)
      else
       some (AV.int IntKind.i64 0):=by kernel_rfl
theorem ahC(o:Md.Op)(v:Ver)(s:Int)(n:Int)(x:Itm)(room:Bool):Am (eS []) 9 IJ [AV.agg (JZ o),AV.cplx FloatKind.f64 v.re v.im,AV.int IntKind.i64 s,AV.int IntKind.i64 n,AV.agg (Af x),AV.bool room] =
 bif decide (o.kind=2)then
  bif !room then
   some (AV.agg [AV.cplx FloatKind.f64 v.re v.im,AV.int IntKind.i64 o.kind,AV.str o.key,AV.str [],AV.bool false,AV.bool false,AV.int IntKind.i64 s,AV.int IntKind.i64 n,AV.int IntKind.i64 3,AV.str [],AV.bool false])
  else
   bif decide (o.kind=1)then
    bif !x.has then
     some (AV.agg [AV.cplx FloatKind.f64 v.re v.im,AV.int IntKind.i64 o.kind,AV.str o.key,AV.str [],AV.bool false,AV.bool false,AV.int IntKind.i64 s,AV.int IntKind.i64 n,AV.int IntKind.i64 1,AV.str [],AV.bool false])
    else
     some (AV.agg [AV.cplx FloatKind.f64 v.re v.im,AV.int IntKind.i64 o.kind,AV.str o.key,AV.str [],AV.bool false,AV.bool false,AV.int IntKind.i64 s,AV.int IntKind.i64 n,AV.int IntKind.i64 0,AV.str x.val,AV.bool true])
   else
    bif decide (o.kind=2)then
     some (AV.agg [AV.cplx FloatKind.f64 v.re v.im,AV.int IntKind.i64 o.kind,AV.str o.key,AV.str o.val,AV.bool true,AV.bool false,AV.int IntKind.i64 s,AV.int IntKind.i64 n,AV.int IntKind.i64 0,AV.str [],AV.bool false])
    else
     bif decide (o.kind=3)then
      some (AV.agg [AV.cplx FloatKind.f64 v.re v.im,AV.int IntKind.i64 o.kind,AV.str o.key,AV.str [],AV.bool true,AV.bool true,AV.int IntKind.i64 s,AV.int IntKind.i64 n,AV.int IntKind.i64 0,AV.str [],AV.bool false])
     else
      bif decide (o.kind=4)then
       bif bif x.has then o.hasOld else !o.hasOld then
        bif !x.has then
         some (AV.agg [AV.cplx FloatKind.f64 v.re v.im,AV.int IntKind.i64 o.kind,AV.str o.key,AV.str o.val,AV.bool true,AV.bool false,AV.int IntKind.i64 s,AV.int IntKind.i64 n,AV.int IntKind.i64 0,AV.str [],AV.bool false])
        else
         bif Ah x.val o.old then
          some (AV.agg [AV.cplx FloatKind.f64 v.re v.im,AV.int IntKind.i64 o.kind,AV.str o.key,AV.str o.val,AV.bool true,AV.bool false,AV.int IntKind.i64 s,AV.int IntKind.i64 n,AV.int IntKind.i64 0,AV.str [],AV.bool false])
         else
          bif x.has then
           some (AV.agg [AV.cplx FloatKind.f64 v.re v.im,AV.int IntKind.i64 o.kind,AV.str o.key,AV.str [],AV.bool false,AV.bool false,AV.int IntKind.i64 s,AV.int IntKind.i64 n,AV.int IntKind.i64 2,AV.str x.val,AV.bool x.has])
          else
           some (AV.agg [AV.cplx FloatKind.f64 v.re v.im,AV.int IntKind.i64 o.kind,AV.str o.key,AV.str [],AV.bool false,AV.bool false,AV.int IntKind.i64 s,AV.int IntKind.i64 n,AV.int IntKind.i64 2,AV.str [],AV.bool x.has])
       else
        bif x.has then
         some (AV.agg [AV.cplx FloatKind.f64 v.re v.im,AV.int IntKind.i64 o.kind,AV.str o.key,AV.str [],AV.bool false,AV.bool false,AV.int IntKind.i64 s,AV.int IntKind.i64 n,AV.int IntKind.i64 2,AV.str x.val,AV.bool x.has])
        else
         some (AV.agg [AV.cplx FloatKind.f64 v.re v.im,AV.int IntKind.i64 o.kind,AV.str o.key,AV.str [],AV.bool false,AV.bool false,AV.int IntKind.i64 s,AV.int IntKind.i64 n,AV.int IntKind.i64 2,AV.str [],AV.bool x.has])
      else
       some (AV.agg [AV.cplx FloatKind.f64 v.re v.im,AV.int IntKind.i64 o.kind,AV.str o.key,AV.str [],AV.bool false,AV.bool false,AV.int IntKind.i64 s,AV.int IntKind.i64 n,AV.int IntKind.i64 0,AV.str [],AV.bool false])
 else
  bif decide (o.kind=3)then
   bif !room then
    some (AV.agg [AV.cplx FloatKind.f64 v.re v.im,AV.int IntKind.i64 o.kind,AV.str o.key,AV.str [],AV.bool false,AV.bool false,AV.int IntKind.i64 s,AV.int IntKind.i64 n,AV.int IntKind.i64 3,AV.str [],AV.bool false])
   else
    bif decide (o.kind=1)then
     bif !x.has then
      some (AV.agg [AV.cplx FloatKind.f64 v.re v.im,AV.int IntKind.i64 o.kind,AV.str o.key,AV.str [],AV.bool false,AV.bool false,AV.int IntKind.i64 s,AV.int IntKind.i64 n,AV.int IntKind.i64 1,AV.str [],AV.bool false])
     else
      some (AV.agg [AV.cplx FloatKind.f64 v.re v.im,AV.int IntKind.i64 o.kind,AV.str o.key,AV.str [],AV.bool false,AV.bool false,AV.int IntKind.i64 s,AV.int IntKind.i64 n,AV.int IntKind.i64 0,AV.str x.val,AV.bool true])
    else
     bif decide (o.kind=2)then
      some (AV.agg [AV.cplx FloatKind.f64 v.re v.im,AV.int IntKind.i64 o.kind,AV.str o.key,AV.str o.val,AV.bool true,AV.bool false,AV.int IntKind.i64 s,AV.int IntKind.i64 n,AV.int IntKind.i64 0,AV.str [],AV.bool false])
     else
      bif decide (o.kind=3)then
       some (AV.agg [AV.cplx FloatKind.f64 v.re v.im,AV.int IntKind.i64 o.kind,AV.str o.key,AV.str [],AV.bool true,AV.bool true,AV.int IntKind.i64 s,AV.int IntKind.i64 n,AV.int IntKind.i64 0,AV.str [],AV.bool false])
      else
       bif decide (o.kind=4)then
        bif bif x.has then o.hasOld else !o.hasOld then
         bif !x.has then
          some (AV.agg [AV.cplx FloatKind.f64 v.re v.im,AV.int IntKind.i64 o.kind,AV.str o.key,AV.str o.val,AV.bool true,AV.bool false,AV.int IntKind.i64 s,AV.int IntKind.i64 n,AV.int IntKind.i64 0,AV.str [],AV.bool false])
         else
          bif Ah x.val o.old then
           some (AV.agg [AV.cplx FloatKind.f64 v.re v.im,AV.int IntKind.i64 o.kind,AV.str o.key,AV.str o.val,AV.bool true,AV.bool false,AV.int IntKind.i64 s,AV.int IntKind.i64 n,AV.int IntKind.i64 0,AV.str [],AV.bool false])
          else
           bif x.has then
            some (AV.agg [AV.cplx FloatKind.f64 v.re v.im,AV.int IntKind.i64 o.kind,AV.str o.key,AV.str [],AV.bool false,AV.bool false,AV.int IntKind.i64 s,AV.int IntKind.i64 n,AV.int IntKind.i64 2,AV.str x.val,AV.bool x.has])
           else
            some (AV.agg [AV.cplx FloatKind.f64 v.re v.im,AV.int IntKind.i64 o.kind,AV.str o.key,AV.str [],AV.bool false,AV.bool false,AV.int IntKind.i64 s,AV.int IntKind.i64 n,AV.int IntKind.i64 2,AV.str [],AV.bool x.has])
        else
         bif x.has then
          some (AV.agg [AV.cplx FloatKind.f64 v.re v.im,AV.int IntKind.i64 o.kind,AV.str o.key,AV.str [],AV.bool false,AV.bool false,AV.int IntKind.i64 s,AV.int IntKind.i64 n,AV.int IntKind.i64 2,AV.str x.val,AV.bool x.has])
         else
          some (AV.agg [AV.cplx FloatKind.f64 v.re v.im,AV.int IntKind.i64 o.kind,AV.str o.key,AV.str [],AV.bool false,AV.bool false,AV.int IntKind.i64 s,AV.int IntKind.i64 n,AV.int IntKind.i64 2,AV.str [],AV.bool x.has])
       else
        some (AV.agg [AV.cplx FloatKind.f64 v.re v.im,AV.int IntKind.i64 o.kind,AV.str o.key,AV.str [],AV.bool false,AV.bool false,AV.int IntKind.i64 s,AV.int IntKind.i64 n,AV.int IntKind.i64 0,AV.str [],AV.bool false])
  else
   bif decide (o.kind=4)then
    bif !room then
     some (AV.agg [AV.cplx FloatKind.f64 v.re v.im,AV.int IntKind.i64 o.kind,AV.str o.key,AV.str [],AV.bool false,AV.bool false,AV.int IntKind.i64 s,AV.int IntKind.i64 n,AV.int IntKind.i64 3,AV.str [],AV.bool false])
    else
     bif decide (o.kind=1)then
      bif !x.has then
       some (AV.agg [AV.cplx FloatKind.f64 v.re v.im,AV.int IntKind.i64 o.kind,AV.str o.key,AV.str [],AV.bool false,AV.bool false,AV.int IntKind.i64 s,AV.int IntKind.i64 n,AV.int IntKind.i64 1,AV.str [],AV.bool false])
      else
       some (AV.agg [AV.cplx FloatKind.f64 v.re v.im,AV.int IntKind.i64 o.kind,AV.str o.key,AV.str [],AV.bool false,AV.bool false,AV.int IntKind.i64 s,AV.int IntKind.i64 n,AV.int IntKind.i64 0,AV.str x.val,AV.bool true])
     else
      bif decide (o.kind=2)then
       some (AV.agg [AV.cplx FloatKind.f64 v.re v.im,AV.int IntKind.i64 o.kind,AV.str o.key,AV.str o.val,AV.bool true,AV.bool false,AV.int IntKind.i64 s,AV.int IntKind.i64 n,AV.int IntKind.i64 0,AV.str [],AV.bool false])
      else
       bif decide (o.kind=3)then
        some (AV.agg [AV.cplx FloatKind.f64 v.re v.im,AV.int IntKind.i64 o.kind,AV.str o.key,AV.str [],AV.bool true,AV.bool true,AV.int IntKind.i64 s,AV.int IntKind.i64 n,AV.int IntKind.i64 0,AV.str [],AV.bool false])
       else
        bif decide (o.kind=4)then
         bif bif x.has then o.hasOld else !o.hasOld then
          bif !x.has then
           some (AV.agg [AV.cplx FloatKind.f64 v.re v.im,AV.int IntKind.i64 o.kind,AV.str o.key,AV.str o.val,AV.bool true,AV.bool false,AV.int IntKind.i64 s,AV.int IntKind.i64 n,AV.int IntKind.i64 0,AV.str [],AV.bool false])
          else
           bif Ah x.val o.old then
            some (AV.agg [AV.cplx FloatKind.f64 v.re v.im,AV.int IntKind.i64 o.kind,AV.str o.key,AV.str o.val,AV.bool true,AV.bool false,AV.int IntKind.i64 s,AV.int IntKind.i64 n,AV.int IntKind.i64 0,AV.str [],AV.bool false])
           else
            bif x.has then
             some (AV.agg [AV.cplx FloatKind.f64 v.re v.im,AV.int IntKind.i64 o.kind,AV.str o.key,AV.str [],AV.bool false,AV.bool false,AV.int IntKind.i64 s,AV.int IntKind.i64 n,AV.int IntKind.i64 2,AV.str x.val,AV.bool x.has])
            else
             some (AV.agg [AV.cplx FloatKind.f64 v.re v.im,AV.int IntKind.i64 o.kind,AV.str o.key,AV.str [],AV.bool false,AV.bool false,AV.int IntKind.i64 s,AV.int IntKind.i64 n,AV.int IntKind.i64 2,AV.str [],AV.bool x.has])
         else
          bif x.has then
           some (AV.agg [AV.cplx FloatKind.f64 v.re v.im,AV.int IntKind.i64 o.kind,AV.str o.key,AV.str [],AV.bool false,AV.bool false,AV.int IntKind.i64 s,AV.int IntKind.i64 n,AV.int IntKind.i64 2,AV.str x.val,AV.bool x.has])
          else
           some (AV.agg [AV.cplx FloatKind.f64 v.re v.im,AV.int IntKind.i64 o.kind,AV.str o.key,AV.str [],AV.bool false,AV.bool false,AV.int IntKind.i64 s,AV.int IntKind.i64 n,AV.int IntKind.i64 2,AV.str [],AV.bool x.has])
        else
         some (AV.agg [AV.cplx FloatKind.f64 v.re v.im,AV.int IntKind.i64 o.kind,AV.str o.key,AV.str [],AV.bool false,AV.bool false,AV.int IntKind.i64 s,AV.int IntKind.i64 n,AV.int IntKind.i64 0,AV.str [],AV.bool false])
   else
    bif decide (o.kind=1)then
     bif !x.has then
      some (AV.agg [AV.cplx FloatKind.f64 v.re v.im,AV.int IntKind.i64 o.kind,AV.str o.key,AV.str [],AV.bool false,AV.bool false,AV.int IntKind.i64 s,AV.int IntKind.i64 n,AV.int IntKind.i64 1,AV.str [],AV.bool false])
     else
      some (AV.agg [AV.cplx FloatKind.f64 v.re v.im,AV.int IntKind.i64 o.kind,AV.str o.key,AV.str [],AV.bool false,AV.bool false,AV.int IntKind.i64 s,AV.int IntKind.i64 n,AV.int IntKind.i64 0,AV.str x.val,AV.bool true])
    else
     bif decide (o.kind=2)then
      some (AV.agg [AV.cplx FloatKind.f64 v.re v.im,AV.int IntKind.i64 o.kind,AV.str o.key,AV.str o.val,AV.bool true,AV.bool false,AV.int IntKind.i64 s,AV.int IntKind.i64 n,AV.int IntKind.i64 0,AV.str [],AV.bool false])
     else
      bif decide (o.kind=3)then
       some (AV.agg [AV.cplx FloatKind.f64 v.re v.im,AV.int IntKind.i64 o.kind,AV.str o.key,AV.str [],AV.bool true,AV.bool true,AV.int IntKind.i64 s,AV.int IntKind.i64 n,AV.int IntKind.i64 0,AV.str [],AV.bool false])
      else
       bif decide (o.kind=4)then
        bif bif x.has then o.hasOld else !o.hasOld then
         bif !x.has then
          some (AV.agg [AV.cplx FloatKind.f64 v.re v.im,AV.int IntKind.i64 o.kind,AV.str o.key,AV.str o.val,AV.bool true,AV.bool false,AV.int IntKind.i64 s,AV.int IntKind.i64 n,AV.int IntKind.i64 0,AV.str [],AV.bool false])
         else
          bif Ah x.val o.old then
           some (AV.agg [AV.cplx FloatKind.f64 v.re v.im,AV.int IntKind.i64 o.kind,AV.str o.key,AV.str o.val,AV.bool true,AV.bool false,AV.int IntKind.i64 s,AV.int IntKind.i64 n,AV.int IntKind.i64 0,AV.str [],AV.bool false])
          else
           bif x.has then
            some (AV.agg [AV.cplx FloatKind.f64 v.re v.im,AV.int IntKind.i64 o.kind,AV.str o.key,AV.str [],AV.bool false,AV.bool false,AV.int IntKind.i64 s,AV.int IntKind.i64 n,AV.int IntKind.i64 2,AV.str x.val,AV.bool x.has])
           else
            some (AV.agg [AV.cplx FloatKind.f64 v.re v.im,AV.int IntKind.i64 o.kind,AV.str o.key,AV.str [],AV.bool false,AV.bool false,AV.int IntKind.i64 s,AV.int IntKind.i64 n,AV.int IntKind.i64 2,AV.str [],AV.bool x.has])
        else
         bif x.has then
          some (AV.agg [AV.cplx FloatKind.f64 v.re v.im,AV.int IntKind.i64 o.kind,AV.str o.key,AV.str [],AV.bool false,AV.bool false,AV.int IntKind.i64 s,AV.int IntKind.i64 n,AV.int IntKind.i64 2,AV.str x.val,AV.bool x.has])
         else
          some (AV.agg [AV.cplx FloatKind.f64 v.re v.im,AV.int IntKind.i64 o.kind,AV.str o.key,AV.str [],AV.bool false,AV.bool false,AV.int IntKind.i64 s,AV.int IntKind.i64 n,AV.int IntKind.i64 2,AV.str [],AV.bool x.has])
       else
        some (AV.agg [AV.cplx FloatKind.f64 v.re v.im,AV.int IntKind.i64 o.kind,AV.str o.key,AV.str [],AV.bool false,AV.bool false,AV.int IntKind.i64 s,AV.int IntKind.i64 n,AV.int IntKind.i64 0,AV.str [],AV.bool false]):=by kernel_rfl
theorem SO:∀ k ∈ ([]:List Known),k.Ok PG:=fun k hk=>by cases hk
def sP(x:Entry):Nat:=x.key.length+x.val.length+1
def Um(x:Entry):Prop:=x.key.length<=2000/\x.val.length<=2000
theorem aeH(x:Entry)(h:Um x):Aa PG Ka [.agg (Ai x)] [] (.int .i64 (sP x)) []:=by
 have:=h.1;have:=h.2
 refine BQ SO ((ahB x).trans ?_)
 rw[mA (by omega),show((x.key.length+x.val.length:Nat):Int)+1=((x.key.length+x.val.length+1:Nat):Int) by omega,w64 (by omega)];rfl
def aaz:Known:=.spec Ka (fun a=>Bf (AA a 0)) Um (fun x=>[.agg (Ai x)]) (fun x=>.int .i64 (sP x))
theorem aeI:aaz.Ok PG:=Known.spec_ok aeH
def ahD{R:Type}(x:Entry)(k:Entry->Option R):Option R:=gC (fun a=>Bf (AA a 0)) Um (fun x=>[.agg (Ai x)]) [.agg (Ai x)] k
theorem aeJ{R:Type}{x:Entry}{k:Entry->Option R}(h:Um x):ahD x k=k x:=Aw x rfl h (.refl _)
def SBy(l:List Entry)(s i:Int):St:={fr:=[(3,.int .i64 s),(7,Ae l),(8,.int .i64 l.length),(9,.int .i64 i)],hp:=[]}
def sQ(N m:Nat)(l:List Entry)(s i:Int):Option AV:=LP (eS [aaz]) N 0 GO Bp 0 [] m (SBy l s i)
theorem ajV(N:Nat)(t:Tail):Am (eS [aaz]) (N+1) GO [.agg (AJ t)]=sQ N N t.log 0 0:=by kernel_rfl
theorem acS(N m:Nat)(l:List Entry)(s i:Int):sQ N (m+1) l s i=bif decide (i<(l.length:Int))then rg i l.length (bif(l.getD i.toNat default).write then ahD (l.getD i.toNat default) fun y=>sQ N m l (IntKind.i64.wrap (s+sP y)) (IntKind.i64.wrap (i+1))else sQ N m l s (IntKind.i64.wrap (i+1)))else some (.int .i64 s):=by kernel_rfl
def gS(x:Entry):Nat:=bif x.write then sP x else 0
def DY(l:List Entry):Nat:=(l.map gS).sum
theorem dA{l:List Entry}{i:Nat}(h:i<l.length):DY (l.take (i+1))=DY (l.take i)+gS (l.getD i default):=by
 have:∀ a b:List Entry,DY (a++b)=DY a+DY b:=fun a b=>by simp[DY]
 rw[List.take_add_one,List.getElem?_eq_getElem h,this]
 simp[DY,List.getD,List.getElem?_eq_getElem h]
def Ke(l:List Entry):Prop:=l.length<=100000 /\ ∀ x ∈ l,Um x
theorem sR{l:List Entry}(h:∀ x ∈ l,Um x):DY l<=4001*l.length:=by
 induction l with
 | nil=>simp[DY]
 | cons x r ih=>
  have:=ih fun y hy=>h y (by simp[hy])
  have h1:=h x (by simp)
  have h2:gS x<=4001:=by unfold gS sP;have:=h1.1;have:=h1.2;cases x.write <;> simp <;> omega
  have:DY (x::r)=gS x+DY r:=by simp[DY]
  rw[this,List.length_cons];omega
theorem sS(t:Tail)(h:Ke t.log):Aa PG GO [.agg (AJ t)] [] (.int .i64 (DY t.log)) []:=by
 obtain⟨N,hN⟩:∃ N,N=200000:=⟨_,rfl⟩
 have hl:=h.1
 refine BQ (ak aeI AL) ((ajV N t).trans ?_)
 have:=Ou (n:=t.log.length) (fun i m=>sQ N m t.log (DY (t.log.take i):Nat) (i:Nat)=some (.int .i64 (DY t.log:Nat))) (fun m=>?_) (fun i m hi ih=>?_) 0 N (Nat.zero_le _) (by omega)
 ·simpa [DY] using this
 ·rw[acS,decide_eq_false (by omega),cond_false,List.take_of_length_le (Nat.le_refl _)]
 ·have hb:=sR (l:=t.log.take (i+1)) fun x hx=>h.2 x (List.mem_of_mem_take hx)
  rw[List.length_take]at hb
  have e:=dA hi
  rw[acS,decide_eq_true (by omega),cond_true,Bq hi,Int.toNat_natCast,Bz (by omega)]
  unfold gS at e
  cases hw:(t.log.getD i default).write with
  | true=>
   rw[hw,cond_true]at e
   rw[cond_true,aeJ (h.2 _ (getD_mem hi)),mA (by omega),<- e]
   exact ih
  | false=>
   rw[hw,cond_false,Nat.add_zero]at e
   rw[cond_false]
   rw[e]at ih
   exact ih
def sU:Known:=.spec GO (fun a=>El (AA a 0)) (fun t=>Ke t.log) (fun t=>[.agg (AJ t)]) (fun t=>.int .i64 (DY t.log))
theorem sV:sU.Ok PG:=Known.spec_ok sS
def Sd(b:Bool)(n h l:Int):Bool:=bif decide (h<=n)then true else bif decide (n<=l)then false else b
abbrev BM:=Bool × Int × Int × Int
def eBM(p:BM):List AV:=[.bool p.1,.int .i64 p.2.1,.int .i64 p.2.2.1,.int .i64 p.2.2.2]
theorem aaA(p:BM)(_:True):Aa PG Jh (eBM p) [] (.bool (Sd p.1 p.2.1 p.2.2.1 p.2.2.2)) []:=BQ SO ((aeG p.1 p.2.1 p.2.2.1 p.2.2.2).trans (by
 unfold Sd
 cases decide (p.2.2.1<=p.2.1) <;> cases decide (p.2.1<=p.2.2.2) <;> rfl))
def acT:Known:=.spec Jh (fun a=>(Ih a 0,Ar a 1,Ar a 2,Ar a 3)) (fun _=>True) eBM (fun p=>.bool (Sd p.1 p.2.1 p.2.2.1 p.2.2.2))
theorem aaB:acT.Ok PG:=Known.spec_ok aaA
def MS(k:Int):Bool:=decide (k=1)||decide (k=4)
def GU(k:Int):Bool:=decide (k=2)||(decide (k=3)||decide (k=4))
theorem sW(k:Int)(_:True):Aa PG Io [.int .i64 k] [] (.bool (MS k)) []:=BQ SO ((aax k).trans (by unfold MS;cases decide (k=1) <;> rfl))
theorem mC(k:Int)(_:True):Aa PG Hr [.int .i64 k] [] (.bool (GU k)) []:=BQ SO ((sO k).trans (by unfold GU;cases decide (k=2) <;> cases decide (k=3) <;> rfl))
def ZD:Known:=.spec Io (fun a=>Ar a 0) (fun _=>True) (fun k=>[.int .i64 k]) (fun k=>.bool (MS k))
def Vu:Known:=.spec Hr (fun a=>Ar a 0) (fun _=>True) (fun k=>[.int .i64 k]) (fun k=>.bool (GU k))
theorem WW:ZD.Ok PG:=Known.spec_ok sW
theorem Un:Vu.Ok PG:=Known.spec_ok mC
def Dp(o:Md.Op)(c:Conf):Int:=
 bif decide (o.kind<1)||decide (5<o.kind)then 8
 else bif !decide (o.kind=5)&&Ah o.key []then 8
 else bif decide (c.maxKey<(o.key.length:Int))||(decide (c.maxVal<(o.val.length:Int))||decide (c.maxVal<(o.old.length:Int)))then 4 else 0
abbrev OC:=Md.Op × Conf
def gU(p:OC):List AV:=[.agg (JZ p.1),.agg (CG p.2)]
theorem sY(p:OC)(_:True):Aa PG Il (gU p) [] (.int .i64 (Dp p.1 p.2)) []:=BQ SO ((aay p.1 p.2).trans (by
 unfold Dp
 cases decide (p.1.kind<1) <;> cases decide (5<p.1.kind) <;> cases decide (p.1.kind=5) <;> cases Ah p.1.key [] <;> cases decide (p.2.maxKey<(p.1.key.length:Int)) <;> cases decide (p.2.maxVal<(p.1.val.length:Int)) <;> cases decide (p.2.maxVal<(p.1.old.length:Int)) <;> rfl))
def ZE:Known:=.spec Il (fun a=>(R0 (AA a 0),JK (AA a 1))) (fun _=>True) gU (fun p=>.int .i64 (Dp p.1 p.2))
theorem WX:ZE.Ok PG:=Known.spec_ok sY
def E2(o:Md.Op)(v:Ver)(s n:Int)(x:Itm)(room:Bool):Entry:=
 let e:Entry:=⟨v,o.kind,o.key,[],false,false,s,n,0,[],false⟩
 bif GU o.kind && !room then {e with code:=3}
 else bif decide (o.kind=1)then bif !x.has then {e with code:=1}else {e with res:=x.val,hasRes:=true}
 else bif decide (o.kind=2)then {e with write:=true,val:=o.val}
 else bif decide (o.kind=3)then {e with write:=true,del:=true}
 else bif decide (o.kind=4)then
  bif(bif x.has then o.hasOld else !o.hasOld)&&(!x.has||Ah x.val o.old)then {e with write:=true,val:=o.val}
  else {e with code:=2,hasRes:=x.has,res:=bif x.has then x.val else []}
 else e
structure RsA where
 o:Md.Op
 v:Ver
 s:Int
 n:Int
 x:Itm
 room:Bool
def eRs(p:RsA):List AV:=[.agg (JZ p.o),.cplx .f64 p.v.re p.v.im,.int .i64 p.s,.int .i64 p.n,.agg (Af p.x),.bool p.room]
def dRs(a:List AV):RsA:=⟨R0 (AA a 0),⟨(BE a 1).1,(BE a 1).2⟩,Ar a 2,Ar a 3,Bd (AA a 4),Ih a 5⟩
theorem aeK(p:RsA)(_:True):Aa PG IJ (eRs p) [] (.agg (Ai (E2 p.o p.v p.s p.n p.x p.room))) []:=BQ SO ((ahC p.o p.v p.s p.n p.x p.room).trans (by
 unfold E2 GU
 by_cases h1:p.o.kind=1
 ·simp only[h1]
  cases p.x.has <;> rfl
 ·by_cases h2:p.o.kind=2
  ·simp only[h2]
   cases p.room <;> rfl
  ·by_cases h3:p.o.kind=3
   ·simp only[h3]
    cases p.room <;> rfl
   ·by_cases h4:p.o.kind=4
    ·simp only[h4]
     cases p.room <;> cases p.x.has <;> cases p.o.hasOld <;> cases Ah p.x.val p.o.old <;> rfl
    ·rw[decide_eq_false h1,decide_eq_false h2,decide_eq_false h3,decide_eq_false h4]
     rfl))
def ZF:Known:=.spec IJ dRs (fun _=>True) eRs (fun p=>.agg (Ai (E2 p.o p.v p.s p.n p.x p.room)))
theorem dC:ZF.Ok PG:=Known.spec_ok aeK
def gV(l:List Known):Env:=BU [] [(Ea,0),(Fm,0),(Dq,0),(Gz,0),(MP,0),(GD,0),(T2,0)] [] l
theorem ahE(a:Int)(b:Int):Am (gV []) 9 GD [AV.int IntKind.i64 a,AV.int IntKind.i64 b] =
 bif !decide (a=a)then
  bif !decide (b=b)then
   some (AV.int IntKind.i64 0)
  else
   some (AV.int IntKind.i64 (-1))
 else
  bif !decide (b=b)then
   some (AV.int IntKind.i64 1)
  else
   bif decide (a<b)then
    some (AV.int IntKind.i64 (-1))
   else
    bif decide (b<a)then
     some (AV.int IntKind.i64 1)
    else
     some (AV.int IntKind.i64 0):=by kernel_rfl
def Dw(a b:Int):Int:=bif decide (a<b)then -1 else bif decide (b<a)then 1 else 0
def Lt(p:Int × Int):List AV:=[.int .i64 p.1,.int .i64 p.2]
theorem aeL(p:Int × Int)(_:True):Aa PG GD (Lt p) [] (.int .i64 (Dw p.1 p.2)) []:=BQ SO ((ahE p.1 p.2).trans (by
 unfold Dw
 rw[decide_eq_true (rfl:p.1=p.1),decide_eq_true (rfl:p.2=p.2)]
 cases decide (p.1<p.2) <;> cases decide (p.2<p.1) <;> rfl))
def Pu:Known:=.spec GD (fun a=>(Ar a 0,Ar a 1)) (fun _=>True) Lt (fun p=>.int .i64 (Dw p.1 p.2))
theorem JL:Pu.Ok PG:=Known.spec_ok aeL
theorem fd0(F:Nat->Seen)(s:Int):Am (gV [Pu]) 30 Ea [AV.tr 7 0 fun i=>As (F i),AV.int IntKind.i64 s] =
 some (AV.tup [AV.agg [AV.int IntKind.i64 0,AV.int IntKind.i64 0,AV.cplx FloatKind.f64 0 0,AV.int IntKind.i64 0,AV.int IntKind.i64 0,AV.str [],AV.bool false],AV.bool false]):=by kernel_rfl
theorem fd1(F:Nat->Seen)(s:Int):Am (gV [Pu]) 30 Ea [AV.tr 7 1 fun i=>As (F i),AV.int IntKind.i64 s] =
 gC (fun a=>(Ar a 0,Ar a 1)) (fun x=>True) (Lt) ([AV.int IntKind.i64 (F 0).sess,AV.int IntKind.i64 s]) fun y0=>
 bif decide (Dw y0.fst y0.snd<0)then
  some (AV.tup [AV.agg [AV.int IntKind.i64 0,AV.int IntKind.i64 0,AV.cplx FloatKind.f64 0 0,AV.int IntKind.i64 0,AV.int IntKind.i64 0,AV.str [],AV.bool false],AV.bool false])
 else
  gC (fun a=>(Ar a 0,Ar a 1)) (fun x=>True) (Lt) ([AV.int IntKind.i64 (F 0).sess,AV.int IntKind.i64 s]) fun y1=>
  bif !decide (Dw y1.fst y1.snd=0)then
   some (AV.tup [AV.agg [AV.int IntKind.i64 0,AV.int IntKind.i64 0,AV.cplx FloatKind.f64 0 0,AV.int IntKind.i64 0,AV.int IntKind.i64 0,AV.str [],AV.bool false],AV.bool false])
  else
   some (AV.tup [AV.agg (As (F 0)),AV.bool true]):=by kernel_rfl
theorem fd2(F:Nat->Seen)(s:Int):Am (gV [Pu]) 30 Ea [AV.tr 7 2 fun i=>As (F i),AV.int IntKind.i64 s] =
 gC (fun a=>(Ar a 0,Ar a 1)) (fun x=>True) (Lt) ([AV.int IntKind.i64 (F 1).sess,AV.int IntKind.i64 s]) fun y2=>
 bif decide (Dw y2.fst y2.snd<0)then
  some (AV.tup [AV.agg [AV.int IntKind.i64 0,AV.int IntKind.i64 0,AV.cplx FloatKind.f64 0 0,AV.int IntKind.i64 0,AV.int IntKind.i64 0,AV.str [],AV.bool false],AV.bool false])
 else
  gC (fun a=>(Ar a 0,Ar a 1)) (fun x=>True) (Lt) ([AV.int IntKind.i64 (F 0).sess,AV.int IntKind.i64 s]) fun y3=>
  bif decide (Dw y3.fst y3.snd<0)then
   gC (fun a=>(Ar a 0,Ar a 1)) (fun x=>True) (Lt) ([AV.int IntKind.i64 (F 1).sess,AV.int IntKind.i64 s]) fun y4=>
   bif !decide (Dw y4.fst y4.snd=0)then
    some (AV.tup [AV.agg [AV.int IntKind.i64 0,AV.int IntKind.i64 0,AV.cplx FloatKind.f64 0 0,AV.int IntKind.i64 0,AV.int IntKind.i64 0,AV.str [],AV.bool false],AV.bool false])
   else
    some (AV.tup [AV.agg (As (F 1)),AV.bool true])
  else
   gC (fun a=>(Ar a 0,Ar a 1)) (fun x=>True) (Lt) ([AV.int IntKind.i64 (F 0).sess,AV.int IntKind.i64 s]) fun y5=>
   bif !decide (Dw y5.fst y5.snd=0)then
    some (AV.tup [AV.agg [AV.int IntKind.i64 0,AV.int IntKind.i64 0,AV.cplx FloatKind.f64 0 0,AV.int IntKind.i64 0,AV.int IntKind.i64 0,AV.str [],AV.bool false],AV.bool false])
   else
    some (AV.tup [AV.agg (As (F 0)),AV.bool true]):=by kernel_rfl
theorem fd3(F:Nat->Seen)(s:Int):Am (gV [Pu]) 30 Ea [AV.tr 7 3 fun i=>As (F i),AV.int IntKind.i64 s] =
 gC (fun a=>(Ar a 0,Ar a 1)) (fun x=>True) (Lt) ([AV.int IntKind.i64 (F 1).sess,AV.int IntKind.i64 s]) fun y6=>
 bif decide (Dw y6.fst y6.snd<0)then
  gC (fun a=>(Ar a 0,Ar a 1)) (fun x=>True) (Lt) ([AV.int IntKind.i64 (F 2).sess,AV.int IntKind.i64 s]) fun y7=>
  bif decide (Dw y7.fst y7.snd<0)then
   some (AV.tup [AV.agg [AV.int IntKind.i64 0,AV.int IntKind.i64 0,AV.cplx FloatKind.f64 0 0,AV.int IntKind.i64 0,AV.int IntKind.i64 0,AV.str [],AV.bool false],AV.bool false])
  else
   gC (fun a=>(Ar a 0,Ar a 1)) (fun x=>True) (Lt) ([AV.int IntKind.i64 (F 2).sess,AV.int IntKind.i64 s]) fun y8=>
   bif !decide (Dw y8.fst y8.snd=0)then
    some (AV.tup [AV.agg [AV.int IntKind.i64 0,AV.int IntKind.i64 0,AV.cplx FloatKind.f64 0 0,AV.int IntKind.i64 0,AV.int IntKind.i64 0,AV.str [],AV.bool false],AV.bool false])
   else
    some (AV.tup [AV.agg (As (F 2)),AV.bool true])
 else
  gC (fun a=>(Ar a 0,Ar a 1)) (fun x=>True) (Lt) ([AV.int IntKind.i64 (F 0).sess,AV.int IntKind.i64 s]) fun y9=>
  bif decide (Dw y9.fst y9.snd<0)then
   gC (fun a=>(Ar a 0,Ar a 1)) (fun x=>True) (Lt) ([AV.int IntKind.i64 (F 1).sess,AV.int IntKind.i64 s]) fun y10=>
   bif !decide (Dw y10.fst y10.snd=0)then
    some (AV.tup [AV.agg [AV.int IntKind.i64 0,AV.int IntKind.i64 0,AV.cplx FloatKind.f64 0 0,AV.int IntKind.i64 0,AV.int IntKind.i64 0,AV.str [],AV.bool false],AV.bool false])
   else
    some (AV.tup [AV.agg (As (F 1)),AV.bool true])
  else
   gC (fun a=>(Ar a 0,Ar a 1)) (fun x=>True) (Lt) ([AV.int IntKind.i64 (F 0).sess,AV.int IntKind.i64 s]) fun y11=>
   bif !decide (Dw y11.fst y11.snd=0)then
    some (AV.tup [AV.agg [AV.int IntKind.i64 0,AV.int IntKind.i64 0,AV.cplx FloatKind.f64 0 0,AV.int IntKind.i64 0,AV.int IntKind.i64 0,AV.str [],AV.bool false],AV.bool false])
   else
    some (AV.tup [AV.agg (As (F 0)),AV.bool true]):=by kernel_rfl
theorem ZG{R:Type}{a b:Int}{k:Int × Int->Option R}:gC (fun a=>(Ar a 0,Ar a 1)) (fun _=>True) Lt [.int .i64 a,.int .i64 b] k=k (a,b):=Aw (a,b) rfl trivial (.refl _)
theorem MT(a b:Int):decide (Dw a b<0)=decide (a<b):=by
 unfold Dw
 by_cases h:a<b
 ·simp[h]
 ·by_cases h2:b<a <;> simp[h,h2]
theorem Sf(a b:Int):decide (Dw a b=0)=decide (a=b):=by
 unfold Dw
 by_cases h:a<b
 ·have:a ≠ b:=by omega
  simp[h,this]
 ·by_cases h2:b<a
  ·have:a ≠ b:=by omega
   simp[h,h2,this]
  ·have:a=b:=by omega
   simp[this]
def FM(l:List Seen):Prop:=l.length<=3/\l.Pairwise fun a b=>a.sess<b.sess
def Bt(l:List Seen)(s:Int):Seen × Bool:=match l.find? fun x=>decide (x.sess=s)with
 | some x=>(x,true)
 | none=>(default,false)
abbrev SI:=List Seen × Int
def Ny(p:SI):List AV:=[Ax p.1,.int .i64 p.2]
def Uo(a:List AV):SI:=(AN BZ (a.getD 0 .nils),Ar a 1)
def WY(p:SI):AV:=.tup [.agg (As (Bt p.1 p.2).1),.bool (Bt p.1 p.2).2]
theorem aaC(p:SI)(h:FM p.1):Aa PG Ea (Ny p) [] (WY p) []:=by
 obtain⟨l,s⟩:=p
 obtain⟨h1,h2⟩:=h
 match l,h1,h2 with
 | [],_,_=>exact BQ (ak JL AL) (fd0 (fun i=>([]:List Seen).getD i default) s)
 | [a],_,_=>
  refine BQ (ak JL AL) ((fd1 (fun i=>[a].getD i default) s).trans ?_)
  simp only[ZG,MT,Sf]
  show(bif decide (a.sess<s)then _ else bif !decide (a.sess=s)then _ else some (AV.tup [.agg (As a),.bool true]))=some (WY ([a],s))
  unfold WY Bt
  by_cases ha:a.sess=s
  ·have:¬ a.sess<s:=by omega
   simp only[List.find?,ha,decide_true,Bool.not_true,cond_false,show decide (s<s)=false by simp]
  ·by_cases hb:a.sess<s <;> simp only[List.find?,ha,hb,decide_true,decide_false,Bool.not_false,cond_true,cond_false] <;> rfl
 | [a,b],_,h2=>
  have hab:a.sess<b.sess:=by simp at h2;exact h2
  refine BQ (ak JL AL) ((fd2 (fun i=>[a,b].getD i default) s).trans ?_)
  simp only[ZG,MT,Sf]
  show(bif decide (b.sess<s)then _ else bif decide (a.sess<s)then bif !decide (b.sess=s)then _ else some (AV.tup [.agg (As b),.bool true])else bif !decide (a.sess=s)then _ else some (AV.tup [.agg (As a),.bool true]))=some (WY ([a,b],s))
  unfold WY Bt
  by_cases ha:a.sess=s
  ·have e1:¬ b.sess<s:=by omega
   have e2:¬ a.sess<s:=by omega
   simp only[List.find?,ha,decide_true,Bool.not_true,cond_false,decide_eq_false e1,show decide (s<s)=false by simp]
  ·by_cases hb:b.sess=s
   ·have e2:a.sess<s:=by omega
    simp only[List.find?,ha,hb,e2,decide_true,decide_false,Bool.not_true,cond_true,cond_false,show decide (s<s)=false by simp]
   ·by_cases h3:b.sess<s <;> by_cases h4:a.sess<s <;> simp only[List.find?,ha,hb,h3,h4,decide_true,decide_false,Bool.not_false,cond_true,cond_false] <;> rfl
 | [a,b,c],_,h2=>
  have hab:a.sess<b.sess/\a.sess<c.sess/\b.sess<c.sess:=by simp at h2;exact⟨h2.1.1,h2.1.2,h2.2⟩
  refine BQ (ak JL AL) ((fd3 (fun i=>[a,b,c].getD i default) s).trans ?_)
  simp only[ZG,MT,Sf]
  show(bif decide (b.sess<s)then bif decide (c.sess<s)then _ else bif !decide (c.sess=s)then _ else some (AV.tup [.agg (As c),.bool true])else bif decide (a.sess<s)then bif !decide (b.sess=s)then _ else some (AV.tup [.agg (As b),.bool true])else bif !decide (a.sess=s)then _ else some (AV.tup [.agg (As a),.bool true]))=some (WY ([a,b,c],s))
  unfold WY Bt
  by_cases ha:a.sess=s
  ·have e1:¬ b.sess<s:=by omega
   have e2:¬ a.sess<s:=by omega
   simp only[List.find?,ha,decide_true,Bool.not_true,cond_false,decide_eq_false e1,show decide (s<s)=false by simp]
  ·by_cases hb:b.sess=s
   ·have e2:a.sess<s:=by omega
    simp only[List.find?,ha,hb,e2,decide_true,decide_false,Bool.not_true,cond_true,cond_false,show decide (s<s)=false by simp]
   ·by_cases hc:c.sess=s
    ·have e2:a.sess<s:=by omega
     have e3:b.sess<s:=by omega
     simp only[List.find?,ha,hb,hc,e2,e3,decide_true,decide_false,Bool.not_true,cond_true,cond_false,show decide (s<s)=false by simp]
    ·by_cases h3:b.sess<s <;> by_cases h4:a.sess<s <;> by_cases h5:c.sess<s <;> simp only[List.find?,ha,hb,hc,h3,h4,h5,decide_true,decide_false,Bool.not_false,cond_true,cond_false] <;> rfl
def Up:Known:=.spec Ea Uo (fun p=>FM p.1) Ny WY
theorem Pw:Up.Ok PG:=Known.spec_ok aaC
theorem Uq{R:Type}{l:List Seen}{s:Int}{k:SI->Option R}(h:FM l):gC Uo (fun p=>FM p.1) Ny [Ax l,.int .i64 s] k=k (l,s):=Aw (l,s) (Prod.ext (EB l) rfl) h (.refl _)
theorem ajW(l:List Seen)(s:Int)(n:Int):Am (gV [Up]) 9 Fm [Ax l,AV.int IntKind.i64 s,AV.int IntKind.i64 n] =
 gC (Uo) (fun p=>FM p.fst) (Ny) ([Ax l,AV.int IntKind.i64 s]) fun y12=>
 bif !(Bt y12.fst y12.snd).snd then
  some (AV.int IntKind.i64 0)
 else
  bif decide ((Bt y12.fst y12.snd).fst.num<n)then
   some (AV.int IntKind.i64 0)
  else
   bif decide (n=(Bt y12.fst y12.snd).fst.num)then
    some (AV.int IntKind.i64 1)
   else
    some (AV.int IntKind.i64 2):=by kernel_rfl
def Kf(l:List Seen)(s n:Int):Int:=bif !(Bt l s).2 then 0 else bif decide ((Bt l s).1.num<n)then 0 else bif decide (n=(Bt l s).1.num)then 1 else 2
abbrev SII:=List Seen × Int × Int
def Vv(p:SII):List AV:=[Ax p.1,.int .i64 p.2.1,.int .i64 p.2.2]
theorem aaD(p:SII)(h:FM p.1):Aa PG Fm (Vv p) [] (.int .i64 (Kf p.1 p.2.1 p.2.2)) []:=by
 refine BQ (ak Pw AL) ((ajW p.1 p.2.1 p.2.2).trans ?_)
 rw[Uq h]
 unfold Kf
 cases (Bt p.1 p.2.1).2 <;> cases decide ((Bt p.1 p.2.1).1.num<p.2.2) <;> cases decide (p.2.2=(Bt p.1 p.2.1).1.num) <;> rfl
def mD:Known:=.spec Fm (fun a=>(AN BZ (a.getD 0 .nils),Ar a 1,Ar a 2)) (fun p=>FM p.1) Vv (fun p=>.int .i64 (Kf p.1 p.2.1 p.2.2))
theorem ZH:mD.Ok PG:=Known.spec_ok aaD
def eE(l:List Known):Env:=BU [(Eb,0,[3,7,8,9,1000])] [(Eb,1),(GN,5),(HF,0),(EJ,0)] [] l
abbrev MV:=List Txt × (Txt->Ver)
def Gy(ks:List Txt)(s:Txt):List Txt:=bif BH s ks then ks else ks++[s]
def Dx{Y:Type}(V:Txt->Y)(s:Txt)(v:Y):Txt->Y:=fun x=>bif Ah x s then v else V x
theorem Tg{Y:Type}(e:Y->AV)(V:Txt->Y)(s:Txt)(v:Y):(fun x=>bif Ah x s then e v else e (V x))=fun x=>e (Dx V s v x):=by
 funext x
 unfold Dx
 cases Ah x s <;> rfl
def SEn(l:List Itm)(ks:List Txt)(val:Txt->AV)(i:Int):St:={fr:=[(3,.mp 0),(7,Al l),(8,.int .i64 l.length),(9,.int .i64 i),(1000,.undef)],hp:=[.pmap true ks val]}
theorem ajX(N:Nat)(l:List Itm):BA 0 (eE []) (N+1) Eb [Al l] [] =
 LP (eE []) (N) (0) (Eb) (Cr (0) (0)) 0 [] (N) ({fr:=[(3,AV.mp 0),(7,AV.tr 4 l.length fun i=>Af (l.getD i default)),(8,AV.int IntKind.i64 (↑l.length:Int)),(9,AV.int IntKind.i64 0),(1000,AV.undef)],hp:=[BS.pmap true [] fun x=>AV.int IntKind.i64 0]}):=by kernel_rfl
theorem acU(N:Nat)(m:Nat)(l:List Itm)(ks:List Txt)(val:Txt->AV)(i:Int):LP (eE []) N 0 Eb (Cr 0 0) 0 [] (m+1) (SEn l ks val i) =
 bif decide (i<(↑l.length:Int))then
  bif decide (0<=i)&&decide (i<(↑l.length:Int))then
   LP (eE []) (N) (0) (Eb) (Cr 0 0) 0 ([]) (m) ({fr:=[(3,AV.mp 0),(7,AV.tr 4 l.length fun i=>Af (l.getD i default)),(8,AV.int IntKind.i64 (↑l.length:Int)),(9,AV.int IntKind.i64 (IntKind.i64.wrap (i+1))),(1000,AV.undef)],hp:=[BS.pmap true (bif BH (l.getD i.toNat default).key ks then ks else ks++[(l.getD i.toNat default).key]) fun x=>bif Ah x (l.getD i.toNat default).key then AV.cplx FloatKind.f64 (l.getD i.toNat default).ver.re (l.getD i.toNat default).ver.im else val x]})
  else none
 else
  some ((AV.mp 0,[BS.pmap true ks val])):=by kernel_rfl
theorem ajY(e:Entry)(ks:List Txt)(V:Txt->Ver):BA 1 (eE [Fz]) 9 GN [AV.agg (Ai e),AV.mp 0] [BS.pmap true ks fun k=>eV (V k)] =
 bif !e.write then
  some ((AV.bool true,[BS.pmap true ks fun k=>AV.cplx FloatKind.f64 (V k).re (V k).im]))
 else
  bif BH e.key ks then
   gC (DA) (V2) (Dz) ([AV.cplx FloatKind.f64 (V e.key).re (V e.key).im,AV.cplx FloatKind.f64 e.ver.re e.ver.im]) fun y0=>
   some ((AV.bool !AH y0.fst y0.snd,[BS.pmap true ks fun k=>AV.cplx FloatKind.f64 (V k).re (V k).im]))
  else
   some ((AV.bool false,[BS.pmap true ks fun k=>AV.cplx FloatKind.f64 (V k).re (V k).im])):=by kernel_rfl
theorem Dy(s:Txt):∀ ks:List Txt,BH s ks=true ↔ s ∈ ks
 | []=>by simp[BH]
 | a::r=>by
  unfold BH
  rw[A7]
  cases h:s == a with
  | true=>simp at h;simp[h]
  | false=>simp at h;rw[cond_false,Dy s r];simp[h]
def ZI(M:MV)(x:Itm):MV:=(Gy M.1 x.key,Dx M.2 x.key x.ver)
def Cb(l:List Itm):MV:=l.foldl ZI ([],fun _=>default)
theorem mE{l:List Itm}{i:Nat}(h:i<l.length):Cb (l.take (i+1))=ZI (Cb (l.take i)) (l.getD i default):=by
 unfold Cb
 rw[List.take_add_one,List.foldl_append,List.getElem?_eq_getElem h]
 simp[List.getD,List.getElem?_eq_getElem h]
theorem MU{ks:List Txt}{s x:Txt}:x ∈ Gy ks s ↔ x=s\/x ∈ ks:=by
 unfold Gy
 cases h:BH s ks with
 | true=>
  have:=(Dy s ks).1 h
  rw[cond_true]
  exact⟨.inr,fun h=>h.elim (fun e=>e ▸ this) id⟩
 | false=>rw[cond_false];simp[or_comm]
def hMV(M:MV):Heap:=[.pmap true M.1 fun k=>eV (M.2 k)]
theorem aaE(l:List Itm)(h:l.length<=100000):Aa PG Eb [Al l] [] (.mp 0) (hMV (Cb l)):=by
 obtain⟨N,hN⟩:∃ N,N=200000:=⟨_,rfl⟩
 have run:∀ d i m (val:Txt->AV),i+d=l.length->d<m->(∀ k ∈ (Cb (l.take i)).1,val k=eV ((Cb (l.take i)).2 k)) -> ∃ val',LP (eE []) N 0 Eb (Cr 0 0) 0 [] m (SEn l (Cb (l.take i)).1 val (i:Nat))=some (.mp 0,[.pmap true (Cb l).1 val']) /\ ∀ k ∈ (Cb l).1,val' k=eV ((Cb l).2 k):=by
  intro d
  induction d with
  | zero=>
   intro i m val hi hm hv
   obtain⟨m,rfl⟩:∃ k,m=k+1:=⟨m - 1,by omega⟩
   rw[List.take_of_length_le (by omega)]at hv ⊢
   refine⟨val,?_,hv⟩
   rw[acU,decide_eq_false (by omega),cond_false]
  | succ d ih=>
   intro i m val hi hm hv
   obtain⟨m,rfl⟩:∃ k,m=k+1:=⟨m - 1,by omega⟩
   have hil:i<l.length:=by omega
   have ht:=mE hil
   obtain⟨val',h1,h2⟩:=ih (i+1) m (fun x=>bif Ah x (l.getD i default).key then eV (l.getD i default).ver else val x) (by omega) (by omega) (fun k hk=>by
    rw[ht]at hk ⊢
    show _=eV (Dx (Cb (l.take i)).2 (l.getD i default).key (l.getD i default).ver k)
    unfold Dx
    cases hb:Ah k (l.getD i default).key with
    | true=>rfl
    | false=>
     rw[cond_false,cond_false]
     refine hv k ?_
     rcases MU.1 hk with e | e
     ·rw[e,Ji]at hb;cases hb
     ·exact e)
   refine⟨val',?_,h2⟩
   rw[acU,decide_eq_true (by omega),cond_true,decide_eq_true (by omega),Bool.and_true,cond_true,Int.toNat_natCast,Bz (by omega)]
   rw[ht]at h1
   exact h1
 obtain⟨val',h1,h2⟩:=run l.length 0 N (fun _=>.int .i64 0) (by omega) (by omega) (fun k hk=>by simp[Cb]at hk)
 have c:=Zm SO ((ajX N l).trans h1)
 exact c.resub (.refl _) (.cons (.pmap true _ _ _ fun s hs=>by rw[h2 s hs];exact .refl _) .nil)
def XR:Known:=.specB Eb (fun a=>AN Bd (a.getD 0 .nils)) (fun l=>l.length<=100000) (fun l=>[Al l]) (fun l=>(.mp 0,hMV (Cb l)))
theorem ZJ:XR.Ok PG:=Known.specB_ok aaE
theorem ajZ{R:Type}{l:List Itm}{k:List Itm->Option R}(h:l.length<=100000):gC (fun a=>AN Bd (a.getD 0 .nils)) (fun(l:List Itm)=>l.length<=100000) (fun l=>[Al l]) [Al l] k=k l:=Aw l (E1 l) h (.refl _)
def EE(e:Entry)(M:MV):Bool:=!e.write||(BH e.key M.1 && !AH (M.2 e.key) e.ver)
abbrev EM:=Entry × MV
def QU(p:EM):List AV × Heap:=([.agg (Ai p.1),.mp 0],hMV p.2)
def dMV(b:BS):MV:=match b with
 | .pmap _ ks val=>(ks,fun k=>match val k with
  | .cplx _ a b=>⟨a,b⟩
  | _=>default)
 | _=>([],fun _=>default)
def dEM(a:List AV)(h:Heap):EM:=(Bf (AA a 0),dMV (Ab h 0))
def sZ(p:EM):Prop:=Au p.1.ver /\ ∀ k ∈ p.2.1,Au (p.2.2 k)
theorem dD(p:EM)(h:sZ p):Aa PG GN (QU p).1 (QU p).2 (.bool (EE p.1 p.2)) (QU p).2/\(QU p).2.length<=(QU p).2.length:=by
 refine conC (ak DW AL) (c:=1) (n:=9) (Nat.le_refl 1) ((ajY p.1 p.2.1 p.2.2).trans ?_)
 unfold EE
 cases hw:p.1.write with
 | false=>rfl
 | true=>
  cases hm:BH p.1.key p.2.1 with
  | false=>rfl
  | true=>
   simp only[Bool.not_true,cond_false,cond_true,Bool.false_or,Bool.true_and]
   rw[Jj (h.2 _ ((Dy _ _).1 hm)) h.1]
   rfl
def Px:Known:=.specG GN dEM sZ QU (fun p=>(.bool (EE p.1 p.2),(QU p).2))
theorem SP:Px.Ok PG:=Known.specG_ok dD
def ZK{R:Type}(p:EM)(k:EM->Option R):Option R:=BF dEM sZ QU (QU p).1 (QU p).2 k
theorem SQ{R:Type}{p:EM}{k:EM->Option R}(h:sZ p):ZK p k=k p:=BT p rfl h (.refl _) (.refl _)
def SRi(l:List Entry)(M:MV)(upto floor:Ver)(i:Int):St:={fr:=[(1,eV upto),(7,.mp 0),(8,eV floor),(16,Ae l),(17,.int .i64 l.length),(18,.int .i64 i)],hp:=hMV M}
def LRi(N m:Nat)(l:List Entry)(M:MV)(upto floor:Ver)(i:Int):Option AV:=LP (eE [Fz,XR,Px]) N 0 HF Bp 0 [] m (SRi l M upto floor i)
theorem aj0(N:Nat)(t:Tail)(upto:Ver)(done:List Itm):Am (eE [Fz,XR,Px]) (N+1) HF [.agg (AJ t),eV upto,Al done] =
 gC (fun a=>AN Bd (a.getD 0 .nils)) (fun(l:List Itm)=>l.length<=100000) (fun l=>[Al l]) [Al done] fun y=>LRi N N t.log (Cb y) upto t.floor 0:=by kernel_rfl
theorem acV(N m:Nat)(l:List Entry)(M:MV)(upto floor:Ver)(i:Int):LRi N (m+1) l M upto floor i =
 bif decide (i<(l.length:Int))then rg i l.length (ZK (l.getD i.toNat default,M) fun q=>bif !EE q.1 q.2 then some (eV floor)else gC DA V2 Dz [eV upto,eV (l.getD i.toNat default).ver] fun y=>bif AH y.1 y.2 then some (eV floor)else LRi N m l M upto (l.getD i.toNat default).ver (IntKind.i64.wrap (i+1)))else some (eV floor):=by kernel_rfl
def MW(M:MV)(upto:Ver):Ver->List Entry->Ver
 | floor,[]=>floor
 | floor,e::r=>bif !EE e M||AH upto e.ver then floor else MW M upto e.ver r
structure RiA where
 t:Tail
 upto:Ver
 done:List Itm
def Py(p:RiA):Ver:=MW (Cb p.done) p.upto p.t.floor p.t.log
def eRi(p:RiA):List AV:=[.agg (AJ p.t),eV p.upto,Al p.done]
def dRi(a:List AV):RiA:=⟨El (AA a 0),⟨(BE a 1).1,(BE a 1).2⟩,AN Bd (a.getD 2 .nils)⟩
def tA(p:RiA):Prop:=p.t.log.length<=100000/\p.done.length<=100000/\Au p.upto/\(∀ e ∈ p.t.log,Au e.ver) /\ ∀ x ∈ p.done,Au x.ver
theorem ZL{l:List Itm}(h:∀ x ∈ l,Au x.ver):∀ k ∈ (Cb l).1,Au ((Cb l).2 k):=by
 have:∀ (l:List Itm) (M:MV),(∀ x ∈ l,Au x.ver)->(∀ k ∈ M.1,Au (M.2 k)) -> ∀ k ∈ (l.foldl ZI M).1,Au ((l.foldl ZI M).2 k):=by
  intro l
  induction l with
  | nil=>intro M _ h;exact h
  | cons x r ih=>
   intro M hl hM
   refine ih _ (fun y hy=>hl y (by simp[hy])) fun k hk=>?_
   show Au (Dx M.2 x.key x.ver k)
   unfold Dx
   cases hb:Ah k x.key with
   | true=>exact hl x (by simp)
   | false=>
    rcases MU.1 hk with e | e
    ·rw[e,Ji]at hb;cases hb
    ·exact hM k e
 exact this l _ h (fun k hk=>by simp at hk)
theorem aaF(p:RiA)(h:tA p):Aa PG HF (eRi p) [] (eV (Py p)) []:=by
 obtain⟨h1,h2,h3,h4,h5⟩:=h
 obtain⟨N,hN⟩:∃ N,N=200000:=⟨_,rfl⟩
 have hM:=ZL h5
 have run:∀ d i m floor,i+d=p.t.log.length->d<m->LRi N m p.t.log (Cb p.done) p.upto floor (i:Nat)=some (eV (MW (Cb p.done) p.upto floor (p.t.log.drop i))):=by
  intro d
  induction d with
  | zero=>
   intro i m floor hi hm
   obtain⟨m,rfl⟩:∃ k,m=k+1:=⟨m - 1,by omega⟩
   rw[acV,decide_eq_false (by omega),cond_false,List.drop_eq_nil_of_le (by omega)];rfl
  | succ d ih=>
   intro i m floor hi hm
   obtain⟨m,rfl⟩:∃ k,m=k+1:=⟨m - 1,by omega⟩
   have hil:i<p.t.log.length:=by omega
   have hv:=h4 _ (getD_mem (z:=(default:Entry)) hil)
   rw[acV,decide_eq_true (by omega),cond_true,Bq hil,Int.toNat_natCast,SQ ⟨hv,hM⟩,drop_cons (z:=(default:Entry)) hil,MW]
   simp only
   cases hs:EE (p.t.log.getD i default) (Cb p.done)with
   | false=>rfl
   | true=>
    rw[Bool.not_true,cond_false,Bool.false_or]
    refine(Jj h3 hv).trans ?_
    simp only
    cases AH p.upto (p.t.log.getD i default).ver with
    | true=>rfl
    | false=>rw[cond_false,cond_false,Bz (by omega)];exact ih (i+1) m _ (by omega) (by omega)
 refine BQ (ak DW (ak ZJ (ak SP AL))) ((aj0 N p.t p.upto p.done).trans ?_)
 rw[ajZ h2]
 have:=run p.t.log.length 0 N p.t.floor (by omega) (by omega)
 rw[List.drop_zero]at this
 exact this
def acW:Known:=.spec HF dRi tA eRi (fun p=>eV (Py p))
theorem aaG:acW.Ok PG:=Known.spec_ok aaF
def eP(l:List Known):Env:=BU [(Dj,0,[4,5,6,16,17,18,1004]),(Bh,0,[2,4,6,7,37,38,39,1005])] [(Br,1),(AK,0),(Ao,5),(GM,1)] [] l
theorem tB:(FH AK 11).Ok PG:=Dn Gf
theorem aj1(p:Pump):BA 0 (eP [Nx Br 4,FH AK 11]) 9 GM [AV.agg (Bg p)] [] =
 gC (Ep) (Es) (Er 11) ([Ae p.out]) fun y0=>
 gC (Ep) (Es) (Er 4) ([Al p.done]) fun y1=>
 some ((AV.agg [AV.int IntKind.i64 p.num,AV.tr 11 y0.fst y0.snd,AV.sn 4 0 y1.fst],[BS.seq true 4 y1.fst y1.snd])):=by kernel_rfl
def Nz(p:Pump):Prop:=p.out.length<=100000/\p.done.length<=100000
theorem ahF(p:Pump)(h:Nz p):Aa PG GM [.agg (Bg p)] [] (.agg [.int .i64 p.num,Ae p.out,.sn 4 0 p.done.length]) [Bc 4 Af default p.done]:=by
 refine Zm (ak ZB (ak tB AL)) ((aj1 p).trans ?_)
 refine(WT (sz:=11) h.1).trans ?_
 exact(WT (sz:=4) h.2)
def kCp:Known:=.specB GM (fun a=>De (AA a 0)) Nz (fun p=>[.agg (Bg p)]) (fun p=>(.agg [.int .i64 p.num,Ae p.out,.sn 4 0 p.done.length],[Bc 4 Af default p.done]))
theorem ZM:kCp.Ok PG:=Known.specB_ok ahF
theorem qCp{R:Type}{p:Pump}{k:Pump->Option R}(h:Nz p):gC (fun a=>De (AA a 0)) Nz (fun p=>[.agg (Bg p)]) [.agg (Bg p)] k=k p:=Aw p (HK p) h (.refl _)
abbrev MC:=List Txt × (Txt->Int)
def MX(M:MC)(s:Txt):MC:=(Gy M.1 s,Dx M.2 s (IntKind.i64.wrap ((bif BH s M.1 then M.2 s else 0)+1)))
def HO(l:List Txt):MC:=l.foldl MX ([],fun _=>0)
theorem tC(l:List Txt)(h:l.length<=1000000):(∀ k,k ∈ (HO l).1 ↔ k ∈ l) /\ ∀ k ∈ (HO l).1,1<=(HO l).2 k/\(HO l).2 k<=l.length:=by
 have:∀ (l:List Txt) (M:MC) (n:Nat),n+l.length<=1000000->(∀ k ∈ M.1,1<=M.2 k/\M.2 k<=n)->(∀ k,k ∈ (l.foldl MX M).1 ↔ k ∈ M.1\/k ∈ l) /\ ∀ k ∈ (l.foldl MX M).1,1<=(l.foldl MX M).2 k/\(l.foldl MX M).2 k<=(n+l.length:Nat):=by
  intro l
  induction l with
  | nil=>intro M n _ h;exact⟨fun k=>by simp,by simpa using h⟩
  | cons s r ih=>
   intro M n hn hM
   obtain⟨h1,h2⟩:=ih (MX M s) (n+1) (by simp at hn;omega) (fun k hk=>by
    show 1<=Dx M.2 s _ k/\Dx M.2 s _ k<=_
    unfold Dx
    cases hb:Ah k s with
    | true=>
     rw[cond_true]
     cases hm:BH s M.1 with
     | true=>
      have:=hM s ((Dy _ _).1 hm)
      rw[cond_true,wrap64 (by simp at hn;omega)];omega
     | false=>rw[cond_false,wrap64 (by omega)];omega
    | false=>
     rcases MU.1 hk with e | e
     ·rw[e,Ji]at hb;cases hb
     ·have:=hM k e;rw[cond_false];omega)
   refine⟨fun k=>?_,fun k hk=>?_⟩
   ·rw[List.foldl_cons,h1]
    show k ∈ Gy M.1 s\/k ∈ r ↔ _
    rw[MU,List.mem_cons,or_comm (a:=k=s),or_assoc]
   ·have:=h2 k hk
    rw[List.foldl_cons,List.length_cons]
    omega
 obtain⟨h1,h2⟩:=this l ([],fun _=>0) 0 (by omega) (fun k hk=>by simp at hk)
 exact⟨fun k=>by unfold HO;rw[h1];simp,fun k hk=>by have:=h2 k hk;unfold HO;omega⟩
theorem ZN(l:List Txt)(s:Txt):HO (l++[s])=MX (HO l) s:=by unfold HO;rw[List.foldl_append];rfl
def hTr(p:Pump)(M:MC):Heap:=[.arr true 3 [[.int .i64 0,.nils,.nils]],.arr true 3 [[.int .i64 p.num,Ae p.out,.sn 4 2 p.done.length]],Bc 4 Af default p.done,.arr true 1 [[.mp 4]],.pmap true M.1 fun k=>.int .i64 (M.2 k)]
def STr(p:Pump)(M:MC)(l:List Entry)(i:Int):St:={fr:=[(4,.ptr 0 0 0),(5,.ptr 1 0 0),(6,.ptr 3 0 0),(16,Ae l),(17,.int .i64 l.length),(18,.int .i64 i),(1004,.undef)],hp:=hTr p M}
def QV:List Known:=[kCp,kDT]
theorem aeM:∀ k ∈ QV,k.Ok PG:=ak ZM (ak ahl AL)
def gY(N m:Nat)(p:Pump)(M:MC)(l:List Entry)(i:Int):Option AV:=LP (eP QV) N 0 Dj Bp 0 [] m (STr p M l i)
theorem aj2(N:Nat)(p:Pump)(t:Tail):Am (eP QV) (N+1) Dj [.agg (Bg p),.agg (AJ t)]=gC (fun a=>De (AA a 0)) Nz (fun p=>[.agg (Bg p)]) [.agg (Bg p)] fun y=>gY N N y (HO []) t.log 0:=by kernel_rfl
theorem aj3(N:Nat)(m:Nat)(p:Pump)(M:MC)(l:List Entry)(i:Int):LP (eP QV) N 0 Dj Bp 0 [] (m+1) (STr p M l i) =
 bif decide (i<(↑l.length:Int))then
  bif decide (0<=i)&&decide (i<(↑l.length:Int))then
   bif(l.getD i.toNat default).write then
    bif BH (l.getD i.toNat default).key M.fst then
     LP (eP QV) (N) (0) (Dj) (Bp) 0 ([]) (m) ({fr:=[(4,AV.ptr 0 0 0),(5,AV.ptr 1 0 0),(6,AV.ptr 3 0 0),(16,Ae l),(17,AV.int IntKind.i64 (↑l.length:Int)),(18,AV.int IntKind.i64 (IntKind.i64.wrap (i+1))),(1004,AV.undef)],hp:=[BS.arr true 3 [[AV.int IntKind.i64 0,AV.nils,AV.nils]],BS.arr true 3 [[AV.int IntKind.i64 p.num,Ae p.out,AV.sn 4 2 p.done.length]],BS.seq true 4 p.done.length fun i=>Af (p.done.getD i default),BS.arr true 1 [[AV.mp 4]],BS.pmap true (bif BH (l.getD i.toNat default).key M.fst then M.fst else M.fst++[(l.getD i.toNat default).key]) fun x=>bif Ah x (l.getD i.toNat default).key then AV.int IntKind.i64 (IntKind.i64.wrap (M.snd (l.getD i.toNat default).key+1))else AV.int IntKind.i64 (M.snd x)]})
    else
     LP (eP QV) (N) (0) (Dj) (Bp) 0 ([]) (m) ({fr:=[(4,AV.ptr 0 0 0),(5,AV.ptr 1 0 0),(6,AV.ptr 3 0 0),(16,Ae l),(17,AV.int IntKind.i64 (↑l.length:Int)),(18,AV.int IntKind.i64 (IntKind.i64.wrap (i+1))),(1004,AV.undef)],hp:=[BS.arr true 3 [[AV.int IntKind.i64 0,AV.nils,AV.nils]],BS.arr true 3 [[AV.int IntKind.i64 p.num,Ae p.out,AV.sn 4 2 p.done.length]],BS.seq true 4 p.done.length fun i=>Af (p.done.getD i default),BS.arr true 1 [[AV.mp 4]],BS.pmap true (bif BH (l.getD i.toNat default).key M.fst then M.fst else M.fst++[(l.getD i.toNat default).key]) fun x=>bif Ah x (l.getD i.toNat default).key then AV.int IntKind.i64 1 else AV.int IntKind.i64 (M.snd x)]})
   else
    LP (eP QV) (N) (0) (Dj) (Bp) 0 ([]) (m) (STr p M l (IntKind.i64.wrap (i+1)))
  else none
 else
  BF (Zw) (SM) (E6) ([AV.sn 4 0 p.done.length,AV.fn (Fn.func Ga) [] [AV.ptr 1 0 0]]) ([BS.seq true 4 p.done.length fun i=>Af (p.done.getD i default),BS.arr true 1 [[AV.mp 2]],BS.pmap true M.fst fun k=>AV.int IntKind.i64 (M.snd k)]) fun y2=>
  bif(List.filter (fun x=>!pT y2.snd x) y2.fst).length.ble (List.filter (fun x=>!pT y2.snd x) y2.fst).length&&true then
   some (AV.agg [AV.int IntKind.i64 p.num,Ae p.out,AV.tr 4 (List.filter (fun x=>!pT y2.snd x) y2.fst).length fun i=>Af ((List.filter (fun x=>!pT y2.snd x) y2.fst).getD i default)])
  else none:=by kernel_rfl
theorem tD(N m:Nat)(p:Pump)(M:MC)(l:List Entry)(i:Int):gY N (m+1) p M l i =
 bif decide (i<(l.length:Int))then rg i l.length (bif(l.getD i.toNat default).write then gY N m p (MX M (l.getD i.toNat default).key) l (IntKind.i64.wrap (i+1))else gY N m p M l (IntKind.i64.wrap (i+1)))
 else BF Zw SM E6 (E6 (p.done,M)).1 (E6 (p.done,M)).2 fun y=>bif(List.filter (fun x=>!pT y.2 x) y.1).length.ble (List.filter (fun x=>!pT y.2 x) y.1).length&&true then some (.agg [.int .i64 p.num,Ae p.out,Al (List.filter (fun x=>!pT y.2 x) y.1)])else none:=by
 refine(aj3 N m p M l i).trans ?_
 have key:∀ (s:Txt) (v:Int),BS.pmap true (bif BH s M.1 then M.1 else M.1++[s]) (fun x=>bif Ah x s then AV.int IntKind.i64 v else AV.int IntKind.i64 (M.2 x))=.pmap true (Gy M.1 s) fun k=>.int .i64 (Dx M.2 s v k):=fun s v=>by
  rw[Tg (fun n=>AV.int IntKind.i64 n)];rfl
 rw[key,key]
 have hL:∀ v:Int,v=(bif BH (l.getD i.toNat default).key M.1 then M.2 (l.getD i.toNat default).key else 0)->gY N m p (MX M (l.getD i.toNat default).key) l (IntKind.i64.wrap (i+1))=LP (eP QV) N 0 Dj Bp 0 [] m {fr:=[(4,.ptr 0 0 0),(5,.ptr 1 0 0),(6,.ptr 3 0 0),(16,Ae l),(17,.int .i64 l.length),(18,.int .i64 (IntKind.i64.wrap (i+1))),(1004,.undef)],hp:=hTr p (Gy M.1 (l.getD i.toNat default).key,Dx M.2 (l.getD i.toNat default).key (IntKind.i64.wrap (v+1)))}:=fun v hv=>by
  rw[hv];rfl
 unfold rg
 cases hd:decide (i<(l.length:Int))with
 | false=>rfl
 | true=>
  rw[cond_true,cond_true]
  cases hw:(l.getD i.toNat default).write with
  | false=>rfl
  | true=>
   rw[cond_true,cond_true]
   cases hm:BH (l.getD i.toNat default).key M.1 with
   | true=>rw[cond_true,hL (M.2 (l.getD i.toNat default).key) (by rw[hm,cond_true])];rfl
   | false=>rw[cond_false,hL 0 (by rw[hm,cond_false])];rfl
def NA(l:List Entry):List Txt:=(l.filter fun e=>e.write).map fun e=>e.key
theorem mF{l:List Entry}{i:Nat}(h:i<l.length):NA (l.take (i+1))=NA (l.take i)++bif(l.getD i default).write then [(l.getD i default).key]else []:=by
 unfold NA
 rw[List.take_add_one,List.filter_append,List.map_append,List.getElem?_eq_getElem h]
 have e:l.getD i default=l[i]:=by simp[List.getD,List.getElem?_eq_getElem h]
 rw[e]
 cases hw:l[i].write <;> simp[hw]
def Sg(p:Pump)(l:List Entry):Pump:={p with done:=p.done.filter fun x=>BH x.key (NA l)}
theorem ahG{ks:List Txt}(h:ks.length<=1000000)(x:Itm):(!pT (HO ks) x)=BH x.key ks:=by
 obtain⟨h1,h2⟩:=tC ks h
 unfold pT
 cases hm:BH x.key (HO ks).1 with
 | true=>
  have hk:=(Dy _ _).1 hm
  have:=h2 _ hk
  rw[cond_true,decide_eq_false (by omega),Bool.not_false]
  exact((Dy _ _).2 ((h1 _).1 hk)).symm
 | false=>
  rw[cond_false,Bool.not_true]
  cases hm2:BH x.key ks with
  | false=>rfl
  | true=>rw[(Dy _ _).2 ((h1 _).2 ((Dy _ _).1 hm2))]at hm;cases hm
abbrev PT:=Pump × Tail
def ePT(p:PT):List AV:=[.agg (Bg p.1),.agg (AJ p.2)]
def tE(p:PT):Prop:=Nz p.1/\p.2.log.length<=100000
theorem aaH(p:PT)(h:tE p):Aa PG Dj (ePT p) [] (.agg (Bg (Sg p.1 p.2.log))) []:=by
 obtain⟨h1,h2⟩:=h
 obtain⟨N,hN⟩:∃ N,N=200000:=⟨_,rfl⟩
 have:=Ou (n:=p.2.log.length) (fun i m=>gY N m p.1 (HO (NA (p.2.log.take i))) p.2.log (i:Nat)=some (.agg (Bg (Sg p.1 p.2.log)))) (fun m=>?_) (fun i m hi ih=>?_) 0 N (Nat.zero_le _) (by omega)
 ·exact BQ aeM ((aj2 N p.1 p.2).trans ((qCp h1).trans this))
 ·rw[tD,decide_eq_false (by omega),cond_false,List.take_of_length_le (Nat.le_refl _)]
  refine(BT (p.1.done,HO (NA p.2.log)) (sE _) h1.2 (.refl _) (.refl _)).trans ?_
  have hk:(NA p.2.log).length<=1000000:=by unfold NA;rw[List.length_map];have:=List.length_filter_le (fun e:Entry=>e.write) p.2.log;omega
  simp only[ahG hk]
  rw[Bn (Nat.le_refl _)];rfl
 ·rw[tD,decide_eq_true (by omega),cond_true,Bq hi,Int.toNat_natCast,Bz (by omega)]
  rw[mF hi]at ih
  cases hw:(p.2.log.getD i default).write with
  | true=>rw[hw,cond_true,ZN]at ih;rw[cond_true];exact ih
  | false=>rw[hw,cond_false,List.append_nil]at ih;rw[cond_false];exact ih
def acX:Known:=.spec Dj (fun a=>(De (AA a 0),El (AA a 1))) tE ePT (fun p=>.agg (Bg (Sg p.1 p.2.log)))
theorem aaI:acX.Ok PG:=Known.spec_ok aaH
def Gg:List Known:=[kCp,kDF]
theorem aj4(N:Nat)(p:Pump)(m:Msg):Am (eP Gg) (N+1) Bh [AV.agg (Bg p),AV.agg (Ac m)] =
 gC (fun a=>De (AA a 0)) (Nz) (fun p=>[AV.agg (Bg p)]) ([AV.agg (Bg p)]) fun y3=>
 bif decide ((↑p.out.length:Int)=0)then
  bif y3.done.length.ble y3.done.length&&true&&true then
   some (AV.tup [AV.agg (Bg y3),AV.bool false])
  else none
 else
  bif !decide (m.num=p.num)then
   bif y3.done.length.ble y3.done.length&&true&&true then
    some (AV.tup [AV.agg (Bg y3),AV.bool false])
   else none
  else
   bif !decide (m.code=0)then
    bif y3.done.length.ble y3.done.length&&true&&true then
     some (AV.tup [AV.agg [AV.int IntKind.i64 y3.num,AV.nils,Al y3.done],AV.bool true])
    else none
   else
    LP (eP Gg) (N) 0 (Bh) Bp 0 [] (N) ({fr:=[(2,AV.ptr 0 0 0),(4,AV.ptr 1 0 0),(6,AV.ptr 2 0 0),(7,AV.ptr 4 0 0),(37,Ae p.out),(38,AV.int IntKind.i64 (↑p.out.length:Int)),(39,AV.int IntKind.i64 0),(1005,AV.undef)],hp:=[BS.arr true 3 [Bg p],BS.arr true 3 [[AV.int IntKind.i64 0,AV.nils,AV.nils]],BS.arr true 3 [[AV.int IntKind.i64 y3.num,AV.nils,AV.sn 4 3 y3.done.length]],BS.seq true 4 y3.done.length fun i=>Af (y3.done.getD i default),BS.arr true 1 [[AV.mp 5]],BS.pmap true [] fun x=>AV.int IntKind.i64 0]}):=by kernel_rfl
def hFl(p:Pump)(M:MC):Heap:=[.arr true 3 [Bg p],.arr true 3 [[.int .i64 0,.nils,.nils]],.arr true 3 [[.int .i64 p.num,.nils,.sn 4 3 p.done.length]],Bc 4 Af default p.done,.arr true 1 [[.mp 5]],.pmap true M.1 fun k=>.int .i64 (M.2 k)]
def tG(p:Pump)(M:MC)(i:Int):St:={fr:=[(2,.ptr 0 0 0),(4,.ptr 1 0 0),(6,.ptr 2 0 0),(7,.ptr 4 0 0),(37,Ae p.out),(38,.int .i64 p.out.length),(39,.int .i64 i),(1005,.undef)],hp:=hFl p M}
theorem aj5(N:Nat)(m:Nat)(p:Pump)(M:MC)(i:Int):LP (eP Gg) N 0 Bh Bp 0 [] (m+1) (tG p M i) =
 bif decide (i<(↑p.out.length:Int))then
  bif decide (0<=i)&&decide (i<(↑p.out.length:Int))then
   bif BH (p.out.getD i.toNat default).key M.fst then
    LP (eP Gg) (N) (0) (Bh) (Bp) 0 ([]) (m) ({fr:=[(2,AV.ptr 0 0 0),(4,AV.ptr 1 0 0),(6,AV.ptr 2 0 0),(7,AV.ptr 4 0 0),(37,Ae p.out),(38,AV.int IntKind.i64 (↑p.out.length:Int)),(39,AV.int IntKind.i64 (IntKind.i64.wrap (i+1))),(1005,AV.undef)],hp:=[BS.arr true 3 [Bg p],BS.arr true 3 [[AV.int IntKind.i64 0,AV.nils,AV.nils]],BS.arr true 3 [[AV.int IntKind.i64 p.num,AV.nils,AV.sn 4 3 p.done.length]],BS.seq true 4 p.done.length fun i=>Af (p.done.getD i default),BS.arr true 1 [[AV.mp 5]],BS.pmap true (bif BH (p.out.getD i.toNat default).key M.fst then M.fst else M.fst++[(p.out.getD i.toNat default).key]) fun x=>bif Ah x (p.out.getD i.toNat default).key then AV.int IntKind.i64 (IntKind.i64.wrap (M.snd (p.out.getD i.toNat default).key+1))else AV.int IntKind.i64 (M.snd x)]})
   else
    LP (eP Gg) (N) (0) (Bh) (Bp) 0 ([]) (m) ({fr:=[(2,AV.ptr 0 0 0),(4,AV.ptr 1 0 0),(6,AV.ptr 2 0 0),(7,AV.ptr 4 0 0),(37,Ae p.out),(38,AV.int IntKind.i64 (↑p.out.length:Int)),(39,AV.int IntKind.i64 (IntKind.i64.wrap (i+1))),(1005,AV.undef)],hp:=[BS.arr true 3 [Bg p],BS.arr true 3 [[AV.int IntKind.i64 0,AV.nils,AV.nils]],BS.arr true 3 [[AV.int IntKind.i64 p.num,AV.nils,AV.sn 4 3 p.done.length]],BS.seq true 4 p.done.length fun i=>Af (p.done.getD i default),BS.arr true 1 [[AV.mp 5]],BS.pmap true (bif BH (p.out.getD i.toNat default).key M.fst then M.fst else M.fst++[(p.out.getD i.toNat default).key]) fun x=>bif Ah x (p.out.getD i.toNat default).key then AV.int IntKind.i64 1 else AV.int IntKind.i64 (M.snd x)]})
  else none
 else
  BF (Zt) (QR) (E5) ([AV.sn 4 0 p.done.length,AV.fn (Fn.func EP) [] [AV.ptr 1 0 0]]) ([BS.seq true 4 p.done.length fun i=>Af (p.done.getD i default),BS.arr true 1 [[AV.mp 2]],BS.pmap true M.fst fun k=>AV.int IntKind.i64 (M.snd k)]) fun y4=>
  LP (eP Gg) (N) (0) (Bh) (Bp) 2 ([]) (N) ({fr:=[(4,AV.ptr 0 0 0),(6,AV.ptr 1 0 0),(56,Ae p.out),(57,AV.int IntKind.i64 (↑p.out.length:Int)),(58,AV.int IntKind.i64 0)],hp:=[BS.arr true 3 [[AV.int IntKind.i64 0,AV.nils,AV.nils]],BS.arr true 3 [[AV.int IntKind.i64 p.num,AV.nils,AV.sn 4 2 (List.filter (fun x=>!pF y4.snd x) y4.fst).length]],BS.seq true 4 (List.filter (fun x=>!pF y4.snd x) y4.fst).length fun i=>Af ((List.filter (fun x=>!pF y4.snd x) y4.fst).getD i default)]}):=by kernel_rfl
theorem tH(N m:Nat)(p:Pump)(M:MC)(i:Int):LP (eP Gg) N 0 Bh Bp 0 [] (m+1) (tG p M i) =
 bif decide (i<(p.out.length:Int))then rg i p.out.length (LP (eP Gg) N 0 Bh Bp 0 [] m (tG p (MX M (p.out.getD i.toNat default).key) (IntKind.i64.wrap (i+1))))
 else BF Zt QR E5 (E5 (p.done,M)).1 (E5 (p.done,M)).2 fun y=>LP (eP Gg) N 0 Bh Bp 2 [] N {fr:=[(4,.ptr 0 0 0),(6,.ptr 1 0 0),(56,Ae p.out),(57,.int .i64 p.out.length),(58,.int .i64 0)],hp:=[.arr true 3 [[.int .i64 0,.nils,.nils]],.arr true 3 [[.int .i64 p.num,.nils,.sn 4 2 (y.1.filter fun x=>!pF y.2 x).length]],Bc 4 Af default (y.1.filter fun x=>!pF y.2 x)]}:=by
 refine(aj5 N m p M i).trans ?_
 have key:∀ (s:Txt) (v:Int),BS.pmap true (bif BH s M.1 then M.1 else M.1++[s]) (fun x=>bif Ah x s then AV.int IntKind.i64 v else AV.int IntKind.i64 (M.2 x))=.pmap true (Gy M.1 s) fun k=>.int .i64 (Dx M.2 s v k):=fun s v=>by
  rw[Tg (fun n=>AV.int IntKind.i64 n)];rfl
 rw[key,key]
 have hL:∀ v:Int,v=(bif BH (p.out.getD i.toNat default).key M.1 then M.2 (p.out.getD i.toNat default).key else 0)->LP (eP Gg) N 0 Bh Bp 0 [] m (tG p (MX M (p.out.getD i.toNat default).key) (IntKind.i64.wrap (i+1)))=LP (eP Gg) N 0 Bh Bp 0 [] m {fr:=[(2,.ptr 0 0 0),(4,.ptr 1 0 0),(6,.ptr 2 0 0),(7,.ptr 4 0 0),(37,Ae p.out),(38,.int .i64 p.out.length),(39,.int .i64 (IntKind.i64.wrap (i+1))),(1005,.undef)],hp:=hFl p (Gy M.1 (p.out.getD i.toNat default).key,Dx M.2 (p.out.getD i.toNat default).key (IntKind.i64.wrap (v+1)))}:=fun v hv=>by
  rw[hv];rfl
 unfold rg
 cases hd:decide (i<(p.out.length:Int))with
 | false=>rfl
 | true=>
  rw[cond_true,cond_true]
  cases hm:BH (p.out.getD i.toNat default).key M.1 with
  | true=>rw[cond_true,hL (M.2 (p.out.getD i.toNat default).key) (by rw[hm,cond_true])];rfl
  | false=>rw[cond_false,hL 0 (by rw[hm,cond_false])];rfl
def tI(num:Int)(out:List Entry)(l:List Itm)(i:Int):St:={fr:=[(4,.ptr 0 0 0),(6,.ptr 1 0 0),(56,Ae out),(57,.int .i64 out.length),(58,.int .i64 i)],hp:=[.arr true 3 [[.int .i64 0,.nils,.nils]],.arr true 3 [[.int .i64 num,.nils,.sn 4 2 l.length]],Bc 4 Af default l]}
theorem acY(N:Nat)(m:Nat)(num:Int)(out:List Entry)(l:List Itm)(i:Int):LP (eP Gg) N 0 Bh Bp 2 [] (m+1) (tI num out l i) =
 bif decide (i<(↑out.length:Int))then
  bif decide (0<=i)&&decide (i<(↑out.length:Int))then
   bif l.length.ble l.length then
    bif((l.length+1)*56).ble 140737488355328&&(l.length+1).ble 140737488355328 then
     LP (eP Gg) (N) (0) (Bh) (Bp) 2 ([]) (m) ({fr:=[(4,AV.ptr 0 0 0),(6,AV.ptr 1 0 0),(56,Ae out),(57,AV.int IntKind.i64 (↑out.length:Int)),(58,AV.int IntKind.i64 (IntKind.i64.wrap (i+1)))],hp:=[BS.arr true 3 [[AV.int IntKind.i64 0,AV.nils,AV.nils]],BS.arr true 3 [[AV.int IntKind.i64 num,AV.nils,AV.sn 4 2 (l.length+1)]],BS.seq true 4 (l.length+1) (Be l.length (fun i=>Af (l.getD i default)) (View.list [[AV.str (out.getD i.toNat default).key,AV.str [],AV.bool false,AV.cplx FloatKind.f64 (out.getD i.toNat default).ver.re (out.getD i.toNat default).ver.im]]))]})
    else none
   else none
  else none
 else
  bif l.length.ble l.length&&true&&true then
   some (AV.tup [AV.agg [AV.int IntKind.i64 num,AV.nils,AV.tr 4 l.length fun i=>Af (l.getD i default)],AV.bool true])
  else none:=by kernel_rfl
theorem ahH{ks:List Txt}(h:ks.length<=1000000)(x:Itm):pF (HO ks) x=BH x.key ks:=by
 obtain⟨h1,h2⟩:=tC ks h
 unfold pF
 cases hm:BH x.key (HO ks).1 with
 | true=>
  have hk:=(Dy _ _).1 hm
  have:=h2 _ hk
  rw[cond_true,decide_eq_true (by omega)]
  exact((Dy _ _).2 ((h1 _).1 hk)).symm
 | false=>
  rw[cond_false]
  cases hm2:BH x.key ks with
  | false=>rfl
  | true=>rw[(Dy _ _).2 ((h1 _).2 ((Dy _ _).1 hm2))]at hm;cases hm
def Jw(e:Entry):Itm:=⟨e.key,[],false,e.ver⟩
def Ur(p:Pump):List Itm:=(p.done.filter fun x=>!BH x.key (p.out.map fun e=>e.key))++p.out.map Jw
def Cx(p:Pump)(m:Msg):Pump × Bool:=
 bif decide ((p.out.length:Int)=0)then(p,false)else bif !decide (m.num=p.num)then(p,false)else bif !decide (m.code=0)then({p with out:=[]},true)else(⟨p.num,[],Ur p⟩,true)
abbrev PM:=Pump × Msg
def ePM(p:PM):List AV:=[.agg (Bg p.1),.agg (Ac p.2)]
def oFl(p:PM):AV:=.tup [.agg (Bg (Cx p.1 p.2).1),.bool (Cx p.1 p.2).2]
theorem Pz:∀ k ∈ Gg,k.Ok PG:=ak ZM (ak ahg AL)
theorem ahI{num:Int}{out:List Entry}{done:List Itm}{N:Nat}(hl:done.length<=100000)(ho:out.length<=100000):∀ i m,i<=out.length->out.length - i<m->LP (eP Gg) N 0 Bh Bp 2 [] m (tI num out (done++(out.take i).map Jw) (i:Nat))=some (.tup [.agg [.int .i64 num,.nils,Al (done++out.map Jw)],.bool true]):=by
 refine Ou (n:=out.length) (fun i m=>LP (eP Gg) N 0 Bh Bp 2 [] m (tI num out (done++(out.take i).map Jw) (i:Nat))=some (.tup [.agg [.int .i64 num,.nils,Al (done++out.map Jw)],.bool true])) (fun m=>?_) (fun i m hi ih=>?_)
 ·rw[acY,decide_eq_false (by omega),cond_false,List.take_of_length_le (Nat.le_refl _),Bn (Nat.le_refl _)];rfl
 ·have hlen:(done++(out.take i).map Jw).length<=200000:=by rw[List.length_append,List.length_map,List.length_take];omega
  rw[acY,decide_eq_true (by omega),cond_true,decide_eq_true (by omega),Bool.and_true,cond_true,Bn (Nat.le_refl _),cond_true,Bn (by omega),Bn (by omega),Bool.and_true,cond_true,Bz (by omega)]
  have e:out.take (i+1)=out.take i++[out.getD i default]:=by rw[List.take_add_one,List.getElem?_eq_getElem hi];simp[List.getD,List.getElem?_eq_getElem hi]
  rw[e,List.map_append,<- List.append_assoc]at ih
  have hs:=Vt 4 Af (default:Itm) (done++(out.take i).map Jw) (Jw (out.getD i default))
  have hb:∀ l:List Itm,tI num out (l++[Jw (out.getD i default)]) ((i+1:Nat):Int)={fr:=[(4,.ptr 0 0 0),(6,.ptr 1 0 0),(56,Ae out),(57,.int .i64 out.length),(58,.int .i64 ((i+1:Nat):Int))],hp:=[.arr true 3 [[.int .i64 0,.nils,.nils]],.arr true 3 [[.int .i64 num,.nils,.sn 4 2 (l.length+1)]],Bc 4 Af default (l++[Jw (out.getD i default)])]}:=fun l=>by
   unfold tI;rw[List.length_append];rfl
  have ih2:=ih
  simp only[List.map_cons,List.map_nil]at ih2
  rw[hb,<- hs]at ih2
  exact ih2
theorem dE(p:PM)(h:Nz p.1):Aa PG Bh (ePM p) [] (oFl p) []:=by
 obtain⟨N,hN⟩:∃ N,N=200000:=⟨_,rfl⟩
 have e:=aj4 N p.1 p.2
 have h1:=h.1
 have h2:=h.2
 rw[qCp h]at e
 simp only[Bn (Nat.le_refl p.1.done.length),Bool.and_self,cond_true]at e
 unfold oFl Cx
 cases ha:decide ((p.1.out.length:Int)=0)with
 | true=>rw[ha,cond_true]at e;exact BQ Pz e
 | false=>
  rw[ha,cond_false]at e
  cases hb:!decide (p.2.num=p.1.num)with
  | true=>rw[hb,cond_true]at e;exact BQ Pz e
  | false=>
   rw[hb,cond_false]at e
   cases hc:!decide (p.2.code=0)with
   | true=>
    rw[hc,cond_true]at e
    exact(BQ Pz e).res (.tup (.cons (.agg (.cons (.refl _) (.cons Df (.cons (.refl _) .nil)))) (.cons (.refl _) .nil)))
   | false=>
    rw[hc,cond_false]at e
    have run:=Ou (n:=p.1.out.length) (fun i m=>LP (eP Gg) N 0 Bh Bp 0 [] m (tG p.1 (HO ((p.1.out.take i).map fun e=>e.key)) (i:Nat))=some (.tup [.agg [.int .i64 p.1.num,.nils,Al (Ur p.1)],.bool true])) (fun m=>?_) (fun i m hi ih=>?_) 0 N (Nat.zero_le _) (by omega)
    ·exact(BQ Pz (e.trans run)).res (.tup (.cons (.agg (.cons (.refl _) (.cons Df (.cons (.refl _) .nil)))) (.cons (.refl _) .nil)))
    ·rw[tH,decide_eq_false (by omega),cond_false,List.take_of_length_le (Nat.le_refl _)]
     refine(BT (pre:=QR) (p.1.done,HO (p.1.out.map fun e=>e.key)) (rZ _) h2 (.refl _) (.refl _)).trans ?_
     simp only[ahH (ks:=p.1.out.map fun e=>e.key) (by rw[List.length_map];omega)]
     have:=ahI (num:=p.1.num) (out:=p.1.out) (done:=p.1.done.filter fun x=>!BH x.key (p.1.out.map fun e=>e.key)) (N:=N) (Nat.le_trans (List.length_filter_le _ _) h2) h1 0 N (Nat.zero_le _) (by omega)
     rw[List.take_zero,List.map_nil,List.append_nil]at this
     exact this
    ·rw[tH,decide_eq_true (by omega),cond_true,Bq hi,Int.toNat_natCast,Bz (by omega)]
     have e:p.1.out.take (i+1)=p.1.out.take i++[p.1.out.getD i default]:=by rw[List.take_add_one,List.getElem?_eq_getElem hi];simp[List.getD,List.getElem?_eq_getElem hi]
     rw[e,List.map_append]at ih
     rw[<- ZN]
     exact ih
def ZO:Known:=.spec Bh (fun a=>(De (AA a 0),BI (AA a 1))) (fun p=>Nz p.1) ePM oFl
theorem dF:ZO.Ok PG:=Known.spec_ok dE
end Go.Hd
end
noncomputable section
open Go Go.AM Go.Md
namespace Go.Hd
open Go.Wk
def insR{X:Type}(c:X->X->Bool):List X->X->List X->List X
 | [],x,B=>x::B
 | a::A,x,B=>bif c x a then insR c A x (a::B)else(a::A).reverse++x::B
def PA{X:Type}(c:X->X->Bool)(P:List X)(x:X):List X:=insR c P.reverse x []
def Kg{X:Type}(c:X->X->Bool)(l:List X):List X:=l.foldl (PA c) []
theorem Th{X:Type}(c:X->X->Bool):∀ (A:List X) (x:X) (B:List X),insR c A x B=insR c A x []++B
 | [],_,_=>rfl
 | a::A,x,B=>by
  unfold insR
  cases c x a with
  | true=>rw[cond_true,cond_true,Th c A x (a::B),Th c A x [a],List.append_assoc];rfl
  | false=>rw[cond_false,cond_false,List.append_assoc];rfl
theorem WZ{X:Type}(c:X->X->Bool):∀ (A:List X) (x:X) (B:List X),(insR c A x B).Perm (x::A++B)
 | [],_,_=>.refl _
 | a::A,x,B=>by
  unfold insR
  cases c x a with
  | true=>
   rw[cond_true]
   refine(WZ c A x (a::B)).trans ?_
   exact .cons x (List.perm_middle)
  | false=>
   rw[cond_false]
   refine List.perm_middle.trans (.cons x ?_)
   exact(List.reverse_perm _).append_right B
theorem NC{X:Type}(c:X->X->Bool)(P:List X)(x:X):(PA c P x).Perm (x::P):=by
 refine(WZ c _ x []).trans (.cons x ?_)
 show(P.reverse++[]).Perm P
 rw[List.append_nil]
 exact List.reverse_perm _
theorem IQ{X:Type}(c:X->X->Bool)(l:List X):(Kg c l).Perm l:=by
 have:∀ (l P:List X),(l.foldl (PA c) P).Perm (P++l):=by
  intro l
  induction l with
  | nil=>intro P;rw[List.append_nil];exact .refl _
  | cons x r ih=>
   intro P
   rw[List.foldl_cons]
   refine(ih _).trans ?_
   refine((NC c P x).append_right r).trans ?_
   exact List.perm_middle.symm
 exact this l []
theorem SR{X:Type}{c:X->X->Bool}(tr:∀ x y z,c x y=true->c y z=true->c x z=true):∀ (A:List X) (x:X) (B:List X),
  (A.reverse++B).Pairwise (fun a b=>c a b=true)->(∀ b ∈ B,c x b=true)->(∀ a ∈ A,c x a=true\/c a x=true)->(insR c A x B).Pairwise fun a b=>c a b=true
 | [],x,B,h,hB,_=>List.pairwise_cons.2 ⟨hB,h⟩
 | a::A,x,B,h,hB,hA=>by
  unfold insR
  cases hc:c x a with
  | true=>
   rw[cond_true]
   refine SR tr A x (a::B) (by rw[List.reverse_cons,List.append_assoc]at h;exact h) (fun b hb=>?_) fun b hb=>hA b (by simp[hb])
   rcases List.mem_cons.1 hb with rfl | hb
   ·exact hc
   ·exact hB b hb
  | false=>
   rw[cond_false]
   have ha:c a x=true:=(hA a (by simp)).resolve_left (by rw[hc];simp)
   obtain⟨h1,h2,h3⟩:=List.pairwise_append.1 h
   refine List.pairwise_append.2 ⟨h1,List.pairwise_cons.2 ⟨hB,h2⟩,fun y hy z hz=>?_⟩
   have hyx:c y x=true:=by
    rw[List.reverse_cons]at hy h1
    obtain⟨_,_,g3⟩:=List.pairwise_append.1 h1
    rcases List.mem_append.1 hy with hy | hy
    ·exact tr _ _ _ (g3 y hy a (by simp)) ha
    ·rw[List.mem_singleton.1 hy];exact ha
   rcases List.mem_cons.1 hz with rfl | hz
   ·exact hyx
   ·exact h3 y hy z hz
theorem QW{X:Type}{c:X->X->Bool}(tr:∀ x y z,c x y=true->c y z=true->c x z=true)(l:List X)(hl:l.Pairwise fun a b=>c a b=true\/c b a=true):(Kg c l).Pairwise fun a b=>c a b=true:=by
 have:∀ (l P:List X),P.Pairwise (fun a b=>c a b=true)->(P++l).Pairwise (fun a b=>c a b=true\/c b a=true)->(l.foldl (PA c) P).Pairwise fun a b=>c a b=true:=by
  intro l
  induction l with
  | nil=>intro P h _;exact h
  | cons x r ih=>
   intro P h h2
   rw[List.foldl_cons]
   refine ih _ ?_ ?_
   ·unfold PA
    refine SR tr _ x [] (by rw[List.reverse_reverse,List.append_nil];exact h) (fun b hb=>by simp at hb) fun a ha=>?_
    exact((List.pairwise_append.1 h2).2.2 a (by simpa using ha) x (by simp)).symm
   ·have:(P++x::r).Perm (PA c P x++r):=List.perm_middle.trans ((NC c P x).symm.append_right r)
    exact this.pairwise h2 (fun h=>h.symm)
 exact this l [] .nil (by simpa using hl)
theorem aaJ{X:Type}{c:X->X->Bool}(tr:∀ x y z,c x y=true->c y z=true->c x z=true)(ir:∀ x,c x x=false){l l':List X}(hp:l.Perm l')(hl:l.Pairwise fun a b=>c a b=true\/c b a=true):Kg c l=Kg c l':=by
 refine List.Perm.eq_of_pairwise (fun a b _ _ h1 h2=>?_) (QW tr l hl) (QW tr l' (hp.pairwise hl fun h=>h.symm)) ((IQ c l).trans (hp.trans (IQ c l').symm))
 have:=tr a b a h1 h2
 rw[ir]at this;cases this
end Go.Hd
end
noncomputable section
open Go Go.AM Go.Md
namespace Go.Hd
open Go.Wk
set_option maxRecDepth 100000
set_option maxHeartbeats 400000
def G1(l:List Known):Env:=BU [(Av,0,[0,1,2,3,8]),(Av,2,[0,1,2,3,8,9])] [(Av,5),(AY,5),(Ls,5),(T3,0),(CB,0)] [] l
abbrev Q1:=(Int × Int) × Tail
def tJ(p:Q1):List AV:=[.int .i64 p.1.1,.int .i64 p.1.2,.tp (AJ p.2) 0]
theorem c1_eq(p:Q1):Am (G1 [Fz,Pu]) 9 CB (tJ p) =
 bif decide (0<=p.fst.fst)&&decide (p.fst.fst<(↑p.snd.log.length:Int))then
  bif decide (0<=p.fst.snd)&&decide (p.fst.snd<(↑p.snd.log.length:Int))then
   gC (DA) (V2) (Dz) ([AV.cplx FloatKind.f64 (p.snd.log.getD p.fst.fst.toNat default).ver.re (p.snd.log.getD p.fst.fst.toNat default).ver.im,AV.cplx FloatKind.f64 (p.snd.log.getD p.fst.snd.toNat default).ver.re (p.snd.log.getD p.fst.snd.toNat default).ver.im]) fun y0=>
   bif AH y0.fst y0.snd then
    some (AV.int IntKind.i64 (-1))
   else
    gC (DA) (V2) (Dz) ([AV.cplx FloatKind.f64 (p.snd.log.getD p.fst.snd.toNat default).ver.re (p.snd.log.getD p.fst.snd.toNat default).ver.im,AV.cplx FloatKind.f64 (p.snd.log.getD p.fst.fst.toNat default).ver.re (p.snd.log.getD p.fst.fst.toNat default).ver.im]) fun y1=>
    bif AH y1.fst y1.snd then
     some (AV.int IntKind.i64 1)
    else
     gC (fun a=>(Ar a 0,Ar a 1)) (fun x=>True) (Lt) ([AV.int IntKind.i64 p.fst.fst,AV.int IntKind.i64 p.fst.snd]) fun y2=>
     some (AV.int IntKind.i64 (Dw y2.fst y2.snd))
  else none
 else none:=by kernel_rfl
def alG(a:List AV):List AV:=match a.getD 2 .nils with
 | .tp c _=>c
 | _=>[]
def dC1(a:List AV):Q1:=((Ar a 0,Ar a 1),El (alG a))
def VT(t:Tail):Prop:=t.log.length<=100000 /\ ∀ e ∈ t.log,Au e.ver
def gZ(p:Q1):Prop:=VT p.2/\0<=p.1.1/\p.1.1<p.2.log.length/\0<=p.1.2/\p.1.2<p.2.log.length
def QX(t:Tail)(a b:Int):Int:=bif AH (t.log.getD a.toNat default).ver (t.log.getD b.toNat default).ver then -1 else bif AH (t.log.getD b.toNat default).ver (t.log.getD a.toNat default).ver then 1 else Dw a b
def kC1:Known:=.spec CB dC1 gZ tJ fun p=>.int .i64 (QX p.2 p.1.1 p.1.2)
def fS:AV:=.fn (.func CB) [] [.ptr 1 0 0]
def hS(t:Tail):Heap:=[.arr true 3 [AJ t]]
def eI(i:Int):List AV:=[.int .i64 i]
def SS0(n:Nat)(F:Nat->Int)(t:Tail)(i:Int):St:={fr:=[(0,.sn 1 0 n),(1,.int .i64 0),(2,.int .i64 n),(3,fS),(8,.int .i64 i)],hp:=.seq true 1 n (fun i=>eI (F i))::hS t}
def SS2(n:Nat)(F:Nat->Int)(t:Tail)(i j:Int):St:={fr:=[(0,.sn 1 0 n),(1,.int .i64 0),(2,.int .i64 n),(3,fS),(8,.int .i64 i),(9,.int .i64 j)],hp:=.seq true 1 n (fun i=>eI (F i))::hS t}
theorem aj6(N:Nat)(n:Nat)(F:Nat->Int)(t:Tail):BA 2 (G1 [kC1]) (N+1) Av [AV.sn 1 0 n,AV.int IntKind.i64 0,AV.int IntKind.i64 (↑n:Int),fS] ((BS.seq true 1 n fun i=>eI (F i))::hS t) =
 LP (G1 [kC1]) (N) (2) (Av) (Cr (2) (2)) 0 [] (N) ({fr:=[(0,AV.sn 1 0 n),(1,AV.int IntKind.i64 0),(2,AV.int IntKind.i64 (↑n:Int)),(3,AV.fn (Fn.func CB) [] [AV.ptr 1 0 0]),(8,AV.int IntKind.i64 1)],hp:=[BS.seq true 1 n fun i=>[AV.int IntKind.i64 (F i)],BS.arr true 3 [AJ t]]}):=by kernel_rfl
theorem mG(N:Nat)(m:Nat)(n:Nat)(F:Nat->Int)(t:Tail)(i:Int):LP (G1 [kC1]) N 2 Av (Cr 2 2) 0 [] (m+1) (SS0 n F t i) =
 bif decide (i<(↑n:Int))then
  LP (G1 [kC1]) (N) (2) (Av) (Cr 2 2) 2 ([m]) (N) ({fr:=[(0,AV.sn 1 0 n),(1,AV.int IntKind.i64 0),(2,AV.int IntKind.i64 (↑n:Int)),(3,AV.fn (Fn.func CB) [] [AV.ptr 1 0 0]),(8,AV.int IntKind.i64 i),(9,AV.int IntKind.i64 i)],hp:=[BS.seq true 1 n fun i=>[AV.int IntKind.i64 (F i)],BS.arr true 3 [AJ t]]})
 else
  some ((AV.tup [],[BS.seq true 1 n fun i=>[AV.int IntKind.i64 (F i)],BS.arr true 3 [AJ t]])):=by kernel_rfl
theorem acZ(N:Nat)(m:Nat)(M:Nat)(n:Nat)(F:Nat->Int)(t:Tail)(i:Int)(j:Int):LP (G1 [kC1]) N 2 Av (Cr 2 2) 2 [M] (m+1) (SS2 n F t i j) =
 bif decide (0<j)then
  bif decide (0<=j)&&decide (j<(↑n:Int))then
   bif j.toNat.blt n then
    bif decide (0<=IntKind.i64.wrap (j - 1))&&decide (IntKind.i64.wrap (j - 1)<(↑n:Int))then
     bif(IntKind.i64.wrap (j - 1)).toNat.blt n then
      gC (dC1) (gZ) (tJ) ([AV.int IntKind.i64 (F j.toNat),AV.int IntKind.i64 (F (IntKind.i64.wrap (j - 1)).toNat),AV.tp (AJ t) 0]) fun y3=>
      bif decide (QX y3.snd y3.fst.fst y3.fst.snd<0)then
       bif decide (0<=IntKind.i64.wrap (j - 1))&&decide (IntKind.i64.wrap (j - 1)<(↑n:Int))then
        bif(IntKind.i64.wrap (j - 1)).toNat.blt n then
         bif decide (0<=j)&&decide (j<(↑n:Int))then
          bif j.toNat.blt n then
           bif decide (0<=j)&&decide (j<(↑n:Int))then
            bif j.toNat.blt n&&true then
             bif decide (0<=IntKind.i64.wrap (j - 1))&&decide (IntKind.i64.wrap (j - 1)<(↑n:Int))then
              bif(IntKind.i64.wrap (j - 1)).toNat.blt n&&Nat.ble 1 (bif(IntKind.i64.wrap (j - 1)).toNat.beq j.toNat then [AV.int IntKind.i64 (F (IntKind.i64.wrap (j - 1)).toNat)]else [AV.int IntKind.i64 (F (IntKind.i64.wrap (j - 1)).toNat)]).length then
               LP (G1 [kC1]) (N) (2) (Av) (Cr 2 2) 2 ([M]) (m) ({fr:=[(0,AV.sn 1 0 n),(1,AV.int IntKind.i64 0),(2,AV.int IntKind.i64 (↑n:Int)),(3,AV.fn (Fn.func CB) [] [AV.ptr 1 0 0]),(8,AV.int IntKind.i64 i),(9,AV.int IntKind.i64 (IntKind.i64.wrap (j - 1)))],hp:=[BS.seq true 1 n fun i'=>bif i'.beq (IntKind.i64.wrap (j - 1)).toNat then AV.int IntKind.i64 (F j.toNat)::List.drop 1 (bif(IntKind.i64.wrap (j - 1)).toNat.beq j.toNat then [AV.int IntKind.i64 (F (IntKind.i64.wrap (j - 1)).toNat)]else [AV.int IntKind.i64 (F (IntKind.i64.wrap (j - 1)).toNat)])else bif i'.beq j.toNat then [AV.int IntKind.i64 (F (IntKind.i64.wrap (j - 1)).toNat)]else [AV.int IntKind.i64 (F i')],BS.arr true 3 [AJ t]]})
              else none
             else none
            else none
           else none
          else none
         else none
        else none
       else none
      else
       LP (G1 [kC1]) (N) (2) (Av) (Cr 2 2) 0 [] (M) ({fr:=[(0,AV.sn 1 0 n),(1,AV.int IntKind.i64 0),(2,AV.int IntKind.i64 (↑n:Int)),(3,AV.fn (Fn.func CB) [] [AV.ptr 1 0 0]),(8,AV.int IntKind.i64 (IntKind.i64.wrap (i+1)))],hp:=[BS.seq true 1 n fun i=>[AV.int IntKind.i64 (F i)],BS.arr true 3 [AJ t]]})
     else none
    else none
   else none
  else none
 else
  LP (G1 [kC1]) (N) (2) (Av) (Cr 2 2) 0 [] (M) ({fr:=[(0,AV.sn 1 0 n),(1,AV.int IntKind.i64 0),(2,AV.int IntKind.i64 (↑n:Int)),(3,AV.fn (Fn.func CB) [] [AV.ptr 1 0 0]),(8,AV.int IntKind.i64 (IntKind.i64.wrap (i+1)))],hp:=[BS.seq true 1 n fun i=>[AV.int IntKind.i64 (F i)],BS.arr true 3 [AJ t]]}):=by kernel_rfl
theorem getD_mem{X:Type}{l:List X}{z:X}{i:Nat}(h:i<l.length):l.getD i z ∈ l:=by
 rw[List.getD,List.getElem?_eq_getElem h];exact List.getElem_mem h
theorem c1_con(p:Q1)(h:gZ p):Aa PG CB (tJ p) [] (.int .i64 (QX p.2 p.1.1 p.1.2)) []:=by
 refine BQ (ak DW (ak JL AL)) ((c1_eq p).trans ?_)
 obtain⟨⟨-,hv⟩,h1,h2,h3,h4⟩:=h
 have va:=hv _ (getD_mem (z:=default) (show p.1.1.toNat<p.2.log.length by omega))
 have vb:=hv _ (getD_mem (z:=default) (show p.1.2.toNat<p.2.log.length by omega))
 rw[decide_eq_true h1,decide_eq_true h2,decide_eq_true h3,decide_eq_true h4,Jj va vb,Jj vb va,ZG]
 unfold QX
 dsimp only [Bool.and_true,cond_true]
 cases AH (p.2.log.getD p.1.1.toNat default).ver (p.2.log.getD p.1.2.toNat default).ver <;> cases AH (p.2.log.getD p.1.2.toNat default).ver (p.2.log.getD p.1.1.toNat default).ver <;> rfl
theorem kC1_ok:kC1.Ok PG:=Known.spec_ok c1_con
theorem qC1{R:Type}{a b:Int}{t:Tail}{k:Q1->Option R}(h:gZ ((a,b),t)):gC dC1 gZ tJ [.int .i64 a,.int .i64 b,.tp (AJ t) 0] k=k ((a,b),t):=Aw ((a,b),t) (Prod.ext rfl (D9 t)) h (.refl _)
def LS0(N m n:Nat)(F:Nat->Int)(t:Tail)(i:Int):Option (AV × Heap):=LP (G1 [kC1]) N 2 Av (Cr 2 2) 0 [] m (SS0 n F t i)
def LS2(N m M n:Nat)(F:Nat->Int)(t:Tail)(i j:Int):Option (AV × Heap):=LP (G1 [kC1]) N 2 Av (Cr 2 2) 2 [M] m (SS2 n F t i j)
def tK(F:Nat->Int)(k:Nat):Nat->Int:=fun i=>bif i.beq k then F (k+1)else bif i.beq (k+1)then F k else F i
theorem aeN(N m M n:Nat)(F:Nat->Int)(t:Tail)(i:Int){k:Nat}(hn:n<=100000)(hk:k+1<n)(h:gZ ((F (k+1),F k),t)) :
  LS2 N (m+1) M n F t i ((k+1:Nat):Int)=bif decide (QX t (F (k+1)) (F k)<0)then LS2 N m M n (tK F k) t i (k:Int)else LS0 N M n F t (IntKind.i64.wrap (i+1)):=by
 have e:=acZ N m M n F t i ((k+1:Nat):Int)
 have hw:IntKind.i64.wrap (((k+1:Nat):Int) - 1)=(k:Int):=(wrap64 (by omega)).trans (by omega)
 rw[hw,Int.toNat_natCast,Int.toNat_natCast,AB hk,AB (show k<n by omega),decide_eq_true (show(0:Int)<((k+1:Nat):Int) by omega),decide_eq_true (show(0:Int)<=((k+1:Nat):Int) by omega),decide_eq_true (show((k+1:Nat):Int)<(n:Int) by omega),
  decide_eq_true (show(0:Int)<=(k:Int) by omega),decide_eq_true (show(k:Int)<(n:Int) by omega),AM.beq_false (show k ≠ k+1 by omega),qC1 h]at e
 refine e.trans ?_
 have hF:(fun i'=>bif Nat.beq i' k then [AV.int IntKind.i64 (F (k+1))]else bif Nat.beq i' (k+1)then [AV.int IntKind.i64 (F k)]else [AV.int IntKind.i64 (F i')])=fun i'=>eI (tK F k i'):=by
  funext i'
  unfold tK
  cases Nat.beq i' k <;> cases Nat.beq i' (k+1) <;> rfl
 cases hc:decide (QX t (F (k+1)) (F k)<0)with
 | false=>rfl
 | true=>
  show LP (G1 [kC1]) N 2 Av (Cr 2 2) 2 [M] m {fr:=[(0,AV.sn 1 0 n),(1,AV.int IntKind.i64 0),(2,AV.int IntKind.i64 n),(3,fS),(8,AV.int IntKind.i64 i),(9,AV.int IntKind.i64 k)],hp:=[BS.seq true 1 n fun i'=>bif Nat.beq i' k then [AV.int IntKind.i64 (F (k+1))]else bif Nat.beq i' (k+1)then [AV.int IntKind.i64 (F k)]else [AV.int IntKind.i64 (F i')],BS.arr true 3 [AJ t]]}=_
  rw[hF];rfl
theorem aeO(N m M n:Nat)(F:Nat->Int)(t:Tail)(i:Int):LS2 N (m+1) M n F t i 0=LS0 N M n F t (IntKind.i64.wrap (i+1)):=(acZ N m M n F t i 0).trans rfl
def ZP(t:Tail)(l:List Int):Prop:=∀ a ∈ l,0<=a/\a<t.log.length
def IU(t:Tail)(a b:Int):Bool:=decide (QX t a b<0)
theorem aeP(A B:List Int)(a x:Int):tK (fun i=>(A++a::x::B).getD i 0) A.length=fun i=>(A++x::a::B).getD i 0:=by
 funext i
 unfold tK
 have g:∀ (u v:Int) (i:Nat),(A++u::v::B).getD i 0=if i<A.length then A.getD i 0 else if i=A.length then u else if i=A.length+1 then v else B.getD (i - A.length - 2) 0:=by
  intro u v i
  simp only[List.getD]
  by_cases h:i<A.length
  ·rw[if_pos h,List.getElem?_append_left h]
  ·rw[if_neg h,List.getElem?_append_right (by omega)]
   by_cases h1:i=A.length
   ·rw[if_pos h1,h1,Nat.sub_self];rfl
   ·rw[if_neg h1]
    by_cases h2:i=A.length+1
    ·rw[if_pos h2,h2,show A.length+1 - A.length=1 by omega];rfl
    ·rw[if_neg h2,show i - A.length=(i - A.length - 2)+2 by omega];rfl
 dsimp only
 rw[g,g,g,g]
 by_cases h1:i=A.length
 ·rw[AM.beq_true h1];simp[h1];intro h;omega
 ·rw[AM.beq_false h1,cond_false]
  by_cases h2:i=A.length+1
  ·rw[AM.beq_true h2];simp[h2];intro h;omega
  ·rw[AM.beq_false h2,cond_false,if_neg h1,if_neg h2,if_neg h1,if_neg h2]
theorem aeQ{t:Tail}(hv:VT t)(N M:Nat)(i:Int):∀ (A:List Int) (x:Int) (B:List Int) (m:Nat),A.length<m->A.length+B.length<100000->ZP t A->ZP t [x] ->
  LS2 N m M (A.length+1+B.length) (fun i=>(A.reverse++x::B).getD i 0) t i (A.length:Nat)=LS0 N M (A.length+1+B.length) (fun i=>(insR (IU t) A x B).getD i 0) t (IntKind.i64.wrap (i+1)):=by
 intro A
 induction A with
 | nil=>
  intro x B m hm _ _ _
  obtain⟨m,rfl⟩:∃ k,m=k+1:=⟨m - 1,by simp at hm;omega⟩
  exact aeO N m M _ _ t i
 | cons a A ih=>
  intro x B m hm hn hA hx
  obtain⟨m,rfl⟩:∃ k,m=k+1:=⟨m - 1,by omega⟩
  rw[List.length_cons]at hm hn ⊢
  have ea:((a::A).reverse++x::B).getD A.length 0=a:=by
   simp only[List.getD]
   rw[List.reverse_cons,List.append_assoc,List.getElem?_append_right (by simp),List.length_reverse,Nat.sub_self];rfl
  have ex:((a::A).reverse++x::B).getD (A.length+1) 0=x:=by
   simp only[List.getD]
   rw[List.getElem?_append_right (by simp),List.length_reverse,List.length_cons,Nat.sub_self];rfl
  have pa:=hA a (by simp)
  have px:=hx x (by simp)
  rw[aeN N m M _ _ t i (k:=A.length) (by omega) (by omega) (by rw[ea,ex];exact⟨hv,px.1,px.2,pa.1,pa.2⟩),ea,ex]
  unfold insR
  show(bif IU t x a then _ else _)=_
  cases hc:IU t x a with
  | false=>rfl
  | true=>
   rw[cond_true,cond_true,List.reverse_cons,List.append_assoc]
   have:=aeP A.reverse B a x
   rw[List.length_reverse]at this
   rw[show [a]++x::B=a::x::B from rfl,this]
   have e:=ih x (a::B) m (by omega) (by rw[List.length_cons];omega) (fun y hy=>hA y (by simp[hy])) hx
   rw[List.length_cons,show A.length+1+(B.length+1)=A.length+1+1+B.length by omega]at e
   exact e
theorem ZQ{X:Type}(c:X->X->Bool)(P:List X)(x:X):(PA c P x).length=P.length+1:=(NC c P x).length_eq
theorem aeR{t:Tail}(hv:VT t)(N:Nat):∀ (R P:List Int) (m:Nat),R.length<m->P.length+R.length<N->N<=100000->ZP t (P++R) ->
  LS0 N m (P.length+R.length) (fun i=>(P++R).getD i 0) t (P.length:Nat)=some (.tup [],Bc 1 eI 0 (R.foldl (PA (IU t)) P)::hS t):=by
 intro R
 induction R with
 | nil=>
  intro P m hm _ _ _
  obtain⟨m,rfl⟩:∃ k,m=k+1:=⟨m - 1,by simp at hm;omega⟩
  rw[List.append_nil]
  refine(mG N m _ _ t _).trans ?_
  rw[decide_eq_false (by simp)]
  rfl
 | cons x R ih=>
  intro P m hm hn hN hP
  obtain⟨m,rfl⟩:∃ k,m=k+1:=⟨m - 1,by omega⟩
  rw[List.length_cons]at hm hn ⊢
  have e:=mG N m (P.length+(R.length+1)) (fun i=>(P++x::R).getD i 0) t (P.length:Nat)
  rw[decide_eq_true (by omega),cond_true]at e
  refine e.trans ?_
  have e2:=aeQ hv N m (P.length:Nat) P.reverse x R N (by simp;omega) (by simp;omega) (fun a ha=>hP a (by simp at ha ⊢;exact Or.inl ha)) (fun a ha=>hP a (by simp at ha ⊢;exact Or.inr (Or.inl ha)))
  rw[List.length_reverse,List.reverse_reverse,show P.length+1+R.length=P.length+(R.length+1) by omega,Bz (by omega),Th]at e2
  refine e2.trans ?_
  have e3:=ih (PA (IU t) P x) m (by omega) (by rw[ZQ];omega) hN (fun a ha=>?_)
  ·rw[ZQ,show P.length+1+R.length=P.length+(R.length+1) by omega]at e3
   exact e3
  ·rcases List.mem_append.1 ha with ha | ha
   ·have:=(NC (IU t) P x).mem_iff.1 ha
    rcases List.mem_cons.1 this with rfl | h
    ·exact hP _ (by simp)
    ·exact hP _ (by simp[h])
   ·exact hP _ (by simp[ha])
abbrev LT:=List Int × Tail
def Kh(p:LT):List AV × Heap:=([.sn 1 0 p.1.length,.int .i64 0,.int .i64 p.1.length,fS],Bc 1 eI 0 p.1::hS p.2)
def eLV(p:LT):List AV × Heap:=([.sn 1 0 p.1.length,fS],Bc 1 eI 0 p.1::hS p.2)
def Ki(_:List AV)(h:Heap):LT:=(Iu (fun c=>Ar c 0) (Ab h 0),El (OA (Ab h 1)))
theorem ahJ(a:List AV)(p:LT):Ki a (Kh p).2=p:=Prod.ext (He (sz:=1) (e:=eI) (z:=0) (d:=fun c=>Ar c 0) (fun _=>rfl) p.1) (D9 p.2)
def JM(p:LT):Prop:=p.1.length<=12/\VT p.2/\ZP p.2 p.1
def HW(p:LT):AV × Heap:=(.tup [],Bc 1 eI 0 (Kg (IU p.2) p.1)::hS p.2)
theorem aeS(p:LT)(h:JM p):Aa PG Av (Kh p).1 (Kh p).2 (HW p).1 (HW p).2/\(Kh p).2.length<=(HW p).2.length:=by
 obtain⟨h1,h2,h3⟩:=h
 refine conC (ak kC1_ok AL) (c:=2) (n:=100+1) (Nat.le_refl 2) ((aj6 100 p.1.length (fun i=>p.1.getD i 0) p.2).trans ?_)
 match hp:p.1,h1,h3 with
 | [],_,_=>
  refine(mG 100 99 0 _ p.2 1).trans ?_
  rw[decide_eq_false (by omega)]
  unfold HW
  rw[hp];rfl
 | x::R,h1,h3=>
  have:=aeR h2 100 R [x] 100 (by simp at h1;omega) (by simp at h1 ⊢;omega) (by omega) h3
  unfold HW
  rw[hp]
  rw[List.length_singleton,Nat.add_comm]at this
  exact this
def Jy:Known:=.specG Av Ki JM Kh HW
theorem aeT:Jy.Ok PG:=Known.specG_ok aeS
end Go.Hd
end
noncomputable section
open Go Go.AM Go.Md
namespace Go.Hd
open Go.Wk
set_option maxRecDepth 100000
set_option maxHeartbeats 4000000
theorem alH(F:Nat->Int)(t:Tail):BA 2 (G1 [Jy]) 30 AY [AV.sn 1 0 0,fS] ((BS.seq true 1 0 fun i=>eI (F i))::hS t)=BF Ki JM Kh [.sn 1 0 0,.int .i64 0,.int .i64 (0:Nat),fS] ((BS.seq true 1 0 fun i=>eI (F i))::hS t) fun y=>some (HW y):=by kernel_rfl
theorem alI(F:Nat->Int)(t:Tail):BA 2 (G1 [Jy]) 30 AY [AV.sn 1 0 1,fS] ((BS.seq true 1 1 fun i=>eI (F i))::hS t)=BF Ki JM Kh [.sn 1 0 1,.int .i64 0,.int .i64 (1:Nat),fS] ((BS.seq true 1 1 fun i=>eI (F i))::hS t) fun y=>some (HW y):=by kernel_rfl
theorem alJ(F:Nat->Int)(t:Tail):BA 2 (G1 [Jy]) 30 AY [AV.sn 1 0 2,fS] ((BS.seq true 1 2 fun i=>eI (F i))::hS t)=BF Ki JM Kh [.sn 1 0 2,.int .i64 0,.int .i64 (2:Nat),fS] ((BS.seq true 1 2 fun i=>eI (F i))::hS t) fun y=>some (HW y):=by kernel_rfl
theorem alK(F:Nat->Int)(t:Tail):BA 2 (G1 [Jy]) 30 AY [AV.sn 1 0 3,fS] ((BS.seq true 1 3 fun i=>eI (F i))::hS t)=BF Ki JM Kh [.sn 1 0 3,.int .i64 0,.int .i64 (3:Nat),fS] ((BS.seq true 1 3 fun i=>eI (F i))::hS t) fun y=>some (HW y):=by kernel_rfl
theorem alL(F:Nat->Int)(t:Tail):BA 2 (G1 [Jy]) 30 AY [AV.sn 1 0 4,fS] ((BS.seq true 1 4 fun i=>eI (F i))::hS t)=BF Ki JM Kh [.sn 1 0 4,.int .i64 0,.int .i64 (4:Nat),fS] ((BS.seq true 1 4 fun i=>eI (F i))::hS t) fun y=>some (HW y):=by kernel_rfl
theorem alM(F:Nat->Int)(t:Tail):BA 2 (G1 [Jy]) 30 AY [AV.sn 1 0 5,fS] ((BS.seq true 1 5 fun i=>eI (F i))::hS t)=BF Ki JM Kh [.sn 1 0 5,.int .i64 0,.int .i64 (5:Nat),fS] ((BS.seq true 1 5 fun i=>eI (F i))::hS t) fun y=>some (HW y):=by kernel_rfl
theorem alN(F:Nat->Int)(t:Tail):BA 2 (G1 [Jy]) 30 AY [AV.sn 1 0 6,fS] ((BS.seq true 1 6 fun i=>eI (F i))::hS t)=BF Ki JM Kh [.sn 1 0 6,.int .i64 0,.int .i64 (6:Nat),fS] ((BS.seq true 1 6 fun i=>eI (F i))::hS t) fun y=>some (HW y):=by kernel_rfl
theorem alO(F:Nat->Int)(t:Tail):BA 2 (G1 [Jy]) 30 AY [AV.sn 1 0 7,fS] ((BS.seq true 1 7 fun i=>eI (F i))::hS t)=BF Ki JM Kh [.sn 1 0 7,.int .i64 0,.int .i64 (7:Nat),fS] ((BS.seq true 1 7 fun i=>eI (F i))::hS t) fun y=>some (HW y):=by kernel_rfl
theorem alP(F:Nat->Int)(t:Tail):BA 2 (G1 [Jy]) 30 AY [AV.sn 1 0 8,fS] ((BS.seq true 1 8 fun i=>eI (F i))::hS t)=BF Ki JM Kh [.sn 1 0 8,.int .i64 0,.int .i64 (8:Nat),fS] ((BS.seq true 1 8 fun i=>eI (F i))::hS t) fun y=>some (HW y):=by kernel_rfl
theorem alQ(F:Nat->Int)(t:Tail):BA 2 (G1 [Jy]) 30 AY [AV.sn 1 0 9,fS] ((BS.seq true 1 9 fun i=>eI (F i))::hS t)=BF Ki JM Kh [.sn 1 0 9,.int .i64 0,.int .i64 (9:Nat),fS] ((BS.seq true 1 9 fun i=>eI (F i))::hS t) fun y=>some (HW y):=by kernel_rfl
theorem aj7(F:Nat->Int)(t:Tail):BA 2 (G1 [Jy]) 30 AY [AV.sn 1 0 10,fS] ((BS.seq true 1 10 fun i=>eI (F i))::hS t)=BF Ki JM Kh [.sn 1 0 10,.int .i64 0,.int .i64 (10:Nat),fS] ((BS.seq true 1 10 fun i=>eI (F i))::hS t) fun y=>some (HW y):=by kernel_rfl
theorem aj8(F:Nat->Int)(t:Tail):BA 2 (G1 [Jy]) 30 AY [AV.sn 1 0 11,fS] ((BS.seq true 1 11 fun i=>eI (F i))::hS t)=BF Ki JM Kh [.sn 1 0 11,.int .i64 0,.int .i64 (11:Nat),fS] ((BS.seq true 1 11 fun i=>eI (F i))::hS t) fun y=>some (HW y):=by kernel_rfl
theorem aj9(F:Nat->Int)(t:Tail):BA 2 (G1 [Jy]) 30 AY [AV.sn 1 0 12,fS] ((BS.seq true 1 12 fun i=>eI (F i))::hS t)=BF Ki JM Kh [.sn 1 0 12,.int .i64 0,.int .i64 (12:Nat),fS] ((BS.seq true 1 12 fun i=>eI (F i))::hS t) fun y=>some (HW y):=by kernel_rfl
theorem ahK:∀ n,n<=12 -> ∀ (F:Nat->Int) (t:Tail),BA 2 (G1 [Jy]) 30 AY [AV.sn 1 0 n,fS] ((BS.seq true 1 n fun i=>eI (F i))::hS t)=BF Ki JM Kh [.sn 1 0 n,.int .i64 0,.int .i64 n,fS] ((BS.seq true 1 n fun i=>eI (F i))::hS t) fun y=>some (HW y)
 | 0,_=>alH
 | 1,_=>alI
 | 2,_=>alJ
 | 3,_=>alK
 | 4,_=>alL
 | 5,_=>alM
 | 6,_=>alN
 | 7,_=>alO
 | 8,_=>alP
 | 9,_=>alQ
 | 10,_=>aj7
 | 11,_=>aj8
 | 12,_=>aj9
 | n+13,h=>absurd h (by omega)
theorem aaK(p:LT)(h:JM p):Aa PG AY (eLV p).1 (eLV p).2 (HW p).1 (HW p).2/\(eLV p).2.length<=(HW p).2.length:=by
 refine conC (ak aeT AL) (c:=2) (n:=30) (Nat.le_refl 2) ((ahK p.1.length h.1 (fun i=>p.1.getD i 0) p.2).trans ?_)
 exact BT p (ahJ _ p) h (.refl _) (.refl _)
def ac0:Known:=.specG AY Ki JM eLV HW
theorem aaL:ac0.Ok PG:=Known.specG_ok aaK
end Go.Hd
end
