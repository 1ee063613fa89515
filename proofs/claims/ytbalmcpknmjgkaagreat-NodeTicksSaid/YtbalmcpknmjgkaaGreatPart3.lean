/- Part 3 of the texts that the proof needs: the abstract machine, plain laws, contracts of the program's functions. No statement is claimed here. -/
import Derived.Test.YtbalmcpknmjgkaaGreatPart2
import GoSem.Core.Float
import Derived.Test.YtbalmcpknmjgkaaGreatProg
import Derived.KernelRfl
set_option linter.unusedVariables false
set_option linter.unusedSimpArgs false
noncomputable section
namespace Go.Fl
open Ieee
def fl(n:Nat):Nat:=double.nearest false n 0
theorem log2_mul_pow{n:Nat}(h:n ≠ 0)(s:Nat):(n*2 ^ s).log2=n.log2+s:=by
 have h1:=(Nat.le_log2 h).1 (Nat.le_refl _)
 have h2:n<2 ^ (n.log2+1):=Nat.lt_log2_self
 have hne:n*2 ^ s ≠ 0:=Nat.mul_ne_zero h (by simp)
 apply Nat.le_antisymm
 ·refine Nat.lt_succ_iff.1 ((Nat.log2_lt hne).2 ?_)
  calc n*2 ^ s<2 ^ (n.log2+1)*2 ^ s:=Nat.mul_lt_mul_of_pos_right h2 (Nat.two_pow_pos s)
   _=2 ^ (n.log2+s+1):=by rw[<- Nat.pow_add];congr 1;omega
 ·refine(Nat.le_log2 hne).2 ?_
  rw[Nat.pow_add];exact Nat.mul_le_mul_right _ h1
theorem cut_even(n d:Nat):Toward.even.cut false (n*2 ^ d) d=n:=by
 unfold Toward.cut
 by_cases h:n=0
 ·subst h;simp
 ·have hm:min d ((n*2 ^ d).log2+2)=d:=by rw[log2_mul_pow h];omega
  simp only[hm,Nat.one_shiftLeft]
  have h1:n*2 ^ d / 2 ^ d=n:=Nat.mul_div_cancel _ (Nat.two_pow_pos d)
  have h2:n*2 ^ d % 2 ^ d=0:=Nat.mul_mod_left n (2 ^ d)
  rw[h1,h2]
  have:(2 ^ d == 0)=false:=by simp
  simp[this]
theorem cut_zero(n d:Nat):Toward.zero.cut false (n*2 ^ d) d=n:=by
 unfold Toward.cut
 by_cases h:n=0
 ·subst h;simp
 ·have hm:min d ((n*2 ^ d).log2+2)=d:=by rw[log2_mul_pow h];omega
  simp only[hm,Nat.one_shiftLeft]
  rw[Nat.mul_div_cancel _ (Nat.two_pow_pos d)]
  simp
theorem log2_lt53{n:Nat}(h:n ≠ 0)(hn:n<2 ^ 53):n.log2<=52:=by
 have:=(Nat.log2_lt h).2 hn
 omega
theorem nearest_up{n:Nat}(h:n ≠ 0)(hn:n<2 ^ 53){u:Nat}(hu:u<=1074) :
  double.nearest false (n*2 ^ u) (-(u:Int))=(n.log2+1022)*2 ^ 52+n*2 ^ (52 - n.log2):=by
 have hl:=log2_lt53 h hn
 unfold Format.nearest
 have hne:n*2 ^ u ≠ 0:=Nat.mul_ne_zero h (by simp)
 have hlp:double.leastPlace = -1074:=by decide
 have hfb:double.fractionBits=52:=rfl
 have hbi:double.binade=2 ^ 52:=rfl
 rw[if_neg hne,log2_mul_pow h,hlp,hfb,hbi]
 have hlast:max (-(u:Int)+((n.log2+u:Nat):Int) - (52:Nat)) (-1074)=(n.log2:Int) - 52:=by omega
 simp only[hlast]
 have hk:Toward.even.cut false ((n*2 ^ u) <<< (-(u:Int) - ((n.log2:Int) - 52)).toNat) ((n.log2:Int) - 52 - -(u:Int)).toNat=n*2 ^ (52 - n.log2):=by
  rcases Nat.le_total u (52 - n.log2)with hc | hc
  ·have e1:(-(u:Int) - ((n.log2:Int) - 52)).toNat=52 - n.log2 - u:=by omega
   have e2:((n.log2:Int) - 52 - -(u:Int)).toNat=0:=by omega
   rw[e1,e2,Nat.shiftLeft_eq,Nat.mul_assoc,<- Nat.pow_add,show u+(52 - n.log2 - u)=52 - n.log2 by omega]
   have:=cut_even (n*2 ^ (52 - n.log2)) 0
   simpa using this
  ·have e1:(-(u:Int) - ((n.log2:Int) - 52)).toNat=0:=by omega
   have e2:((n.log2:Int) - 52 - -(u:Int)).toNat=u - (52 - n.log2):=by omega
   rw[e1,e2]
   have e3:(n*2 ^ u) <<< 0=n*2 ^ (52 - n.log2)*2 ^ (u - (52 - n.log2)):=by
    rw[Nat.shiftLeft_zero,Nat.mul_assoc,<- Nat.pow_add,show 52 - n.log2+(u - (52 - n.log2))=u by omega]
   rw[e3,cut_even]
 rw[hk]
 have e4:((n.log2:Int) - 52 - -1074).toNat=n.log2+1022:=by omega
 rw[e4]
 have hinf:double.infRung=2047*2 ^ 52:=by decide
 rw[hinf]
 have hlt:n*2 ^ (52 - n.log2)<2 ^ 53:=by
  calc n*2 ^ (52 - n.log2)<2 ^ (n.log2+1)*2 ^ (52 - n.log2):=Nat.mul_lt_mul_of_pos_right Nat.lt_log2_self (Nat.two_pow_pos _)
   _=2 ^ 53:=by rw[<- Nat.pow_add];congr 1;omega
 have:(n.log2+1022)*2 ^ 52+n*2 ^ (52 - n.log2)<=2047*2 ^ 52:=by omega
 rw[Nat.min_eq_left this]
 rfl
theorem nearest_zero(u:Int):double.nearest false 0 u=0:=by simp[Format.nearest,Format.word]
theorem nearest_fl{n:Nat}(hn:n<2 ^ 53){u:Nat}(hu:u<=1074):double.nearest false (n*2 ^ u) (-(u:Int))=fl n:=by
 by_cases h:n=0
 ·subst h;simp[fl,nearest_zero]
 ·rw[nearest_up h hn hu]
  have:=nearest_up h hn (u:=0) (by omega)
  simp at this
  exact this.symm
set_option maxRecDepth 100000 in
theorem read_fl{n:Nat}(hn:n<2 ^ 53):∃ s:Nat,s<=1074/\double.read (fl n)=.number false (n*2 ^ s) (-(s:Int)):=by
 have hlp:double.leastPlace = -1074:=by decide
 have hbi:double.binade=2 ^ 52:=rfl
 have hsw:double.signWeight=2 ^ 63:=rfl
 have hinf:double.infRung=2047*2 ^ 52:=by decide
 by_cases h:n=0
 ·subst h
  have h0:∀ s:Nat,s=1074->double.read (fl 0)=.number false (0*2 ^ s) (-(s:Int)):=by
   intro s hs
   rw[Nat.zero_mul]
   simp[fl,nearest_zero,Format.read,hlp,hbi,hsw,hs]
  obtain⟨s,hs⟩:∃ s:Nat,s=1074:=⟨_,rfl⟩
  exact⟨s,by rw[hs];exact Nat.le_refl _,h0 s hs⟩
 ·have hl:=log2_lt53 h hn
  refine⟨52 - n.log2,by omega,?_⟩
  have hw:fl n=(n.log2+1022)*2 ^ 52+n*2 ^ (52 - n.log2):=by
   have:=nearest_up h hn (u:=0) (by omega)
   simp at this
   exact this
  rw[hw]
  have hlt:n*2 ^ (52 - n.log2)<2 ^ 53:=by
   calc n*2 ^ (52 - n.log2)<2 ^ (n.log2+1)*2 ^ (52 - n.log2):=Nat.mul_lt_mul_of_pos_right Nat.lt_log2_self (Nat.two_pow_pos _)
    _=2 ^ 53:=by rw[<- Nat.pow_add];congr 1;omega
  have hge:2 ^ 52<=n*2 ^ (52 - n.log2):=by
   calc 2 ^ 52=2 ^ n.log2*2 ^ (52 - n.log2):=by rw[<- Nat.pow_add];congr 1;omega
    _<=n*2 ^ (52 - n.log2):=Nat.mul_le_mul_right _ ((Nat.le_log2 h).1 (Nat.le_refl _))
  generalize n*2 ^ (52 - n.log2)=M at hlt hge ⊢
  generalize n.log2=L at hl ⊢
  have p52:(2:Nat) ^ 52=4503599627370496:=by decide
  have p53:(2:Nat) ^ 53=9007199254740992:=by decide
  have p63:(2:Nat) ^ 63=9223372036854775808:=by decide
  rw[p53]at hlt
  rw[p52]at hge
  obtain⟨r,rfl⟩:∃ r,M=4503599627370496+r:=⟨M - 4503599627370496,by omega⟩
  have hr:r<4503599627370496:=by omega
  unfold Format.read
  simp only[hsw,hbi,hinf,hlp,p52,p63]
  have e1:((L+1022)*4503599627370496+(4503599627370496+r)) / 9223372036854775808 % 2=0:=by
   rw[Nat.div_eq_of_lt (by omega)]
  have e2:((L+1022)*4503599627370496+(4503599627370496+r)) % 9223372036854775808=(L+1022)*4503599627370496+(4503599627370496+r):=Nat.mod_eq_of_lt (by omega)
  rw[e1,e2,if_neg (by omega),if_pos (by omega)]
  have e3:((L+1022)*4503599627370496+(4503599627370496+r)) % 4503599627370496=r:=by omega
  have e4:((L+1022)*4503599627370496+(4503599627370496+r)) / 4503599627370496=L+1023:=by omega
  rw[e3,e4]
  congr 1
  omega
theorem signed_up{n s t:Nat}:signed false (n*2 ^ s) (-(s:Int) - min (-(s:Int)) (-(t:Int))).toNat=(n*2 ^ max s t:Nat):=by
 unfold signed
 simp only[Bool.false_eq_true,if_false,Nat.shiftLeft_eq]
 congr 1
 rw[Nat.mul_assoc,<- Nat.pow_add]
 congr 2
 omega
theorem signed_up'{n s t:Nat}:signed false (n*2 ^ t) (-(t:Int) - min (-(s:Int)) (-(t:Int))).toNat=(n*2 ^ max s t:Nat):=by
 unfold signed
 simp only[Bool.false_eq_true,if_false,Nat.shiftLeft_eq]
 congr 1
 rw[Nat.mul_assoc,<- Nat.pow_add]
 congr 2
 omega
theorem order_fl{n m:Nat}(hn:n<2 ^ 53)(hm:m<2 ^ 53):double.order (fl n) (fl m)=some (compare n m):=by
 obtain⟨s,_,e1⟩:=read_fl hn
 obtain⟨t,_,e2⟩:=read_fl hm
 unfold Format.order
 rw[e1,e2]
 unfold Datum.order
 simp only[signed_up,signed_up']
 have hp:0<2 ^ max s t:=Nat.two_pow_pos _
 congr 1
 rcases Nat.lt_trichotomy n m with h | h | h
 ·have:n*2 ^ max s t<m*2 ^ max s t:=Nat.mul_lt_mul_of_pos_right h hp
  rw[Nat.compare_eq_lt.2 h,Int.compare_eq_lt.2 (by exact_mod_cast this)]
 ·subst h;rw[Nat.compare_eq_eq.2 rfl,Int.compare_eq_eq.2 rfl]
 ·have:m*2 ^ max s t<n*2 ^ max s t:=Nat.mul_lt_mul_of_pos_right h hp
  rw[Nat.compare_eq_gt.2 h,Int.compare_eq_gt.2 (by exact_mod_cast this)]
theorem toInt_fl{n:Nat}(hn:n<2 ^ 53):(double.read (fl n)).toInt .zero=some n:=by
 obtain⟨s,_,e1⟩:=read_fl hn
 rw[e1]
 unfold Datum.toInt Datum.integral
 simp only
 have e2:(-(s:Int)).toNat=0:=by omega
 have e3:(- -(s:Int)).toNat=s:=by omega
 rw[e2,e3,Nat.shiftLeft_zero,cut_zero]
 simp[signed]
theorem add_fl{n m:Nat}(h:n+m<2 ^ 53):double.add (fl n) (fl m)=some (fl (n+m)):=by
 obtain⟨s,hs,e1⟩:=read_fl (n:=n) (by omega)
 obtain⟨t,ht,e2⟩:=read_fl (n:=m) (by omega)
 unfold Format.add
 rw[e1,e2]
 unfold Datum.sum
 simp only[signed_up,signed_up',Option.map_some]
 unfold Format.write
 have hsum:((n*2 ^ max s t:Nat):Int)+((m*2 ^ max s t:Nat):Int)=(((n+m)*2 ^ max s t:Nat):Int):=by rw[Nat.add_mul];simp
 have hb:min (-(s:Int)) (-(t:Int)) = -((max s t:Nat):Int):=by omega
 rw[hsum,hb]
 have hneg:(if(((n+m)*2 ^ max s t:Nat):Int)=0 then false&&false else decide ((((n+m)*2 ^ max s t:Nat):Int)<0))=false:=by
  split
  ·rfl
  ·rw[decide_eq_false (by omega)]
 rw[hneg,Int.natAbs_natCast]
 show some (double.nearest false ((n+m)*2 ^ max s t) (-((max s t:Nat):Int)))=_
 rw[nearest_fl h (by omega)]
end Go.Fl
end
noncomputable section
open Go Go.AM Go.Md Go.Fl
open Ieee (double)
namespace Go.Wk
set_option maxRecDepth 100000
set_option maxHeartbeats 1000000
def LB:Nat:=1000000
def I64(n:Int):Prop:=-9223372036854775808<=n/\n<=9223372036854775807
def fI(b:Nat):Option Int:=(FloatKind.f64.decode b).toInt .zero
def vE(v:Ver):Int:=(fI v.re).getD 0
def vN(v:Ver):Int:=(fI v.im).getD 0
def okI(b:Nat):Prop:=(fI b).isSome=true/\IntKind.i64.min<=(fI b).getD 0/\(fI b).getD 0<=IntKind.i64.max
def VInt(v:Ver):Prop:=okI v.re/\okI v.im
theorem okI64{b:Nat}(h:okI b):I64 ((fI b).getD 0):=by
 obtain⟨_,h1,h2⟩:=h
 have e1:IntKind.i64.min = -9223372036854775808:=by decide
 have e2:IntKind.i64.max=9223372036854775807:=by decide
 rw[e1]at h1;rw[e2]at h2
 exact⟨h1,h2⟩
def eV(v:Ver):AV:=.cplx .f64 v.re v.im
def vr(e n:Nat):Ver:=⟨fl e,fl n⟩
theorem fEq_fl{n m:Nat}(hn:n<2 ^ 53)(hm:m<2 ^ 53):fEq .f64 (fl n) (fl m)=decide (n=m):=by
 have:FloatKind.f64.format.order (fl n) (fl m)=some (compare n m):=order_fl hn hm
 unfold fEq;rw[this]
 rcases Nat.lt_trichotomy n m with h | h | h
 ·rw[Nat.compare_eq_lt.2 h,decide_eq_false (by omega)];rfl
 ·rw[Nat.compare_eq_eq.2 h,decide_eq_true h];rfl
 ·rw[Nat.compare_eq_gt.2 h,decide_eq_false (by omega)];rfl
theorem fLt_fl{n m:Nat}(hn:n<2 ^ 53)(hm:m<2 ^ 53):fLt .f64 (fl n) (fl m)=decide (n<m):=by
 have:FloatKind.f64.format.order (fl n) (fl m)=some (compare n m):=order_fl hn hm
 unfold fLt;rw[this]
 rcases Nat.lt_trichotomy n m with h | h | h
 ·rw[Nat.compare_eq_lt.2 h,decide_eq_true h];rfl
 ·rw[Nat.compare_eq_eq.2 h,decide_eq_false (by omega)];rfl
 ·rw[Nat.compare_eq_gt.2 h,decide_eq_false (by omega)];rfl
theorem fI_fl{n:Nat}(hn:n<2 ^ 53):fI (fl n)=some (n:Int):=toInt_fl hn
theorem okI_fl{n:Nat}(hn:n<2 ^ 53):okI (fl n):=by
 unfold okI;rw[fI_fl hn]
 have e1:IntKind.i64.min = -9223372036854775808:=by decide
 have e2:IntKind.i64.max=9223372036854775807:=by decide
 rw[e1,e2]
 refine⟨rfl,?_,?_⟩ <;> simp only[Option.getD_some] <;> omega
theorem near_fl(n:Nat):FloatKind.f64.nearest (n:Int)=fl n:=by
 show double.nearest (decide ((n:Int)<0)) (n:Int).natAbs 0=fl n
 rw[decide_eq_false (by omega),Int.natAbs_natCast];rfl
theorem one_fl:fl 1=4607182418800017408:=by decide
theorem next_fl{n:Nat}(h:n+1<2 ^ 53):FloatKind.f64.format.add (fl n) 4607182418800017408=some (fl (n+1)):=by
 rw[<- one_fl];exact add_fl h
def VNum(v:Ver):Prop:=∃ e n:Nat,e<2 ^ 40/\n<2 ^ 40/\v=vr e n
theorem VNum.int{v:Ver}(h:VNum v):VInt v:=by
 obtain⟨e,n,he,hn,rfl⟩:=h
 exact⟨okI_fl (by omega),okI_fl (by omega)⟩
def ep(v:Ver):Nat:=(vE v).toNat
def nu(v:Ver):Nat:=(vN v).toNat
theorem ep_vr{e n:Nat}(h:e<2 ^ 40):ep (vr e n)=e:=by
 show((fI (fl e)).getD 0).toNat=e;rw[fI_fl (by omega)];rfl
theorem nu_vr{e n:Nat}(h:n<2 ^ 40):nu (vr e n)=n:=by
 show((fI (fl n)).getD 0).toNat=n;rw[fI_fl (by omega)];rfl
theorem VNum.eta{v:Ver}(h:VNum v):v=vr (ep v) (nu v):=by
 obtain⟨e,n,he,hn,rfl⟩:=h
 rw[ep_vr he,nu_vr hn]
theorem VNum.lt{v:Ver}(h:VNum v):ep v<2 ^ 40/\nu v<2 ^ 40:=by
 obtain⟨e,n,he,hn,rfl⟩:=h
 rw[ep_vr he,nu_vr hn];exact⟨he,hn⟩
def vlt(a b:Ver):Bool:=bif decide (ep a=ep b)then decide (nu a<nu b)else decide (ep a<ep b)
def vmax(a b:Ver):Ver:=bif vlt a b then b else a
theorem vmax_comm_of{a b:Ver}(ha:VNum a)(hb:VNum b)(h:vlt a b=false)(h':vlt b a=false):a=b:=by
 rw[ha.eta,hb.eta]
 unfold vlt at h h'
 by_cases e:ep a=ep b
 ·rw[decide_eq_true e,cond_true]at h
  rw[decide_eq_true e.symm,cond_true]at h'
  have h1:=of_decide_eq_false h
  have h2:=of_decide_eq_false h'
  have:nu a=nu b:=by omega
  rw[e,this]
 ·rw[decide_eq_false e,cond_false]at h
  rw[decide_eq_false fun x=>e x.symm,cond_false]at h'
  have h1:=of_decide_eq_false h
  have h2:=of_decide_eq_false h'
  omega
theorem vlt_vr{e n f m:Nat}(he:e<2 ^ 40)(hn:n<2 ^ 40)(hf:f<2 ^ 40)(hm:m<2 ^ 40):vlt (vr e n) (vr f m)=bif decide (e=f)then decide (n<m)else decide (e<f):=by
 unfold vlt;rw[ep_vr he,ep_vr hf,nu_vr hn,nu_vr hm]
theorem bif_some{X:Type}(c:Bool)(a b:X):(bif c then some a else some b)=some (bif c then a else b):=by cases c <;> rfl
theorem bif_not{X:Type}(c:Bool)(a b:X):(bif !c then a else b)=bif c then b else a:=by cases c <;> rfl
theorem fvlt{a b:Ver}(ha:VNum a)(hb:VNum b):(bif fEq .f64 a.re b.re then fLt .f64 a.im b.im else fLt .f64 a.re b.re)=vlt a b:=by
 obtain⟨e,n,he,hn,rfl⟩:=ha
 obtain⟨f,m,hf,hm,rfl⟩:=hb
 rw[vlt_vr he hn hf hm]
 show(bif fEq .f64 (fl e) (fl f)then fLt .f64 (fl n) (fl m)else fLt .f64 (fl e) (fl f))=_
 rw[fEq_fl (by omega) (by omega),fLt_fl (by omega) (by omega),fLt_fl (by omega) (by omega)]
theorem vmax_swap{a b:Ver}(ha:VNum a)(hb:VNum b):(bif vlt b a then a else b)=vmax a b:=by
 unfold vmax
 by_cases h:vlt b a=true
 ·have:vlt a b=false:=by
   unfold vlt at h ⊢
   by_cases e:ep a=ep b
   ·rw[decide_eq_true e.symm,cond_true]at h
    rw[decide_eq_true e,cond_true]
    have:=of_decide_eq_true h
    exact decide_eq_false (by omega)
   ·rw[decide_eq_false fun x=>e x.symm,cond_false]at h
    rw[decide_eq_false e,cond_false]
    have:=of_decide_eq_true h
    exact decide_eq_false (by omega)
  rw[h,this];rfl
 ·have h:=Bool.eq_false_iff.2 h
  rw[h,cond_false]
  by_cases h':vlt a b=true
  ·rw[h'];rfl
  ·have h':=Bool.eq_false_iff.2 h'
   rw[h',cond_false];exact(vmax_comm_of ha hb h' h).symm
theorem vE_ep{v:Ver}(h:VNum v):vE v=(ep v:Int):=by
 obtain⟨e,n,he,hn,rfl⟩:=h
 rw[ep_vr he];show(fI (fl e)).getD 0=_;rw[fI_fl (by omega)];rfl
theorem vN_nu{v:Ver}(h:VNum v):vN v=(nu v:Int):=by
 obtain⟨e,n,he,hn,rfl⟩:=h
 rw[nu_vr hn];show(fI (fl n)).getD 0=_;rw[fI_fl (by omega)];rfl
theorem dec_int(a b:Nat):decide ((a:Int)=(b:Int))=decide (a=b):=by
 by_cases h:a=b
 ·rw[h];simp
 ·rw[decide_eq_false h,decide_eq_false (by omega)]
theorem dec_ilt(a b:Nat):decide ((a:Int)<(b:Int))=decide (a<b):=by simp
end Go.Wk
end
noncomputable section
open Go Go.AM Go.Md Go.Fl
namespace Go.Wk
def idxFrom(m:Member):List Member->Nat->Int
 | [],_=>-1
 | x::r,i=>if x=m then i else idxFrom m r (i+1)
def idx(l:List Member)(m:Member):Int:=idxFrom m l 0
def liveP(r:Rep):Bool:=!decide (r.view.phase=0)&&decide (r.frozen<=r.view.epoch)
def worksP(r:Rep):Bool:=liveP r&&decide (r.view.phase=3)
def syncsP(r:Rep):Bool:=liveP r&&decide (r.view.phase=2)
def isFirst:List Member->Member->Bool
 | [],_=>false
 | x::_,m=>decide (x=m)
def headP(r:Rep):Bool:=worksP r&&isFirst r.view.chain r.self
def commitP(r:Rep):Ver:=bif headP r then bif decide (r.view.chain.length=1)then r.tail.last else r.got else⟨0,0⟩
def toM(r:Rep)(x:Member)(k:Int):Msg:=⟨k,r.self.node,x.node,x.boot,r.self.boot,r.shard,r.view.epoch,0,0,0,0,0,false,false,[],[],⟨0,0⟩,⟨0,0⟩,⟨0,[],[],[],false⟩,[],[],[],⟨⟨0,0⟩,⟨0,0⟩,0,[],[]⟩⟩
def ofP(e:Entry):Seen:=⟨e.sess,e.num,e.ver,e.kind,e.code,e.res,e.hasRes⟩
theorem idxFrom_le(m:Member):∀ (l:List Member) (i:Nat),-1<=idxFrom m l i/\idxFrom m l i<(i+l.length:Nat)
 | [],i=>by simp only[idxFrom,List.length_nil];omega
 | x::r,i=>by
  have h:=idxFrom_le m r (i+1)
  simp only[idxFrom,List.length_cons]
  split <;> omega
theorem idx_le(l:List Member)(m:Member):-1<=idx l m/\idx l m<l.length:=by
 have h:=idxFrom_le m l 0
 unfold idx;omega
def sideP(l:List Member)(m:Member)(d:Int):Option Member:=
 if idx l m<0\/idx l m+d<0\/(l.length:Int)<=idx l m+d then none else some (l.getD (idx l m+d).toNat default)
def haveP(r:Rep):Ver:=bif(sideP r.view.chain r.self 1).isSome then r.got else r.tail.last
def acksP(r:Rep):List Msg:=match sideP r.view.chain r.self (-1)with
 | none=>[]
 | some m=>[{toM r m 14 with ver:=haveP r}]
def instM(r:Rep)(m:Member):Msg:={toM r m 11 with gen:=r.view.gen,chain:=r.view.chain,image:=⟨r.tail.floor,r.tail.last,r.view.gen,r.tail.log,r.seen⟩}
def forwM(r:Rep)(m:Member):Msg:={toM r m 13 with floor:=r.tail.floor,entries:=r.tail.log.filter fun e=>vlt r.got e.ver}
def instsP(r:Rep):List Member->List Bool->List Msg
 | m::ms,s::ss=>bif s then instsP r ms ss else instM r m::instsP r ms ss
 | _,_=>[]
def forwsP(r:Rep):List Msg:=match sideP r.view.chain r.self 1 with
 | none=>[]
 | some m=>[forwM r m]
def againP(r:Rep):List Msg:=bif syncsP r then instsP r r.view.chain r.synced else bif worksP r then forwsP r++acksP r else []
def putP:List Seen->Seen->List Seen
 | [],s=>[s]
 | a::l,s=>bif decide (a.num<s.num)then s::l else a::l
def pushR(r:Rep)(e:Entry):Rep:={r with tail:=⟨r.tail.floor,e.ver,r.tail.log++[e]⟩,seen:=putP r.seen (ofP e)}
def pushP(r:Rep)(e:Entry):Rep × Bool:=bif vlt r.tail.last e.ver then(pushR r e,true)else(r,false)
def liftP(t:Tail)(v:Ver):Tail:=⟨vmax t.floor v,vmax t.last v,t.log.filter fun e=>vlt v e.ver⟩
def liftR(r:Rep)(v:Ver):Rep:={r with tail:=liftP r.tail v}
def takeP(r:Rep):List Entry->Rep
 | []=>r
 | e::l=>takeP (bif decide (nu e.ver=nu r.tail.last+1)then(pushP r e).1 else r) l
def aboveP(r:Rep)(m:Msg):Bool:=decide (r.view.epoch<m.epoch)&&decide (r.frozen<=m.epoch)
def frozeM(r:Rep)(m:Msg):Msg:=⟨9,r.self.node,m.src,0,r.self.boot,r.shard,m.epoch,0,0,0,r.view.epoch,0,!decide (r.view.phase=0),false,[],[],r.tail.last,⟨0,0⟩,⟨0,[],[],[],false⟩,[],[],[],⟨⟨0,0⟩,⟨0,0⟩,0,[],[]⟩⟩
def freezeP(r:Rep)(m:Msg):Rep × List Msg:=bif aboveP r m then({r with frozen:=m.epoch},[frozeM r m])else(r,[])
def tail0(e:Int):Tail:=⟨vr e.toNat 0,vr e.toNat 0,[]⟩
def actT(r:Rep)(m:Msg):Tail:=bif m.fresh then tail0 m.epoch else r.tail
def actR(r:Rep)(m:Msg):Rep:=
 {r with view:=⟨m.shard,m.epoch,m.gen,bif decide (m.chain.length=1)then 3 else 2,m.chain⟩,synced:=true::List.replicate (m.chain.length - 1) false,tail:=actT r m,seen:=bif m.fresh then []else r.seen,got:=(actT r m).last}
def actG(r:Rep)(m:Msg):Bool:=aboveP r m&&(isFirst m.chain r.self&&(m.fresh||(!decide (r.view.phase=0)&&decide (m.epoch=r.frozen))))
def actP(r:Rep)(m:Msg):Rep × List Msg:=bif actG r m then(actR r m,againP (actR r m))else(r,[])
def insR(r:Rep)(m:Msg):Rep:=bif aboveP r m then {r with view:=⟨m.shard,m.epoch,m.gen,3,m.chain⟩,tail:=⟨m.image.floor,m.image.last,m.image.log⟩,seen:=m.image.seen,got:=m.image.last,synced:=[]}else r
def insP(r:Rep)(m:Msg):Rep × List Msg:=
 bif decide (0<idx m.chain r.self)then(insR r m,bif liveP (insR r m)&&decide (m.epoch=(insR r m).view.epoch)then [toM (insR r m) ⟨m.src,m.sboot⟩ 12]else [])else(r,[])
def who(m:Msg):Member:=⟨m.src,m.sboot⟩
def indS(r:Rep)(m:Msg):List Bool:=r.synced.set (idx r.view.chain (who m)).toNat true
def indR(r:Rep)(m:Msg):Rep:=bif(indS r m).all id then {r with synced:=indS r m,view:={r.view with phase:=3},got:=r.tail.last}else {r with synced:=indS r m}
def indP(r:Rep)(m:Msg):Rep × List Msg:=
 bif syncsP r&&(decide (m.epoch=r.view.epoch)&&decide (0<=idx r.view.chain (who m)))then(indR r m,[])else(r,[])
def fwdR(r:Rep)(m:Msg):Rep:=bif vlt (takeP r m.entries).tail.last m.floor then takeP r m.entries else liftR (takeP r m.entries) m.floor
def nextG(r:Rep)(m:Msg)(d:Int):Bool:=worksP r&&(decide (m.epoch=r.view.epoch)&&decide (sideP r.view.chain r.self d=some (who m)))
def fwdP(r:Rep)(m:Msg):Rep × List Msg:=bif nextG r m (-1)then(fwdR r m,againP (fwdR r m))else(r,[])
def ackR(r:Rep)(m:Msg):Rep:=bif vlt r.tail.last m.ver then r else {r with got:=vmax r.got m.ver}
def ackP(r:Rep)(m:Msg):Rep × List Msg:=bif nextG r m 1 then(ackR r m,acksP (ackR r m))else(r,[])
def toMe(r:Rep)(m:Msg):Bool:=decide (m.dst=r.self.node)&&(decide (m.boot=r.self.boot)&&decide (m.shard=r.shard))
def handK(r:Rep)(m:Msg):Rep × List Msg:=
 bif decide (m.kind=8)then freezeP r m else bif decide (m.kind=10)then actP r m else bif decide (m.kind=11)then insP r m else
 bif decide (m.kind=12)then indP r m else bif decide (m.kind=13)then fwdP r m else bif decide (m.kind=14)then ackP r m else(r,[])
def handP(r:Rep)(m:Msg):Rep × List Msg:=bif toMe r m then handK r m else(r,[])
def vle(a b:Ver):Prop:=vlt b a=false
theorem vle_iff{a b:Ver}:vle a b ↔ ep a<ep b\/(ep a=ep b/\nu a<=nu b):=by
 unfold vle vlt
 by_cases h:ep b=ep a
 ·rw[decide_eq_true h,cond_true]
  constructor
  ·intro h2;have:=of_decide_eq_false h2;omega
  ·intro h2;exact decide_eq_false (by omega)
 ·rw[decide_eq_false h,cond_false]
  constructor
  ·intro h2;have:=of_decide_eq_false h2;omega
  ·intro h2;exact decide_eq_false (by omega)
theorem vlt_iff{a b:Ver}:vlt a b=true ↔ ep a<ep b\/(ep a=ep b/\nu a<nu b):=by
 unfold vlt
 by_cases h:ep a=ep b
 ·rw[decide_eq_true h,cond_true,decide_eq_true_iff];omega
 ·rw[decide_eq_false h,cond_false,decide_eq_true_iff];omega
theorem vle.refl(a:Ver):vle a a:=vle_iff.2 (by omega)
theorem vle.trans{a b c:Ver}(h:vle a b)(h':vle b c):vle a c:=by
 rw[vle_iff]at *;omega
theorem vle_of_lt{a b:Ver}(h:vlt a b=true):vle a b:=by
 rw[vlt_iff]at h;rw[vle_iff];omega
theorem vmax_l(a b:Ver):vle a (vmax a b):=by
 unfold vmax
 cases h:vlt a b with
 | true=>exact vle_of_lt h
 | false=>exact vle.refl a
theorem vmax_r(a b:Ver):vle b (vmax a b):=by
 unfold vmax
 cases h:vlt a b with
 | true=>exact vle.refl b
 | false=>exact h
theorem vmax_or(a b:Ver):vmax a b=a\/vmax a b=b:=by
 unfold vmax;cases vlt a b <;> simp
theorem vmax_le{a b c:Ver}(h:vle a c)(h':vle b c):vle (vmax a b) c:=by
 rcases vmax_or a b with e | e <;> rw[e] <;> assumption
def VB(N:Nat)(v:Ver):Prop:=∃ e n:Nat,e<=N/\n<=N/\v=vr e n
theorem VB.num{N:Nat}{v:Ver}(h:VB N v)(hN:N<=1000):VNum v:=by
 obtain⟨e,n,he,hn,rfl⟩:=h
 exact⟨e,n,by omega,by omega,rfl⟩
theorem vr00:(⟨0,0⟩:Ver)=vr 0 0:=by decide
theorem VB.zero(N:Nat):VB N ⟨0,0⟩:=⟨0,0,by omega,by omega,vr00⟩
theorem VB.max{N:Nat}{a b:Ver}(h:VB N a)(h':VB N b):VB N (vmax a b):=by
 rcases vmax_or a b with e | e <;> rw[e] <;> assumption
theorem isFirst_cons{l:List Member}{m:Member}(h:isFirst l m=true):∃ r,l=m::r:=by
 cases l with
 | nil=>cases h
 | cons x r=>exact⟨r,by rw[of_decide_eq_true (show decide (x=m)=true from h)]⟩
theorem above_iff{r:Rep}{m:Msg}:aboveP r m=true ↔ r.view.epoch<m.epoch/\r.frozen<=m.epoch:=by
 unfold aboveP;rw[Bool.and_eq_true,decide_eq_true_iff,decide_eq_true_iff]
end Go.Wk
end
noncomputable section
set_option linter.unusedVariables false
namespace Go.AM
section
variable {X:Type} (sz:Nat) (e:X->List AV) (z:X)
def canF(l:List X):Nat->List AV:=fun i=>e (l.getD i (l.getD 0 z))
def gSl(b:Nat):List X->AV
 | []=>.nils
 | [_]=>.sl sz b 0 1 1
 | l=>.sl sz b 0 l.length 0
def gBl:List X->Heap
 | []=>[]
 | l=>[.seq true sz l.length (canF e z l)]
def gTr:List X->AV
 | []=>.nils
 | l=>.tr sz l.length (canF e z l)
end
section
variable {X:Type} {sz:Nat} {e:X->List AV} {z:X}
theorem canF_at{l:List X}{i:Nat}(h:i<l.length):canF e z l i=e (l.getD i z):=by
 unfold canF;simp[List.getD,List.getElem?_eq_getElem h]
theorem canF_one(x:X):(fun i=>[e x].getD i ([e x].getD 0 []))=canF e z [x]:=by
 funext i
 unfold canF
 cases i with
 | zero=>rfl
 | succ i=>simp[List.getD]
theorem canF_oneS(x:X):(fun i=>[e x].getD i (e x))=canF e z [x]:=canF_one x
theorem canF_app{l:List X}(h:l ≠ [])(x:X) :
  (fun i=>bif Nat.blt i l.length then canF e z l i else bif Nat.blt i (l.length+1)then [e x].getD (i - l.length) []else canF e z l l.length)=canF e z (l++[x]):=by
 funext i
 have h0:0<l.length:=List.length_pos_iff.2 h
 have hh:(l++[x]).getD 0 z=l.getD 0 z:=by unfold List.getD;rw[List.getElem?_append_left h0]
 by_cases h1:i<l.length
 ·rw[blt_true h1,cond_true]
  unfold canF
  rw[hh]
  simp[List.getD,List.getElem?_append_left h1]
 ·rw[blt_false (Nat.le_of_not_lt h1),cond_false]
  by_cases h2:i<l.length+1
  ·have:i=l.length:=by omega
   subst this
   rw[blt_true h2,cond_true]
   unfold canF
   simp[List.getD]
  ·rw[blt_false (by omega),cond_false]
   unfold canF
   rw[hh]
   have e1:l[l.length]? = none:=List.getElem?_eq_none (Nat.le_refl _)
   have e2:(l++[x])[i]? = none:=List.getElem?_eq_none (by simp;omega)
   simp[List.getD,e1,e2]
theorem canF_app1(a x:X):(fun i=>bif Nat.blt i 1 then canF e z [a] i else bif Nat.blt i 2 then [e x].getD (i - 1) []else canF e z [a] 1)=canF e z [a,x]:=canF_app (l:=[a]) (by simp) x
theorem gSl_app{b:Nat}{l:List X}(h:l ≠ [])(x:X):gSl sz b (l++[x])=.sl sz b 0 (l.length+1) 0:=by
 match l,h with
 | [a],_=>rfl
 | a::c::r,_=>
  show AV.sl sz b 0 ((a::c::(r++[x])).length) 0=_
  simp
theorem gBl_app{l:List X}(h:l ≠ [])(x:X):gBl sz e z (l++[x])=[.seq true sz (l.length+1) (canF e z (l++[x]))]:=by
 match l,h with
 | a::r,_=>
  show [BS.seq true sz ((a::(r++[x])).length) _]=_
  simp
theorem gTr_sub(l:List X):SubV (gTr sz e z l) (encL sz e z l):=by
 match l with
 | []=>exact .nils
 | a::r=>exact SubV.trs fun i hi=>by rw[canF_at hi];exact .refl _
end
theorem orU(n:Nat):(Nat.beq n 0||Nat.ble n n)=true:=by rw[ble_true (Nat.le_refl n)];simp
theorem roomU{n b:Nat}(hb:b<=1000)(h:n<=1000000):(Nat.ble ((n+1)*b) 140737488355328&&Nat.ble (n+1) 140737488355328)=true:=by
 have h1:(n+1)*b<=140737488355328:=by
  have:(n+1)*b<=1000001*1000:=Nat.mul_le_mul (by omega) hb
  omega
 rw[ble_true h1,ble_true (by omega:n+1<=140737488355328)];rfl
theorem pick_loop{X:Type}{R:Type}{l:List X}{z:X}{keep:X->Bool}{G:Nat->Int->List X->Option R}{fin:List X->Option R}
  (hend:∀ m acc,acc.length<=l.length->G (m+1) (l.length:Int) acc=fin acc)
  (hstep:∀ m (i:Nat) acc,i<l.length->acc.length<=i->G (m+1) (i:Int) acc=bif keep (l.getD i z)then G m ((i+1:Nat):Int) (acc++[l.getD i z])else G m ((i+1:Nat):Int) acc) :
  ∀ (d i m:Nat) (acc:List X),i+d=l.length->d<m->acc.length<=i->G m (i:Int) acc=fin (acc++(l.drop i).filter keep):=by
 intro d
 induction d with
 | zero=>
  intro i m acc hi hm ha
  obtain⟨m,rfl⟩:∃ k,m=k+1:=⟨m - 1,by omega⟩
  have:i=l.length:=by omega
  subst this
  rw[hend m acc ha];simp
 | succ d ih=>
  intro i m acc hi hm ha
  obtain⟨m,rfl⟩:∃ k,m=k+1:=⟨m - 1,by omega⟩
  rw[hstep m i acc (by omega) ha,drop_cons (z:=z) (by omega:i<l.length),List.filter_cons]
  cases hk:keep (l.getD i z)with
  | true=>
   rw[cond_true,if_pos rfl,ih (i+1) m _ (by omega) (by omega) (by simp;omega),List.append_assoc];rfl
  | false=>
   rw[cond_false,if_neg (by simp),ih (i+1) m _ (by omega) (by omega) (by omega)]
end Go.AM
end
noncomputable section
set_option linter.unusedVariables false
namespace Go.AM
def findS(l:Nat):Code->Option (List PE)
 | .scope a=>match findLabel a l with
  | some _=>some []
  | .none=>match findS l a with
   | some p=>some (.L::p)
   | .none=>.none
 | .seq x y=>match findS l x with
  | some p=>some (.L::p)
  | .none=>match findS l y with
   | some p=>some (.R::p)
   | .none=>.none
 | .cond _ x y=>match findS l x with
  | some p=>some (.L::p)
  | .none=>match findS l y with
   | some p=>some (.R::p)
   | .none=>.none
 | .block _ a=>match findS l a with
  | some p=>some (.L::p)
  | .none=>.none
 | _=>.none
def JP{R:Type}(env:Env)(n base f:Nat)(k:AV->Heap->Option R)(l m:Nat)(s:St):Option R:=
 match findS l (bodyOf env f)with
 | some p=>match sub (bodyOf env f) p with
  | .scope a=>jumpK env (evFn env n) f (ntOf env f) n base m a l (contOf env (evFn env n) f (ntOf env f) n base (jumpK env (evFn env n) f (ntOf env f) n base n) 0 (bodyOf env f) p (finK env f k)) s
  | _=>.none
 | .none=>.none
end Go.AM
end
noncomputable section
open Go Go.AM Go.Proofs
namespace Go.Wk
set_option maxRecDepth 100000
def PG:Program:=Tryz.prog
def liveTab:List (Nat × Nat × List Nat):=[
(3,0,[3,5]),
(3,2,[3,5,6,7,9]),
(3,4,[3,5,6,12]),
(4,0,[3,5,6]),
(4,2,[3,5,6,7,8]),
(4,4,[3,5,10]),
(5,0,[5,7,8,9,10,11,12]),
(5,2,[5,7,8,9,10,11,13]),
(5,4,[5,7,8,9,10,11,14]),
(5,6,[5,7,8,9,11,15]),
(5,8,[5,7,8,9,11,15,16]),
(5,10,[5,7,8,9,17]),
(5,12,[5,8,9,18]),
(5,14,[5,9,19]),
(6,0,[0,3,4,5,6]),
(7,0,[0,3,4,5]),
(7,2,[4,6,7]),
(9,0,[0,2,4,5]),
(10,0,[1,2,3,6,8]),
(14,0,[0,1,4,6]),
(19,0,[2,4,5,11,12]),
(24,0,[0,1,5]),
(25,0,[2,3,5]),
(25,2,[2,3,6]),
(26,0,[1,2,3,4]),
(27,0,[1,3,19,20,21]),
(28,0,[1,3,18,19,20]),
(28,2,[7,47,48,49]),
(29,0,[3,7,8,9]),
(30,0,[1,3,4]),
(34,0,[2,4,7,8,9,10]),
(36,0,[1,2,34,35]),
(39,0,[0,3,14,15,16]),
(41,0,[2,4,6,7,37,38,39]),
(41,2,[4,6,56,57,58]),
(45,0,[1,2,10,11,12]),
(47,0,[2,3,5]),
(49,0,[0,1,5]),
(51,1,[1,3,23,24,25]),
(57,0,[0,1,3]),
(63,0,[0,7,8,9]),
(74,0,[0,8,116,117,118]),
(76,0,[2,7,8,9]),
(77,0,[0,6,7,8]),
(80,0,[0,1,5,6]),
(82,0,[1,7,8,16,17,18]),
(83,0,[0,1,4,5,21,22,23]),
(83,2,[0,1,5,35,36,37]),
(85,0,[4,5,6,16,17,18]),
(87,0,[0,1,4,5,21,22,23]),
(90,0,[0,1,5]),
(92,0,[0,1,5]),
(94,0,[0,1,5]),
(95,0,[0,1,5]),
(99,0,[2,4,5,17,18,19,1003]),
(103,0,[2,3,4,5,8,9,10]),
(103,2,[2,4,5,8,11]),
(113,0,[0,1,5,6]),
(117,0,[0,3,12,13]),
(122,0,[3,6,7,8]),
(124,0,[0,1,7,8]),
(127,0,[3,7,8,9]),
(132,0,[3,7,8,9]),
(133,0,[1,2,3,4,9,21,22,23]),
(133,2,[3,4,12,13,45]),
(133,4,[4,16,71,72,73]),
(134,0,[0,3,4]),
(136,0,[0,3,4]),
(139,0,[0,3,4]),
(140,0,[0,3,4]),
(141,0,[0,3,4]),
(144,0,[3,7,8,9]),
(146,0,[0,7,8]),
(147,0,[0,1,2,8,9,10]),
(150,0,[0,1,7,8]),
(160,0,[0,1,5,6]),
(166,0,[3,4]),
(167,0,[0,3,4]),
(172,0,[0,3,4]),
(175,0,[0,1,5,6]),
(176,0,[1,2,7,8]),
(186,1000,[1,2,4,5]),
(187,0,[0,1,7,8]),
(188,0,[0,1,2,3,4,10,11]),
(191,0,[0,3]),
(193,0,[0,3,5,6]),
(193,2,[0,3,5,7]),
(195,0,[0,1,7,8]),
(196,0,[0,1,2,3,8]),
(196,2,[0,1,2,3,8,9]),
(197,0,[0,3,8,9,10,11]),
(197,2,[0,3,8,9,12]),
(198,0,[0,1,8,9,10,11]),
(200,0,[0,8,9]),
(201,0,[0,1,2,3,9,10]),
(201,2,[0,1,2,3,9,10]),
(201,4,[0,1,2,3,9,10,11]),
(201,6,[0,1,2,3,9,10,12]),
(202,0,[0,1,4,11,12]),
(202,2,[0,1,4,11,12]),
(202,4,[0,1,4,11,12]),
(203,0,[0,1,4,12,13]),
(203,2,[0,1,4,12,13]),
(203,4,[0,1,4,12,13]),
(203,6,[0,1,4,12,13]),
(203,8,[0,1,4,12,13]),
(209,0,[0,2,3,4,10]),
(216,0,[0,2,3])]
def modes1:List Nat:=[36,45,58,59,60,61,62,63,78,89,104,105,106,107,108,125,126,127,146,177]
def modes2:List Nat:=[35,38,39,40,42,43,57,66,70,74,75,77,79,80,83,86,87,110,112,113,116,117,124,128,130,147,150,153,154,155,156,157,158,159,160,161,164,165,179,184,187,188,194,195,196,197,198,199,200,201,202,203,207,208,209,210,211,212,213,214,215,216,225,226,227,228,229]
def modes3:List Nat:=[]
def modes4:List Nat:=[]
def envM(md:Nat->Option Nat)(o:Nat->List AV->Heap->Option Answer):Env where
 tt:=tiOf PG
 code:=codeOf PG
 mode f:=match md f with
  | some k=>k
  | none=>bif nmem f modes1 then 1 else bif nmem f modes2 then 2 else bif nmem f modes4 then 4 else bif nmem f modes3 then 3 else 0
 live f b:=liveOf f b liveTab
 orc:=o
def envO(l:List Known):Env:=envM (fun _=>none) (orcOf l)
theorem envM_ok{md:Nat->Option Nat}{l:List Known}(h:∀ k ∈ l,k.Ok PG):EnvOk PG (envM md (orcOf l)):=⟨tt_ok rfl,orc_ok h⟩
theorem envM_code{md:Nat->Option Nat}{o:Nat->List AV->Heap->Option Answer}:CodeOk PG (envM md o):=codeOf_ok rfl
theorem mixed:PG.follows .mixedOrders=true:=by kernel_rfl
theorem con_of{md:Nat->Option Nat}{l:List Known}(h:∀ k ∈ l,k.Ok PG){n f:Nat}{args:List AV}{r:AV}(e:callT (envM md (orcOf l)) n f args=some r):Contract PG f args [] r []:=
 callT_ok (envM_ok h) envM_code mixed e
def F_lockgatelaw23_NodeParts:Nat:=6
def F_lockgatelaw23_NodeTicks:Nat:=7
def F_tail_Value:Nat:=13
def F_head_Handle:Nat:=15
def F_lockgatelaw23_awake:Nat:=17
def F_lockgateref23_Conf:Nat:=18
def F_node_New:Nat:=19
def F_lockgatelaw23_self:Nat:=20
def F_head_New:Nat:=21
def F_lockgateref23_Msg:Nat:=22
def F_node_Handle:Nat:=23
def F_lockgateref06_SameAll:Nat:=24
def F_lockgatelaw23_same:Nat:=25
def F_lockgateref23_Beat:Nat:=26
def F_head_Tick:Nat:=27
def F_node_Tick:Nat:=28
def F_node_Dirty:Nat:=29
def F_lockgateref23_Dirty:Nat:=30
def F_ver_Make:Nat:=32
def F_twin_Desk:Nat:=36
def F_chain_Head:Nat:=37
def F_head_work_call:Nat:=38
def F_head_work_fits:Nat:=40
def F_flush_Flushed:Nat:=41
def F_head_work_other:Nat:=42
def F_head_work_behind:Nat:=43
def F_chain_New:Nat:=44
def F_twin_Home:Nat:=45
def F_lockgateref06_Same:Nat:=46
def F_lockgateref18_Live:Nat:=50
def F_chain_Again:Nat:=51
def F_flush_Msg:Nat:=52
def F_head_read:Nat:=53
def F_view_Live:Nat:=54
def F_twin_Rep:Nat:=58
def F_slices_Clone_api_Entry:Nat:=59
def F_slices_Clone_api_Item:Nat:=60
def F_slices_Clone_api_Wait:Nat:=61
def F_slices_Clone_api_Ask:Nat:=62
def F_twin_Msgs:Nat:=63
def F_head_work_refuse:Nat:=66
def F_head_Check:Nat:=67
def F_seen_Find:Nat:=68
def F_seen_Verdict:Nat:=69
def F_head_work_wait:Nat:=70
def F_ver_Num:Nat:=71
def F_ver_Ahead:Nat:=72
def F_chain_Commit:Nat:=73
def F_head_work_fresh:Nat:=74
def F_slices_Delete_api_Ask:Nat:=75
def F_lru_Put:Nat:=76
def F_head_work_calls:Nat:=77
def F_flush_copied:Nat:=78
def F_flush_Flushed_c1:Nat:=79
def F_slices_DeleteFunc_api_Item:Nat:=80
def F_chain_Handle:Nat:=81
def F_tail_Rise:Nat:=82
def F_head_work_clean:Nat:=83
def F_chain_Lift:Nat:=84
def F_flush_Trim:Nat:=85
def F_head_work_mark:Nat:=86
def F_head_work_answer:Nat:=87
def F_flush_Start:Nat:=88
def F_slices_Clone_api_Desk:Nat:=89
def F_lockgateref03_Same:Nat:=90
def F_lockgateref06_Msg:Nat:=91
def F_chain_install:Nat:=97
def F_view_Behind:Nat:=98
def F_chain_forward:Nat:=99
def F_view_Ahead:Nat:=100
def F_chain_acked:Nat:=101
def F_slices_Clone_api_Member:Nat:=104
def F_slices_Clone_api_Seen:Nat:=105
def F_slices_Clone_bool:Nat:=106
def F_slices_Clone_api_Msg:Nat:=107
def F_twin_Msg:Nat:=108
def F_head_work_to:Nat:=110
def F_seen_search:Nat:=111
def F_head_work_wait_c1:Nat:=112
def F_slices_DeleteFunc_api_Wait:Nat:=113
def F_head_needs:Nat:=114
def F_head_writes:Nat:=115
def F_head_work_find:Nat:=116
def F_head_work_ask:Nat:=117
def F_head_Resolve:Nat:=118
def F_ver_Next:Nat:=119
def F_chain_Push:Nat:=120
def F_lru_Out:Nat:=121
def F_lru_Size:Nat:=122
def F_lru_size:Nat:=123
def F_slices_IndexFunc_api_Item:Nat:=124
def F_chain_own:Nat:=125
def F_tail_ends:Nat:=127
def F_tail_settled:Nat:=128
def F_tail_Lift:Nat:=129
def F_flush_Trim_c1:Nat:=130
def F_mark_Next:Nat:=131
def F_tail_Bytes:Nat:=132
def F_tail_Batch:Nat:=133
def F_lockgateref06_numbers:Nat:=134
def F_lockgateref06_bit:Nat:=135
def F_lockgateref03_Text:Nat:=136
def F_lockgateref05_Ver:Nat:=137
def F_lockgateref05_Op:Nat:=138
def F_lockgateref06_entries:Nat:=139
def F_lockgateref06_members:Nat:=140
def F_lockgateref06_Views:Nat:=141
def F_lockgateref06_Image:Nat:=142
def F_chain_to:Nat:=143
def F_view_Index:Nat:=144
def F_twin_Views:Nat:=146
def F_slices_BinarySearchFunc_int:Nat:=147
def F_seen_search_c1:Nat:=148
def F_cmp_Compare_int:Nat:=149
def F_slices_IndexFunc_api_Wait:Nat:=150
def F_lru_Get:Nat:=151
def F_chain_push:Nat:=152
def F_lru_Out_c1:Nat:=153
def F_slices_DeleteFunc_api_Entry:Nat:=160
def F_tail_Lift_c1:Nat:=161
def F_ver_Later:Nat:=162
def F_entry_Size:Nat:=163
def F_slices_SortFunc_int:Nat:=164
def F_tail_Batch_c1:Nat:=165
def F_lockgateref03_Int:Nat:=166
def F_lockgateref05_cat:Nat:=167
def F_lockgateref01_Num:Nat:=169
def F_lockgateref05_bit:Nat:=170
def F_lockgateref05_Entry:Nat:=171
def F_lockgateref06_seens:Nat:=172
def F_slices_Clone_api_View:Nat:=177
def F_cmp_isNaN_int:Nat:=178
def F_lru_Get_c1:Nat:=179
def F_tail_Push:Nat:=180
def F_seen_Put:Nat:=181
def F_seen_Of:Nat:=182
def F_chain_takeUp:Nat:=186
def F_slices_IndexFunc_api_Entry:Nat:=187
def F_slices_pdqsortCmpFunc_int:Nat:=188
def F_math_bits_Len:Nat:=189
def F_lockgateref01_Ahead:Nat:=192
def F_slices_insertionSortCmpFunc_int:Nat:=196
end Go.Wk
end
noncomputable section
open Go Go.AM Go.Md
namespace Go.Wk
set_option maxRecDepth 100000
set_option maxHeartbeats 1000000
def env0:Env:=envO []
theorem con0{n f:Nat}{args:List AV}{r:AV}(e:callT env0 n f args=some r):Contract PG f args [] r []:=con_of (md:=fun _=>none) (l:=[]) (fun k hk=>by cases hk) e
theorem clone_of{X:Type}{F sz b:Nat}{e:X->List AV}{z:X}(hb:b<=1000)(hn:callT env0 2 F [.nils]=some .nils)(he:callT env0 2 F [.trl sz []]=some (.trl sz []))
  (hs:∀ n f,callT env0 2 F [.tr sz (n+1) f]=bif Nat.ble ((0+(n+1))*b) 140737488355328&&Nat.ble (0+(n+1)) 140737488355328 then bif Nat.ble (n+1) (n+1)then some (.tr sz (n+1) f)else none else none)
  (l:List X) (hl:l.length<=LB):Contract PG F [encL sz e z l] [] (encL sz e z l) []:=by
 unfold LB at hl
 cases l with
 | nil=>exact Contract.split (OrC.of [] [] .nil) ((con0 hn).res .nils) ((con0 he).res (SubV.trl_encL (e:=e) (z:=z) []))
 | cons x r=>
  have h:=hs r.length (fun i=>e ((x::r).getD i z))
  simp only[List.length_cons]at hl
  have h1:(0+(r.length+1))*b<=140737488355328:=by
   have:(0+(r.length+1))*b<=1000000*1000:=Nat.mul_le_mul (by omega) hb
   omega
  rw[ble_true h1,ble_true (by omega),ble_true (Nat.le_refl _)]at h
  exact con0 h
theorem clone_Member_eq(n:Nat)(f:Nat->List AV):callT env0 2 F_slices_Clone_api_Member [.tr 2 (n+1) f]=bif Nat.ble ((0+(n+1))*16) 140737488355328&&Nat.ble (0+(n+1)) 140737488355328 then bif Nat.ble (n+1) (n+1)then some (.tr 2 (n+1) f)else none else none:=by kernel_rfl
theorem clone_Entry_eq(n:Nat)(f:Nat->List AV):callT env0 2 F_slices_Clone_api_Entry [.tr 11 (n+1) f]=bif Nat.ble ((0+(n+1))*112) 140737488355328&&Nat.ble (0+(n+1)) 140737488355328 then bif Nat.ble (n+1) (n+1)then some (.tr 11 (n+1) f)else none else none:=by kernel_rfl
theorem clone_Seen_eq(n:Nat)(f:Nat->List AV):callT env0 2 F_slices_Clone_api_Seen [.tr 7 (n+1) f]=bif Nat.ble ((0+(n+1))*72) 140737488355328&&Nat.ble (0+(n+1)) 140737488355328 then bif Nat.ble (n+1) (n+1)then some (.tr 7 (n+1) f)else none else none:=by kernel_rfl
theorem clone_bool_eq(n:Nat)(f:Nat->List AV):callT env0 2 F_slices_Clone_bool [.tr 1 (n+1) f]=bif Nat.ble ((0+(n+1))*1) 140737488355328&&Nat.ble (0+(n+1)) 140737488355328 then bif Nat.ble (n+1) (n+1)then some (.tr 1 (n+1) f)else none else none:=by kernel_rfl
theorem clone_Member(l:List Member)(h:l.length<=LB):Contract PG F_slices_Clone_api_Member [encMembers l] [] (encMembers l) []:=
 clone_of (b:=16) (by omega) (by kernel_rfl) (by kernel_rfl) clone_Member_eq l h
theorem clone_Entry(l:List Entry)(h:l.length<=LB):Contract PG F_slices_Clone_api_Entry [encEntrys l] [] (encEntrys l) []:=
 clone_of (b:=112) (by omega) (by kernel_rfl) (by kernel_rfl) clone_Entry_eq l h
theorem clone_Seen(l:List Seen)(h:l.length<=LB):Contract PG F_slices_Clone_api_Seen [encSeens l] [] (encSeens l) []:=
 clone_of (b:=72) (by omega) (by kernel_rfl) (by kernel_rfl) clone_Seen_eq l h
theorem clone_bool(l:List Bool)(h:l.length<=LB):Contract PG F_slices_Clone_bool [encBools l] [] (encBools l) []:=
 clone_of (b:=1) (by omega) (by kernel_rfl) (by kernel_rfl) clone_bool_eq l h
def dL{X:Type}(d:List AV->X)(a:List AV):List X:=decL d (a.getD 0 .nils)
def shortL{X:Type}(l:List X):Prop:=l.length<=LB
def eMems(l:List Member):List AV:=[encMembers l]
def eEnts(l:List Entry):List AV:=[encEntrys l]
def eSeens(l:List Seen):List AV:=[encSeens l]
def eBools(l:List Bool):List AV:=[encBools l]
theorem qMems{R:Type}{l:List Member}{k:List Member->Option R}(h:shortL l):gC (dL decMember) shortL eMems [encMembers l] k=k l:=gC_eq l (decMembers l) h (.refl _)
theorem qEnts{R:Type}{l:List Entry}{k:List Entry->Option R}(h:shortL l):gC (dL decEntry) shortL eEnts [encEntrys l] k=k l:=gC_eq l (decEntrys l) h (.refl _)
theorem qSeens{R:Type}{l:List Seen}{k:List Seen->Option R}(h:shortL l):gC (dL decSeen) shortL eSeens [encSeens l] k=k l:=gC_eq l (decSeens l) h (.refl _)
def kCloneMember:Known:=.spec F_slices_Clone_api_Member (dL decMember) shortL eMems encMembers
def kCloneEntry:Known:=.spec F_slices_Clone_api_Entry (dL decEntry) shortL eEnts encEntrys
def kCloneSeen:Known:=.spec F_slices_Clone_api_Seen (dL decSeen) shortL eSeens encSeens
def kCloneBool:Known:=.spec F_slices_Clone_bool (dL decBool) shortL eBools encBools
theorem kCloneMember_ok:kCloneMember.Ok PG:=Known.spec_ok clone_Member
theorem kCloneEntry_ok:kCloneEntry.Ok PG:=Known.spec_ok clone_Entry
theorem kCloneSeen_ok:kCloneSeen.Ok PG:=Known.spec_ok clone_Seen
theorem kCloneBool_ok:kCloneBool.Ok PG:=Known.spec_ok clone_bool
theorem wrapS{i:Nat}(h:i<=2000000):IntKind.i64.wrap ((i:Int)+1)=((i+1:Nat):Int):=wrap64 (by omega)
theorem dec_nat{i n:Nat}:decide ((i:Int)<(n:Int))=decide (i<n):=by simp
theorem dec_nonneg(i:Nat):decide ((0:Int)<=(i:Int))=true:=by simp
theorem mem_eq(x m:Member):(decide (x.node=m.node)&&decide (x.boot=m.boot))=decide (x=m):=by
 cases x;cases m;simp[Bool.decide_and]
def SIdx(l:List Member)(m:Member)(i:Int):St:={fr:=[(3,.ptr 0 0 0),(7,encMembers l),(8,.int .i64 l.length),(9,.int .i64 i)],hp:=[.arr true 2 [encMember m]]}
theorem idx_in(N:Nat)(l:List Member)(mm:Member):callT env0 (N+1) F_view_Index [encMembers l,.agg (encMember mm)]=LP env0 N 0 F_view_Index snK 0 [] N (SIdx l mm 0):=by kernel_rfl
theorem idx_step(N m:Nat)(l:List Member)(mm:Member)(i:Int):LP env0 N 0 F_view_Index snK 0 [] (m+1) (SIdx l mm i) =
  bif decide (i<(l.length:Int))then bif decide (0<=i)&&decide (i<(l.length:Int))then
   bif decide ((l.getD i.toNat default).node=mm.node)&&(decide ((l.getD i.toNat default).boot=mm.boot)&&true)then some (.int .i64 i)
   else LP env0 N 0 F_view_Index snK 0 [] m (SIdx l mm (IntKind.i64.wrap (i+1)))
  else none else some (.int .i64 (-1)):=by kernel_rfl
theorem idx_loop{N:Nat}{l:List Member}{mm:Member}(hl:l.length<=LB):∀ d i m,i+d=l.length->d<m->LP env0 N 0 F_view_Index snK 0 [] m (SIdx l mm (i:Nat))=some (.int .i64 (idxFrom mm (l.drop i) i)):=by
 unfold LB at hl
 intro d
 induction d with
 | zero=>
  intro i m hi hm
  obtain⟨m,rfl⟩:∃ k,m=k+1:=⟨m - 1,by omega⟩
  rw[idx_step,dec_nat,decide_eq_false (by omega),cond_false,List.drop_eq_nil_of_le (by omega)]
  rfl
 | succ d ih=>
  intro i m hi hm
  obtain⟨m,rfl⟩:∃ k,m=k+1:=⟨m - 1,by omega⟩
  rw[idx_step,dec_nat,decide_eq_true (by omega),dec_nonneg,drop_cons (z:=default) (by omega:i<l.length)]
  simp only[cond_true,Bool.and_true,Int.toNat_natCast,mem_eq,idxFrom]
  by_cases h:l.getD i default=mm
  ·simp only[decide_eq_true h,cond_true,if_pos h]
  ·simp only[decide_eq_false h,cond_false,if_neg h]
   rw[wrapS (by omega),ih (i+1) m (by omega) (by omega)]
abbrev LM:=List Member × Member
def decLM(a:List AV):LM:=(decL decMember (a.getD 0 .nils),decMember (argC a 1))
def preLM(x:LM):Prop:=x.1.length<=LB
def encLM(x:LM):List AV:=[encMembers x.1,.agg (encMember x.2)]
theorem qLM{R:Type}{l:List Member}{m:Member}{k:LM->Option R}(h:l.length<=LB):gC decLM preLM encLM [encMembers l,.agg (encMember m)] k=k (l,m):=gC_eq (l,m) (Prod.ext (decMembers l) rfl) h (.refl _)
def kIndex:Known:=.spec F_view_Index decLM preLM encLM (fun x=>.int .i64 (idx x.1 x.2))
theorem kIndex_ok:kIndex.Ok PG:=Known.spec_ok fun x h=>by
 have:=(idx_in (x.1.length+1) x.1 x.2).trans (idx_loop (N:=x.1.length+1) (mm:=x.2) h x.1.length 0 (x.1.length+1) (by omega) (by omega))
 exact con0 this
theorem up_loop{n:Nat}(P:Nat->Nat->Prop)(h0:∀ m,P n (m+1))(hs:∀ i m,i<n->P (i+1) m->P i (m+1)):∀ i m,i<=n->n - i<m->P i m:=by
 intro i m hi hm
 obtain⟨d,hd⟩:∃ d,n - i=d:=⟨_,rfl⟩
 induction d generalizing i m with
 | zero=>
  have:i=n:=by omega
  subst this
  obtain⟨m,rfl⟩:∃ k,m=k+1:=⟨m - 1,by omega⟩
  exact h0 m
 | succ d ih=>
  obtain⟨m,rfl⟩:∃ k,m=k+1:=⟨m - 1,by omega⟩
  exact hs i m (by omega) (ih (i+1) m (by omega) (by omega) (by omega))
theorem strBeq_self:∀ s:List UInt8,strBeq s s=true
 | []=>rfl
 | a::s=>by simp[strBeq,strBeq_self s]
theorem getD_mem{X:Type}{l:List X}{i:Nat}{z:X}(h:i<l.length):l.getD i z ∈ l:=by
 simp[List.getD,List.getElem?_eq_getElem h]
def encB(b:Int):List AV:=[.int .u8 b]
def decB(cs:List AV):Int:=getI cs 0
def encBy(l:List Int):AV:=encL 1 encB 0 l
def natB:Nat->Int->List Int
 | 0,_=>[]
 | k+1,x=>if 127<x then(128+x % 128)::natB k (x / 128)else [x]
def zig(n:Int):Int:=if n<0 then 2*(-(n+1))+1 else 2*n
def intB(n:Int):List Int:=natB 11 (zig n)
def SInt(x:Int)(acc:List (List AV)):St:={fr:=[(3,.int .u64 x),(4,.sl 1 0 0 acc.length acc.length)],hp:=[.arr true 1 acc]}
def natK(z:Int->List (List AV)->Option (AV × Heap)):Nat->Int->List (List AV)->Option (AV × Heap)
 | 0,x,acc=>z x acc
 | k+1,x,acc=>bif decide (127<x)then natK z k (IntKind.u64.wrap (x.tdiv 128)) (acc++[encB (IntKind.u8.wrap (IntKind.u64.wrap (128+x.tmod 128)))])
  else some (.sl 1 0 0 (acc++[encB (IntKind.u8.wrap x)]).length (acc++[encB (IntKind.u8.wrap x)]).length,[.arr true 1 (acc++[encB (IntKind.u8.wrap x)])])
theorem int_in(N:Nat)(n:Int):callH env0 (N+12) F_lockgateref03_Int [.int .i64 n] [] =
  bif decide (n<0)then natK (fun x acc=>LP env0 (N+11) 0 F_lockgateref03_Int (hnK 0) 0 [] N (SInt x acc)) 11 (IntKind.u64.wrap (IntKind.u64.wrap (2*IntKind.u64.wrap (IntKind.i64.wrap (0 - IntKind.i64.wrap (n+1))))+1)) []
  else natK (fun x acc=>LP env0 (N+11) 0 F_lockgateref03_Int (hnK 0) 0 [] N (SInt x acc)) 11 (IntKind.u64.wrap (2*IntKind.u64.wrap n)) []:=by kernel_rfl
theorem wrapu64{x:Int}(h:0<=x/\x<=18446744073709551615):IntKind.u64.wrap x=x:=by
 simp[IntKind.wrap,IntKind.signed,IntKind.bits];omega
theorem natK_eq{z:Int->List (List AV)->Option (AV × Heap)}:∀ (k:Nat) (x:Int) (acc:List (List AV)),0<=x->x<=18446744073709551615->x<128 ^ k->(0<x\/0<k)->natK z k x acc=some (.sl 1 0 0 (acc++(natB k x).map encB).length (acc++(natB k x).map encB).length,[.arr true 1 (acc++(natB k x).map encB)])
 | 0,x,acc,h0,_,h,h2=>by simp at h;omega
 | k+1,x,acc,h0,h1,h,_=>by
  unfold natK natB
  by_cases hx:127<x
  ·rw[decide_eq_true hx,cond_true,if_pos hx]
   have e1:IntKind.u64.wrap (x.tdiv 128)=x / 128:=by rw[Int.tdiv_eq_ediv_of_nonneg h0,wrapu64 (by omega)]
   have e2:IntKind.u8.wrap (IntKind.u64.wrap (128+x.tmod 128))=128+x % 128:=by rw[Int.tmod_eq_emod_of_nonneg h0,wrapu64 (by omega),wrapu8 (by omega)]
   rw[e1,e2,natK_eq k (x / 128) _ (by omega) (by omega) (by rw[Int.pow_succ]at h;omega) (.inl (by omega))]
   simp
  ·rw[decide_eq_false hx,cond_false,if_neg hx,wrapu8 (by omega)]
   simp
theorem natB_ne:∀ (k:Nat) (x:Int),natB (k+1) x ≠ []:=by
 intro k x
 unfold natB
 split <;> simp
theorem natB_len:∀ (k:Nat) (x:Int),(natB k x).length<=k
 | 0,x=>by simp[natB]
 | k+1,x=>by
  unfold natB
  split
  ·have:=natB_len k (x / 128)
   simp;omega
  ·simp
theorem wneg(n:Int)(h:I64 n)(hn:n<0):IntKind.u64.wrap (IntKind.u64.wrap (2*IntKind.u64.wrap (IntKind.i64.wrap (0 - IntKind.i64.wrap (n+1))))+1)=2*(-(n+1))+1:=by
 unfold I64 at h
 rw[wrap64 (by omega:-9223372036854775808<=n+1/\n+1<=9223372036854775807),wrap64 (by omega),wrapu64 (x:=0 - (n+1)) (by omega),wrapu64 (x:=2*(0 - (n+1))) (by omega),wrapu64 (by omega)]
 omega
theorem intB_len(n:Int):(intB n).length<=11:=natB_len 11 _
theorem int_con(n:Int)(h:I64 n):Contract PG F_lockgateref03_Int [.int .i64 n] [] (outBlk 1 encB 0 (intB n)).1 (outBlk 1 encB 0 (intB n)).2:=by
 have e:=int_in 0 n
 have hh:=h
 unfold I64 at hh
 have hz:∀ x:Int,x<=18446744073709551615->x<128 ^ 11:=fun x hx=>by
  have:(128:Int) ^ 11=151115727451828646838272:=by decide
  omega
 have key:callH env0 (0+12) F_lockgateref03_Int [.int .i64 n] []=some (.sl 1 0 0 (intB n).length (intB n).length,[.arr true 1 ((intB n).map encB)]):=by
  unfold intB zig
  by_cases hn:n<0
  ·rw[decide_eq_true hn,cond_true,wneg n h hn,natK_eq 11 _ [] (by omega) (by omega) (hz _ (by omega)) (.inr (by omega))]at e
   rw[if_pos hn]
   simpa using e
  ·rw[decide_eq_false hn,cond_false,wrapu64 (x:=n) (by omega),wrapu64 (by omega),natK_eq 11 _ [] (by omega) (by omega) (hz _ (by omega)) (.inr (by omega))]at e
   rw[if_neg hn]
   simpa using e
 exact(callH_ok (envM_ok (md:=fun _=>none) (l:=[]) fun k hk=>by cases hk) envM_code mixed key).1.blkArr _ fun x=>rfl
def ne(l:List Int):List Int:=l.headD 0::l.tail
theorem ne_eq{l:List Int}(h:l ≠ []):ne l=l:=by
 cases l with
 | nil=>exact absurd rfl h
 | cons a r=>rfl
def outB(l:List Int):AV × Heap:=outBlk 1 encB 0 l
def kInt':Known:=.specB F_lockgateref03_Int (fun a=>getI a 0) I64 (fun n=>[.int .i64 n]) (fun n=>outB (ne (intB n)))
theorem intB_ne(n:Int):intB n ≠ []:=natB_ne 10 _
theorem kInt'_ok:kInt'.Ok PG:=Known.specB_ok fun n h=>by
 have:=int_con n h
 show Contract PG F_lockgateref03_Int _ [] (outB (ne (intB n))).1 (outB (ne (intB n))).2
 rw[ne_eq (intB_ne n)]
 exact this
def mdB(f:Nat):Option Nat:=bif nmem f [F_lockgateref03_Int,F_lockgateref03_Text,F_lockgateref06_numbers,F_lockgateref05_Ver,F_lockgateref05_cat,F_lockgateref05_Op,F_lockgateref05_bit,F_lockgateref05_Entry,F_lockgateref06_entries,F_lockgateref06_members,F_lockgateref06_Views,F_lockgateref06_seens,F_lockgateref06_Image,F_lockgateref06_Msg]then some 1 else none
def envB(l:List Known):Env:=envM mdB (orcOf l)
theorem conB{l:List Known}(h:∀ k ∈ l,k.Ok PG){n f:Nat}{args:List AV}{r:AV}{hp:Heap}(e:callH (envB l) n f args []=some (r,hp)):Contract PG f args [] r hp:=
 (callH_ok (envM_ok (md:=mdB) h) envM_code mixed e).1
def blkB(l:List Int):BS:=.seq true 1 l.length fun i=>encB (l.getD i 0)
def blkR(l p:List Int):BS:=.seq true 1 (l.length+p.length) (appF l.length (fun i=>encB (l.getD i 0)) p.length fun i=>encB (p.getD i 0))
theorem blkR_eq(l p:List Int):blkR l p=blkB (l++p):=by
 unfold blkR blkB
 rw[appF_enc encB 0 l p,List.length_append]
def slB(b:Nat)(l:List Int):AV:=.sl 1 b 0 l.length 0
def slR(b:Nat)(l p:List Int):AV:=.sl 1 b 0 (l.length+p.length) 0
theorem slR_eq(b:Nat)(l p:List Int):slR b l p=slB b (l++p):=by unfold slR slB;rw[List.length_append]
theorem ble_self(n:Nat):Nat.ble n n=true:=ble_true (Nat.le_refl n)
theorem or_self(n:Nat):(Nat.beq n 0||Nat.ble n n)=true:=by rw[ble_self,Bool.or_true]
theorem roomB{a b:Nat}(h:a+b<=1000000000):(Nat.ble ((a+b)*1) 140737488355328&&Nat.ble (a+b) 140737488355328)=true:=by
 rw[ble_true (by omega),ble_true (by omega)];rfl
def encI(x:Int):List AV:=[.int .i64 x]
def decI(cs:List AV):Int:=getI cs 0
def encIs(l:List Int):AV:=encL 1 encI 0 l
def numsB(l:List Int):List Int:=l.flatMap intB
def envN:Env:=envB [kInt']
def SN0(l:List Int)(i:Int):St:={fr:=[(0,encIs l),(3,.nils),(4,.int .i64 i)],hp:=[]}
def SN(l acc:List Int)(i:Int):St:={fr:=[(0,encIs l),(3,slB 0 acc),(4,.int .i64 i)],hp:=[blkB acc]}
def SNR(l acc p:List Int)(i:Int):St:={fr:=[(0,encIs l),(3,slR 0 acc p),(4,.int .i64 i)],hp:=[blkR acc p]}
theorem nums_in(N:Nat)(l:List Int):callH envN (N+1) F_lockgateref06_numbers [encIs l] []=LP envN N 0 F_lockgateref06_numbers (hnK 0) 0 [] N (SN0 l 0):=by kernel_rfl
theorem nums_first(N m:Nat)(l:List Int)(i:Int):LP envN N 0 F_lockgateref06_numbers (hnK 0) 0 [] (m+1) (SN0 l i) =
  bif decide (i<(l.length:Int))then bif decide (0<=i)&&decide (i<(l.length:Int))then
   gC (fun a=>getI a 0) I64 (fun n=>[.int .i64 n]) [.int .i64 (l.getD i.toNat 0)] fun y=>
    bif Nat.ble (ne (intB y)).length (ne (intB y)).length then bif Nat.ble ((0+(ne (intB y)).length)*1) 140737488355328&&Nat.ble (0+(ne (intB y)).length) 140737488355328 then
     LP envN N 0 F_lockgateref06_numbers (hnK 0) 0 [] m (SN l (ne (intB y)) (IntKind.i64.wrap (i+1)))else none else none
  else none else some (.nils,[]):=by kernel_rfl
theorem nums_step(N m:Nat)(l acc:List Int)(i:Int):LP envN N 0 F_lockgateref06_numbers (hnK 0) 0 [] (m+1) (SN l acc i) =
  bif decide (i<(l.length:Int))then bif decide (0<=i)&&decide (i<(l.length:Int))then
   gC (fun a=>getI a 0) I64 (fun n=>[.int .i64 n]) [.int .i64 (l.getD i.toNat 0)] fun y=>
    bif(Nat.beq acc.length 0||Nat.ble acc.length acc.length)then bif Nat.ble (ne (intB y)).length (ne (intB y)).length then
     bif Nat.ble ((acc.length+(ne (intB y)).length)*1) 140737488355328&&Nat.ble (acc.length+(ne (intB y)).length) 140737488355328 then
      LP envN N 0 F_lockgateref06_numbers (hnK 0) 0 [] m (SNR l acc (ne (intB y)) (IntKind.i64.wrap (i+1)))else none else none else none
  else none else some (outB acc):=by kernel_rfl
theorem SNR_eq(l acc p:List Int)(i:Int):SNR l acc p i=SN l (acc++p) i:=by unfold SNR SN;rw[slR_eq,blkR_eq]
theorem nums_loop{N:Nat}{l:List Int}(hl:l.length<=LB)(hI:∀ x ∈ l,I64 x):∀ i m,i<=l.length->l.length - i<m -> ∀ acc:List Int,acc.length<=11*i ->
  LP envN N 0 F_lockgateref06_numbers (hnK 0) 0 [] m (SN l acc i)=some (outB (acc++numsB (l.drop i))):=by
 unfold LB at hl
 refine up_loop (n:=l.length) (fun i m=>∀ acc:List Int,acc.length<=11*i->LP envN N 0 F_lockgateref06_numbers (hnK 0) 0 [] m (SN l acc i)=some (outB (acc++numsB (l.drop i)))) (fun m acc ha=>?_) (fun i m hi ih acc ha=>?_)
 ·rw[nums_step,dec_nat,decide_eq_false (by omega),cond_false,List.drop_eq_nil_of_le (Nat.le_refl _)]
  simp[numsB]
 ·rw[nums_step,dec_nat,decide_eq_true hi,dec_nonneg]
  simp only[cond_true,Bool.and_true,Int.toNat_natCast]
  have hx:=hI _ (getD_mem hi (z:=0))
  rw[gC_eq (l.getD i 0) rfl hx (.refl _),ne_eq (intB_ne _)]
  have hb:=intB_len (l.getD i 0)
  rw[or_self,ble_self,roomB (by omega)]
  simp only[cond_true]
  rw[SNR_eq,wrapS (by omega),ih _ (by rw[List.length_append];omega),drop_cons (z:=0) hi]
  simp[numsB]
theorem nums_con(l:List Int)(h:l.length<=LB/\l ≠ [] /\ ∀ x ∈ l,I64 x):Contract PG F_lockgateref06_numbers [encIs l] [] (outB (numsB l)).1 (outB (numsB l)).2:=by
 obtain⟨h1,h2,h3⟩:=h
 have hl:=h1
 unfold LB at hl
 refine conB (l:=[kInt']) (fun k hk=>by simp at hk;subst hk;exact kInt'_ok) (n:=l.length+3) ?_
 refine(nums_in (l.length+2) l).trans ?_
 have hpos:0<l.length:=List.length_pos_iff.2 h2
 rw[nums_first,decide_eq_true (show(0:Int)<(l.length:Int) by omega),decide_eq_true (show(0:Int)<=0 by omega)]
 simp only[cond_true,Bool.and_true]
 have e0:(0:Int).toNat=0:=rfl
 rw[e0,gC_eq (l.getD 0 0) rfl (h3 _ (getD_mem hpos)) (.refl _),ne_eq (intB_ne _)]
 have hb:=intB_len (l.getD 0 0)
 rw[ble_self,roomB (by omega)]
 simp only[cond_true]
 have e1:IntKind.i64.wrap (0+1)=((1:Nat):Int):=by decide
 rw[e1,nums_loop h1 h3 1 _ hpos (by omega) _ (by omega)]
 have:=drop_cons (z:=(0:Int)) hpos
 rw[List.drop_zero]at this
 conv=>rhs;rw[this]
 rfl
theorem numsB_ne{l:List Int}(h:l ≠ []):numsB l ≠ []:=by
 cases l with
 | nil=>exact absurd rfl h
 | cons a r=>simp[numsB,intB_ne a]
theorem numsB_len(l:List Int):(numsB l).length<=11*l.length:=by
 induction l with
 | nil=>simp[numsB]
 | cons a r ih=>
  have:=intB_len a
  simp only[numsB,List.flatMap_cons,List.length_append,List.length_cons]at ih ⊢
  omega
def preN(l:List Int):Prop:=l.length<=LB/\l ≠ [] /\ ∀ x ∈ l,I64 x
def kNums:Known:=.specB F_lockgateref06_numbers (dL decI) preN (fun l=>[encIs l]) (fun l=>outB (ne (numsB l)))
theorem kNums_ok:kNums.Ok PG:=Known.specB_ok fun l h=>by
 rw[ne_eq (numsB_ne h.2.1)];exact nums_con l h
theorem app_loop{X:Type}{l:List X}{z:X}{p:X->List Int}{c a0:Nat}(hl:l.length<=LB)(hp:∀ x ∈ l,(p x).length<=c){G:Nat->List Int->Int->Option (AV × Heap)}
  (hend:∀ m acc,G (m+1) acc (l.length:Int)=some (outB acc))
  (hstep:∀ m acc (i:Nat),i<l.length->acc.length<=a0+c*l.length->G (m+1) acc i=G m (acc++p (l.getD i z)) ((i+1:Nat):Int)) :
  ∀ i m,i<=l.length->l.length - i<m -> ∀ acc:List Int,acc.length<=a0+c*i->G m acc i=some (outB (acc++(l.drop i).flatMap p)):=by
 refine up_loop (n:=l.length) (fun i m=>∀ acc:List Int,acc.length<=a0+c*i->G m acc i=some (outB (acc++(l.drop i).flatMap p))) (fun m acc ha=>?_) (fun i m hi ih acc ha=>?_)
 ·rw[hend,List.drop_eq_nil_of_le (Nat.le_refl _)];simp
 ·have h1:c*i<=c*l.length:=Nat.mul_le_mul_left c (by omega)
  have hx:=hp _ (getD_mem hi (z:=z))
  rw[hstep m acc i hi (by omega),ih _ (by rw[List.length_append,Nat.mul_succ];omega),drop_cons (z:=z) hi]
  simp
def chB(c:UInt8):List Int:=[(c.toNat:Int)]
def textB(s:List UInt8):List Int:=intB s.length++s.flatMap chB
def ST(s:List UInt8)(acc:List Int)(i:Int):St:={fr:=[(0,.str s),(3,slB 0 acc),(4,.int .i64 i)],hp:=[blkB acc]}
def STR(s:List UInt8)(acc p:List Int)(i:Int):St:={fr:=[(0,.str s),(3,slR 0 acc p),(4,.int .i64 i)],hp:=[.seq true 1 (acc.length+p.length) (appF acc.length (fun i=>encB (acc.getD i 0)) p.length fun i=>(p.map encB).getD i [])]}
theorem STR_eq(s:List UInt8)(acc p:List Int)(i:Int):STR s acc p i=ST s (acc++p) i:=by
 unfold STR ST
 rw[slR_eq,appF_lit encB 0 acc p]
 unfold blkB
 rw[List.length_append]
theorem text_in(N:Nat)(s:List UInt8):callH envN (N+1) F_lockgateref03_Text [.str s] [] =
  gC (fun a=>getI a 0) I64 (fun n=>[.int .i64 n]) [.int .i64 (s.length:Int)] fun y=>LP envN N 0 F_lockgateref03_Text (hnK 0) 0 [] N (ST s (ne (intB y)) 0):=by kernel_rfl
theorem text_step(N m:Nat)(s:List UInt8)(acc:List Int)(i:Int):LP envN N 0 F_lockgateref03_Text (hnK 0) 0 [] (m+1) (ST s acc i) =
  bif decide (i<(s.length:Int))then bif decide (0<=i)&&decide (i<(s.length:Int))then
   bif(Nat.beq acc.length 0||Nat.ble acc.length acc.length)then bif Nat.ble ((acc.length+1)*1) 140737488355328&&Nat.ble (acc.length+1) 140737488355328 then
    LP envN N 0 F_lockgateref03_Text (hnK 0) 0 [] m (STR s acc [((s.getD i.toNat 0).toNat:Int)] (IntKind.i64.wrap (i+1)))else none else none
  else none else some (outB acc):=by kernel_rfl
theorem text_con(s:List UInt8)(h:s.length<=LB):Contract PG F_lockgateref03_Text [.str s] [] (outB (textB s)).1 (outB (textB s)).2:=by
 have hl:=h
 unfold LB at hl
 refine conB (l:=[kInt']) (fun k hk=>by simp at hk;subst hk;exact kInt'_ok) (n:=s.length+2) ?_
 refine(text_in (s.length+1) s).trans ?_
 rw[gC_eq (s.length:Int) rfl (by unfold I64;omega) (.refl _),ne_eq (intB_ne _)]
 have hb:=intB_len (s.length:Int)
 have:=app_loop (l:=s) (z:=0) (p:=chB) (c:=1) (a0:=11) h (fun x _=>by simp[chB]) (G:=fun m acc i=>LP envN (s.length+1) 0 F_lockgateref03_Text (hnK 0) 0 [] m (ST s acc i))
  (fun m acc=>by rw[text_step,dec_nat,decide_eq_false (by omega),cond_false])
  (fun m acc i hi ha=>by
   rw[text_step,dec_nat,decide_eq_true hi,dec_nonneg,or_self,roomB (by omega)]
   simp only[cond_true,Bool.and_true,Int.toNat_natCast]
   rw[STR_eq,wrapS (by omega)]
   rfl) 0 (s.length+1) (Nat.zero_le _) (by omega) (intB s.length) (by omega)
 rw[List.drop_zero]at this
 exact this
theorem textB_ne(s:List UInt8):textB s ≠ []:=by simp[textB,intB_ne]
theorem textB_len(s:List UInt8):(textB s).length<=11+s.length:=by
 have:=intB_len (s.length:Int)
 have h2:(s.flatMap chB).length=s.length:=by
  clear this
  induction s with
  | nil=>rfl
  | cons a r ih=>simp only[List.flatMap_cons,List.length_append,ih,List.length_cons];simp[chB];omega
 simp only[textB,List.length_append]
 omega
def kText:Known:=.specB F_lockgateref03_Text (fun a=>getS a 0) (fun s=>s.length<=LB) (fun s=>[.str s]) (fun s=>outB (ne (textB s)))
theorem kText_ok:kText.Ok PG:=Known.specB_ok fun s h=>by rw[ne_eq (textB_ne s)];exact text_con s h
def encBl(l:List Int):List AV:=[encBy l]
def decBl(cs:List AV):List Int:=decL decB (cs.getD 0 .nils)
def encBls(ls:List (List Int)):AV:=encL 1 encBl [] ls
theorem decBy(l:List Int):decL decB (encBy l)=l:=decL_encL (fun _=>rfl) l
def SC0(ls:List (List Int))(i:Int):St:={fr:=[(0,encBls ls),(3,.nils),(4,.int .i64 i)],hp:=[]}
def SCt(ls:List (List Int))(acc:List Int)(i:Int):St:={fr:=[(0,encBls ls),(3,slB 0 acc),(4,.int .i64 i)],hp:=[blkB acc]}
def SCR(ls:List (List Int))(acc p:List Int)(i:Int):St:={fr:=[(0,encBls ls),(3,slR 0 acc p),(4,.int .i64 i)],hp:=[blkR acc p]}
theorem SCR_eq(ls:List (List Int))(acc p:List Int)(i:Int):SCR ls acc p i=SCt ls (acc++p) i:=by unfold SCR SCt;rw[slR_eq,blkR_eq]
theorem cat_in(N:Nat)(ls:List (List Int)):callH envN (N+1) F_lockgateref05_cat [encBls ls] []=LP envN N 0 F_lockgateref05_cat (hnK 0) 0 [] N (SC0 ls 0):=by kernel_rfl
theorem cat_first(N m:Nat)(ls:List (List Int))(i:Int):LP envN N 0 F_lockgateref05_cat (hnK 0) 0 [] (m+1) (SC0 ls i) =
  bif decide (i<(ls.length:Int))then bif decide (0<=i)&&decide (i<(ls.length:Int))then
   bif Nat.ble ((0+(ls.getD i.toNat []).length)*1) 140737488355328&&Nat.ble (0+(ls.getD i.toNat []).length) 140737488355328 then
    bif Nat.beq (ls.getD i.toNat []).length 0 then LP envN N 0 F_lockgateref05_cat (hnK 0) 0 [] m (SC0 ls (IntKind.i64.wrap (i+1)))
    else LP envN N 0 F_lockgateref05_cat (hnK 0) 0 [] m (SCt ls (ls.getD i.toNat []) (IntKind.i64.wrap (i+1)))else none
  else none else some (.nils,[]):=by kernel_rfl
theorem cat_step(N m:Nat)(ls:List (List Int))(acc:List Int)(i:Int):LP envN N 0 F_lockgateref05_cat (hnK 0) 0 [] (m+1) (SCt ls acc i) =
  bif decide (i<(ls.length:Int))then bif decide (0<=i)&&decide (i<(ls.length:Int))then
   bif(Nat.beq acc.length 0||Nat.ble acc.length acc.length)then
    bif Nat.ble ((acc.length+(ls.getD i.toNat []).length)*1) 140737488355328&&Nat.ble (acc.length+(ls.getD i.toNat []).length) 140737488355328 then
     bif Nat.beq (ls.getD i.toNat []).length 0 then LP envN N 0 F_lockgateref05_cat (hnK 0) 0 [] m (SCt ls acc (IntKind.i64.wrap (i+1)))
     else LP envN N 0 F_lockgateref05_cat (hnK 0) 0 [] m (SCR ls acc (ls.getD i.toNat []) (IntKind.i64.wrap (i+1)))else none else none
  else none else some (outB acc):=by kernel_rfl
def preC(ls:List (List Int)):Prop:=ls.length<=1000/\ls ≠ [] /\ ∀ l ∈ ls,l ≠ []/\l.length<=100000
theorem cat_con(ls:List (List Int))(h:preC ls):Contract PG F_lockgateref05_cat [encBls ls] [] (outB ls.flatten).1 (outB ls.flatten).2:=by
 obtain⟨h1,h2,h3⟩:=h
 refine conB (l:=[kInt']) (fun k hk=>by simp at hk;subst hk;exact kInt'_ok) (n:=ls.length+3) ?_
 refine(cat_in (ls.length+2) ls).trans ?_
 have hpos:0<ls.length:=List.length_pos_iff.2 h2
 obtain⟨g1,g2⟩:=h3 _ (getD_mem hpos (z:=[]))
 rw[cat_first,decide_eq_true (show(0:Int)<(ls.length:Int) by omega),decide_eq_true (show(0:Int)<=0 by omega)]
 have e0:(0:Int).toNat=0:=rfl
 have e1:IntKind.i64.wrap (0+1)=((1:Nat):Int):=by decide
 have hz:Nat.beq (ls.getD 0 []).length 0=false:=beq_false (fun e=>g1 (List.eq_nil_of_length_eq_zero e))
 simp only[e0,e1,cond_true,Bool.and_true,hz,roomB (show 0+(ls.getD 0 []).length<=1000000000 by omega),cond_false]
 have:=app_loop (l:=ls) (z:=[]) (p:=fun l=>l) (c:=100000) (a0:=0) (by unfold LB;omega) (fun x hx=>(h3 x hx).2) (G:=fun m acc i=>LP envN (ls.length+2) 0 F_lockgateref05_cat (hnK 0) 0 [] m (SCt ls acc i))
  (fun m acc=>by rw[cat_step,dec_nat,decide_eq_false (by omega),cond_false])
  (fun m acc i hi ha=>by
   obtain⟨g1,g2⟩:=h3 _ (getD_mem hi (z:=[]))
   have hz:Nat.beq (ls.getD i []).length 0=false:=beq_false (fun e=>g1 (List.eq_nil_of_length_eq_zero e))
   have hm:100000*ls.length<=100000000:=by omega
   rw[cat_step,dec_nat,decide_eq_true hi,dec_nonneg,or_self]
   simp only[cond_true,Bool.and_true,Int.toNat_natCast,hz,cond_false]
   rw[roomB (by omega),cond_true,SCR_eq,wrapS (by omega)]) 1 (ls.length+1) hpos (by omega) (ls.getD 0 []) (by omega)
 rw[this]
 have hd:=drop_cons (z:=([]:List Int)) hpos
 rw[List.drop_zero]at hd
 conv=>rhs;rw[hd]
 simp
def kCat:Known:=.specB F_lockgateref05_cat (dL decBl) preC (fun ls=>[encBls ls]) (fun ls=>outB (ne ls.flatten))
theorem flat_ne{ls:List (List Int)}(h:ls ≠ [])(h2:∀ l ∈ ls,l ≠ []):ls.flatten ≠ []:=by
 cases ls with
 | nil=>exact absurd rfl h
 | cons a r=>simp[h2 a (by simp)]
theorem kCat_ok:kCat.Ok PG:=Known.specB_ok fun ls h=>by rw[ne_eq (flat_ne h.2.1 fun l hl=>(h.2.2 l hl).1)];exact cat_con ls h
def bitI(b:Bool):Int:=bif b then 1 else 0
theorem bit06_eq(b:Bool):callT env0 2 F_lockgateref06_bit [.bool b]=bif b then some (.int .u8 1)else some (.int .u8 0):=by kernel_rfl
def kBit06:Known:=.spec F_lockgateref06_bit (fun a=>getB a 0) (fun _=>True) (fun b=>[.bool b]) (fun b=>.int .u8 (bitI b))
theorem kBit06_ok:kBit06.Ok PG:=Known.spec_ok fun b _=>con0 (by rw[bit06_eq];cases b <;> rfl)
theorem bit05_eq(b:Bool):callH env0 2 F_lockgateref05_bit [.bool b] []=bif b then some (.sl 1 0 0 1 1,[.arr true 1 [[.int .u8 1]]])else some (.sl 1 0 0 1 1,[.arr true 1 [[.int .u8 0]]]):=by kernel_rfl
def kBit05:Known:=.specB F_lockgateref05_bit (fun a=>getB a 0) (fun _=>True) (fun b=>[.bool b]) (fun b=>outB [bitI b])
theorem kBit05_ok:kBit05.Ok PG:=Known.specB_ok fun b _=>by
 have e:callH env0 2 F_lockgateref05_bit [.bool b] []=some (.sl 1 0 0 ([bitI b]:List Int).length 1,[.arr true 1 ([bitI b].map encB)]):=by rw[bit05_eq];cases b <;> rfl
 exact((callH_ok (envM_ok (md:=fun _=>none) (l:=[]) fun k hk=>by cases hk) envM_code mixed e).1.blkArr _ fun x=>rfl)
def kns1:List Known:=[kInt',kText,kCat,kBit05,kBit06,kNums]
theorem ac{X:Type}{p:X->Prop}{k:X}{l:List X}(h:p k)(t:∀ x ∈ l,p x):∀ x ∈ k::l,p x:=fun x hx=>by
 rcases List.mem_cons.1 hx with rfl | hx
 ·exact h
 ·exact t x hx
theorem an{X:Type}{p:X->Prop}:∀ x ∈ ([]:List X),p x:=fun x hx=>by cases hx
theorem ak{k:Known}{l:List Known}(h:k.Ok PG)(t:∀ x ∈ l,x.Ok PG):∀ x ∈ k::l,x.Ok PG:=fun x hx=>by
 rcases List.mem_cons.1 hx with rfl | hx
 ·exact h
 ·exact t x hx
theorem ank:∀ x ∈ ([]:List Known),x.Ok PG:=fun x hx=>by cases hx
theorem kns1_ok:∀ k ∈ kns1,k.Ok PG:=ak kInt'_ok (ak kText_ok (ak kCat_ok (ak kBit05_ok (ak kBit06_ok (ak kNums_ok ank)))))
def envV:Env:=envB kns1
def gI{R:Type}(n:Int)(k:Int->Option R):Option R:=gC (fun a=>getI a 0) I64 (fun n=>[.int .i64 n]) [.int .i64 n] k
theorem gI_eq{R:Type}{n:Int}{k:Int->Option R}(h:I64 n):gI n k=k n:=gC_eq n rfl h (.refl _)
def gT{R:Type}(s:List UInt8)(k:List UInt8->Option R):Option R:=gC (fun a=>getS a 0) (fun s=>s.length<=LB) (fun s=>[.str s]) [.str s] k
theorem gT_eq{R:Type}{s:List UInt8}{k:List UInt8->Option R}(h:s.length<=LB):gT s k=k s:=gC_eq s rfl h (.refl _)
def gBit{R:Type}(b:Bool)(k:Bool->Option R):Option R:=gC (fun a=>getB a 0) (fun _=>True) (fun b=>[.bool b]) [.bool b] k
theorem gBit_eq{R:Type}{b:Bool}{k:Bool->Option R}:gBit b k=k b:=gC_eq b rfl trivial (.refl _)
def gCat{R:Type}(ls:List (List Int))(k:List (List Int)->Option R):Option R:=gC (dL decBl) preC (fun ls=>[encBls ls]) [.trl 1 (ls.map encBl)] k
theorem dec_trl{X:Type}{e:X->List AV}{d:List AV->X}(h:∀ x,d (e x)=x)(sz:Nat)(l:List X):decL d (.trl sz (l.map e))=l:=by
 simp[decL,List.map_map,Function.comp_def,h]
theorem gCat_eq{R:Type}{ls:List (List Int)}{k:List (List Int)->Option R}(h:preC ls):gCat ls k=k ls:=
 gC_eq ls (dec_trl (fun l=>decBy l) 1 ls) h (.cons (.trl_encL ls) .nil)
def gNums{R:Type}(l:List Int)(k:List Int->Option R):Option R:=gC (dL decI) preN (fun l=>[encIs l]) [.trl 1 (l.map encI)] k
theorem gNums_eq{R:Type}{l:List Int}{k:List Int->Option R}(h:preN l):gNums l k=k l:=
 gC_eq l (dec_trl (fun _=>rfl) 1 l) h (.cons (.trl_encL l) .nil)
def lnG(l:List (List Int)):Bool:=match l with
 | []=>true
 | a::r=>Nat.ble a.length a.length&&true&&lnG r
theorem lnG_eq:∀ l,lnG l=true
 | []=>rfl
 | a::r=>by simp[lnG,lnG_eq r,ble_self]
def verB(v:Ver):List Int:=[intB (vE v),intB (vN v)].flatten
theorem ver_eq(v:Ver):callH envV 2 F_lockgateref05_Ver [.cplx .f64 v.re v.im] [] =
  bif(fI v.re).isSome then bif decide (IntKind.i64.min<=(fI v.re).getD 0)&&decide ((fI v.re).getD 0<=IntKind.i64.max)then gI ((fI v.re).getD 0) fun y0=>
   bif(fI v.im).isSome then bif decide (IntKind.i64.min<=(fI v.im).getD 0)&&decide ((fI v.im).getD 0<=IntKind.i64.max)then gI ((fI v.im).getD 0) fun y1=>
    bif Nat.ble (ne (intB y0)).length (ne (intB y0)).length&&true&&(Nat.ble (ne (intB y1)).length (ne (intB y1)).length&&true&&true)&&true&&true then gCat [ne (intB y0),ne (intB y1)] fun y=>some (outB (ne y.flatten))
    else none else none else none else none else none:=by kernel_rfl
def PP(l:List Int):Prop:=l ≠ []/\l.length<=100000
theorem pc2{a b:List Int}(ha:PP a)(hb:PP b):preC [a,b]:=⟨by simp,by simp,ac (p:=PP) ha (ac (p:=PP) hb an)⟩
theorem intP(n:Int):PP (intB n):=⟨intB_ne n,by have:=intB_len n;omega⟩
theorem ver_con(v:Ver)(h:VInt v):Contract PG F_lockgateref05_Ver [.cplx .f64 v.re v.im] [] (outB (ne (verB v))).1 (outB (ne (verB v))).2:=by
 refine conB kns1_ok (n:=2) ((ver_eq v).trans ?_)
 obtain⟨h1,h2⟩:=h
 simp only[h1.1,decide_eq_true h1.2.1,decide_eq_true h1.2.2,h2.1,decide_eq_true h2.2.1,decide_eq_true h2.2.2,cond_true,Bool.and_true,gI_eq (okI64 h1),gI_eq (okI64 h2),ble_self,ne_eq (intB_ne _)]
 rw[gCat_eq (pc2 (intP _) (intP _))]
 rfl
theorem verB_ne(v:Ver):verB v ≠ []:=by simp[verB,intB_ne]
theorem verB_len(v:Ver):(verB v).length<=22:=by
 have h1:=intB_len (vE v)
 have h2:=intB_len (vN v)
 simp[verB];omega
def kVer:Known:=.specB F_lockgateref05_Ver (fun a=>(⟨(getC a 0).1,(getC a 0).2⟩:Ver)) VInt (fun v=>[.cplx .f64 v.re v.im]) (fun v=>outB (ne (verB v)))
theorem kVer_ok:kVer.Ok PG:=Known.specB_ok ver_con
def gVer{R:Type}(v:Ver)(k:Ver->Option R):Option R:=gC (fun a=>(⟨(getC a 0).1,(getC a 0).2⟩:Ver)) VInt (fun v=>[.cplx .f64 v.re v.im]) [.cplx .f64 v.re v.im] k
theorem gVer_eq{R:Type}{v:Ver}{k:Ver->Option R}(h:VInt v):gVer v k=k v:=gC_eq v rfl h (.refl _)
def oS(l:List Int):Nat × (Nat->List AV):=(l.length,fun i=>encB (l.getD i 0))
def apS(x:Nat × (Nat->List AV))(p:List Int):Nat × (Nat->List AV):=(x.1+p.length,appF x.1 x.2 p.length fun i=>encB (p.getD i 0))
def apL(x:Nat × (Nat->List AV))(p:List Int):Nat × (Nat->List AV):=(x.1+p.length,appF x.1 x.2 p.length fun i=>(p.map encB).getD i [])
theorem apS_eq(l p:List Int):apS (oS l) p=oS (l++p):=by
 unfold apS oS
 simp only[appF_enc encB 0 l p,List.length_append]
theorem apL_eq(l p:List Int):apL (oS l) p=oS (l++p):=by
 unfold apL oS
 simp only[appF_lit encB 0 l p,List.length_append]
def outX(x:Nat × (Nat->List AV)):AV × Heap:=(.sl 1 0 0 x.1 0,[.seq true 1 x.1 x.2])
def gAp{R:Type}(x:Nat × (Nat->List AV))(p:List Int)(k:Option R):Option R:=
 bif(Nat.beq x.1 0||Nat.ble x.1 x.1)then bif Nat.ble p.length p.length then bif Nat.ble ((x.1+p.length)*1) 140737488355328&&Nat.ble (x.1+p.length) 140737488355328 then k else none else none else none
theorem gAp_eq{R:Type}{l p:List Int}{k:Option R}(h:l.length+p.length<=1000000000):gAp (oS l) p k=k:=by
 unfold gAp oS
 simp only[ble_self,Bool.or_true,roomB h,cond_true]
theorem textP{s:List UInt8}(h:s.length<=2000):PP (textB s):=⟨textB_ne s,by have:=textB_len s;omega⟩
theorem bitP(b:Bool):PP [bitI b]:=⟨by simp,by simp⟩
def opB(o:Md.Op):List Int:=[intB o.kind,textB o.key,textB o.val,textB o.old,[bitI o.hasOld]].flatten
theorem op_eq(o:Md.Op):callH envV 2 F_lockgateref05_Op [.agg (encOp o)] [] =
  gI o.kind fun a=>gT o.key fun b=>gT o.val fun c=>gT o.old fun d=>gBit o.hasOld fun e=>
   bif lnG [ne (intB a),ne (textB b),ne (textB c),ne (textB d),[bitI e]]&&true&&true then
    gCat [ne (intB a),ne (textB b),ne (textB c),ne (textB d),[bitI e]] fun y=>some (outB (ne y.flatten))else none:=by kernel_rfl
def OpOk'(o:Md.Op):Prop:=I64 o.kind/\o.key.length<=2000/\o.val.length<=2000/\o.old.length<=2000
theorem opB_ne(o:Md.Op):opB o ≠ []:=by simp[opB,intB_ne]
theorem LB2{n:Nat}(h:n<=2000):n<=LB:=by unfold LB;omega
theorem op_con(o:Md.Op)(h:OpOk' o):Contract PG F_lockgateref05_Op [.agg (encOp o)] [] (outB (ne (opB o))).1 (outB (ne (opB o))).2:=by
 refine conB kns1_ok (n:=2) ((op_eq o).trans ?_)
 obtain⟨h1,h2,h3,h4⟩:=h
 rw[gI_eq h1,gT_eq (LB2 h2),gT_eq (LB2 h3),gT_eq (LB2 h4),gBit_eq,lnG_eq,ne_eq (intB_ne _),ne_eq (textB_ne _),ne_eq (textB_ne _),ne_eq (textB_ne _)]
 simp only[Bool.and_true,cond_true]
 rw[gCat_eq ⟨by simp,by simp,ac (p:=PP) (intP _) (ac (p:=PP) (textP h2) (ac (p:=PP) (textP h3) (ac (p:=PP) (textP h4) (ac (p:=PP) (bitP _) an))))⟩]
 rfl
theorem opB_len{o:Md.Op}(h:OpOk' o):(opB o).length<=7000:=by
 obtain⟨h1,h2,h3,h4⟩:=h
 have a1:=intB_len o.kind
 have a2:=textB_len o.key
 have a3:=textB_len o.val
 have a4:=textB_len o.old
 simp[opB];omega
def kOp:Known:=.specB F_lockgateref05_Op (fun a=>decOp (argC a 0)) OpOk' (fun o=>[.agg (encOp o)]) (fun o=>outB (ne (opB o)))
theorem kOp_ok:kOp.Ok PG:=Known.specB_ok op_con
def gOp{R:Type}(o:Md.Op)(k:Md.Op->Option R):Option R:=gC (fun a=>decOp (argC a 0)) OpOk' (fun o=>[.agg (encOp o)]) [.agg (encOp o)] k
theorem gOp_eq{R:Type}{o:Md.Op}{k:Md.Op->Option R}(h:OpOk' o):gOp o k=k o:=gC_eq o rfl h (.refl _)
def kns2:List Known:=[kInt',kText,kCat,kBit05,kBit06,kNums,kVer,kOp]
theorem kns2_ok:∀ k ∈ kns2,k.Ok PG:=ak kInt'_ok (ak kText_ok (ak kCat_ok (ak kBit05_ok (ak kBit06_ok (ak kNums_ok (ak kVer_ok (ak kOp_ok ank)))))))
def envW:Env:=envB kns2
def entB(e:Entry):List Int:=[verB e.ver,intB e.kind,textB e.key,textB e.val,[bitI e.write],[bitI e.del],intB e.sess,intB e.num,intB e.code,textB e.res,[bitI e.hasRes]].flatten
theorem ent_eq(e:Entry):callH envW 2 F_lockgateref05_Entry [.agg (encEntry e)] [] =
  gVer e.ver fun v=>gI e.kind fun a=>gT e.key fun b=>gT e.val fun c=>gBit e.write fun d=>gBit e.del fun f=>gI e.sess fun g=>gI e.num fun h=>gI e.code fun i=>gT e.res fun j=>gBit e.hasRes fun k=>
   bif lnG [ne (verB v),ne (intB a),ne (textB b),ne (textB c),[bitI d],[bitI f],ne (intB g),ne (intB h),ne (intB i),ne (textB j),[bitI k]]&&true&&true then
    gCat [ne (verB v),ne (intB a),ne (textB b),ne (textB c),[bitI d],[bitI f],ne (intB g),ne (intB h),ne (intB i),ne (textB j),[bitI k]] fun y=>some (outB (ne y.flatten))else none:=by kernel_rfl
def EntOk(e:Entry):Prop:=VInt e.ver/\I64 e.kind/\e.key.length<=2000/\e.val.length<=2000/\I64 e.sess/\I64 e.num/\I64 e.code/\e.res.length<=2000
theorem entB_ne(e:Entry):entB e ≠ []:=by simp[entB,verB_ne]
theorem verP(v:Ver):PP (verB v):=⟨verB_ne v,by have:=verB_len v;omega⟩
theorem ent_con(e:Entry)(h:EntOk e):Contract PG F_lockgateref05_Entry [.agg (encEntry e)] [] (outB (ne (entB e))).1 (outB (ne (entB e))).2:=by
 refine conB kns2_ok (n:=2) ((ent_eq e).trans ?_)
 obtain⟨h0,h1,h2,h3,h4,h5,h6,h7⟩:=h
 simp only[gVer_eq h0,gI_eq h1,gT_eq (LB2 h2),gT_eq (LB2 h3),gBit_eq,gI_eq h4,gI_eq h5,gI_eq h6,gT_eq (LB2 h7),lnG_eq,ne_eq (intB_ne _),ne_eq (textB_ne _),ne_eq (verB_ne _),Bool.and_true,cond_true]
 rw[gCat_eq ⟨by simp,by simp,ac (p:=PP) (verP _) (ac (p:=PP) (intP _) (ac (p:=PP) (textP h2) (ac (p:=PP) (textP h3) (ac (p:=PP) (bitP _) (ac (p:=PP) (bitP _) (ac (p:=PP) (intP _) (ac (p:=PP) (intP _) (ac (p:=PP) (intP _) (ac (p:=PP) (textP h7) (ac (p:=PP) (bitP _) an))))))))))⟩]
 rfl
theorem entB_len{e:Entry}(h:EntOk e):(entB e).length<=7000:=by
 obtain⟨h0,h1,h2,h3,h4,h5,h6,h7⟩:=h
 have a0:=verB_len e.ver
 have a1:=intB_len e.kind
 have a2:=textB_len e.key
 have a3:=textB_len e.val
 have a4:=intB_len e.sess
 have a5:=intB_len e.num
 have a6:=intB_len e.code
 have a7:=textB_len e.res
 simp[entB];omega
def kEnt:Known:=.specB F_lockgateref05_Entry (fun a=>decEntry (argC a 0)) EntOk (fun o=>[.agg (encEntry o)]) (fun o=>outB (ne (entB o)))
theorem kEnt_ok:kEnt.Ok PG:=Known.specB_ok ent_con
def gEnt{R:Type}(o:Entry)(k:Entry->Option R):Option R:=gC (fun a=>decEntry (argC a 0)) EntOk (fun o=>[.agg (encEntry o)]) [.agg (encEntry o)] k
theorem gEnt_eq{R:Type}{o:Entry}{k:Entry->Option R}(h:EntOk o):gEnt o k=k o:=gC_eq o rfl h (.refl _)
def kns3:List Known:=[kInt',kText,kCat,kBit05,kBit06,kNums,kVer,kOp,kEnt]
theorem kns3_ok:∀ k ∈ kns3,k.Ok PG:=ak kInt'_ok (ak kText_ok (ak kCat_ok (ak kBit05_ok (ak kBit06_ok (ak kNums_ok (ak kVer_ok (ak kOp_ok (ak kEnt_ok ank))))))))
def envX:Env:=envB kns3
def SL(l:AV)(x:Nat × (Nat->List AV))(i:Int):St:={fr:=[(0,l),(3,.sl 1 0 0 x.1 0),(4,.int .i64 i)],hp:=[.seq true 1 x.1 x.2]}
theorem list_con{X:Type}{F:Nat}{l:List X}{z:X}{al:AV}{p:X->List Int}{c:Nat}(hl:l.length<=1000)(hp:∀ x ∈ l,(p x).length<=c)(hc:c<=100000)
  (hin:∀ N,callH envX (N+1) F [al] []=gI (l.length:Int) fun y=>LP envX N 0 F (hnK 0) 0 [] N (SL al (oS (ne (intB y))) 0))
  (hend:∀ N m acc,LP envX N 0 F (hnK 0) 0 [] (m+1) (SL al (oS acc) (l.length:Int))=some (outB acc))
  (hstep:∀ N m acc (i:Nat),i<l.length->acc.length<=11+c*1000->LP envX N 0 F (hnK 0) 0 [] (m+1) (SL al (oS acc) i)=LP envX N 0 F (hnK 0) 0 [] m (SL al (oS (acc++p (l.getD i z))) ((i+1:Nat):Int))) :
  Contract PG F [al] [] (outB (ne (intB l.length++l.flatMap p))).1 (outB (ne (intB l.length++l.flatMap p))).2:=by
 refine conB kns3_ok (n:=l.length+2) ((hin (l.length+1)).trans ?_)
 rw[gI_eq (by unfold I64;omega),ne_eq (intB_ne _),ne_eq (by simp[intB_ne])]
 have hb:=intB_len (l.length:Int)
 have:=app_loop (l:=l) (z:=z) (p:=p) (c:=c) (a0:=11) (by unfold LB;omega) hp (G:=fun m acc i=>LP envX (l.length+1) 0 F (hnK 0) 0 [] m (SL al (oS acc) i)) (fun m acc=>hend _ m acc)
  (fun m acc i hi ha=>hstep _ m acc i hi (by have:c*l.length<=c*1000:=Nat.mul_le_mul_left c hl;omega)) 0 (l.length+1) (Nat.zero_le _) (by omega) (intB l.length) (by omega)
 rw[List.drop_zero]at this
 exact this
def entsB(l:List Entry):List Int:=intB l.length++l.flatMap entB
theorem ents_in(N:Nat)(l:List Entry):callH envX (N+1) F_lockgateref06_entries [encEntrys l] []=gI (l.length:Int) fun y=>LP envX N 0 F_lockgateref06_entries (hnK 0) 0 [] N (SL (encEntrys l) (oS (ne (intB y))) 0):=by kernel_rfl
theorem ents_step(N m:Nat)(l:List Entry)(acc:List Int)(i:Int):LP envX N 0 F_lockgateref06_entries (hnK 0) 0 [] (m+1) (SL (encEntrys l) (oS acc) i) =
  bif decide (i<(l.length:Int))then bif decide (0<=i)&&decide (i<(l.length:Int))then
   gEnt (l.getD i.toNat default) fun y=>gAp (oS acc) (ne (entB y)) <| LP envX N 0 F_lockgateref06_entries (hnK 0) 0 [] m (SL (encEntrys l) (apS (oS acc) (ne (entB y))) (IntKind.i64.wrap (i+1)))
  else none else some (outB acc):=by kernel_rfl
def EntsOk(l:List Entry):Prop:=l.length<=1000 /\ ∀ e ∈ l,EntOk e
theorem ents_con(l:List Entry)(h:EntsOk l):Contract PG F_lockgateref06_entries [encEntrys l] [] (outB (ne (entsB l))).1 (outB (ne (entsB l))).2:=by
 refine list_con (z:=default) h.1 (fun e he=>entB_len (h.2 e he)) (by omega) (fun N=>ents_in N l) (fun N m acc=>?_) (fun N m acc i hi ha=>?_)
 ·rw[ents_step,dec_nat,decide_eq_false (by omega),cond_false]
 ·rw[ents_step,dec_nat,decide_eq_true hi,dec_nonneg]
  simp only[cond_true,Bool.and_true,Int.toNat_natCast]
  have hx:=h.2 _ (getD_mem hi (z:=default))
  have hb:=entB_len hx
  rw[gEnt_eq hx,ne_eq (entB_ne _),gAp_eq (by omega),apS_eq,wrapS (by have:=h.1;omega)]
def memB(m:Member):List Int:=numsB [m.node,m.boot]
def memsB(l:List Member):List Int:=intB l.length++l.flatMap memB
theorem mems_in(N:Nat)(l:List Member):callH envX (N+1) F_lockgateref06_members [encMembers l] []=gI (l.length:Int) fun y=>LP envX N 0 F_lockgateref06_members (hnK 0) 0 [] N (SL (encMembers l) (oS (ne (intB y))) 0):=by kernel_rfl
theorem mems_step(N m:Nat)(l:List Member)(acc:List Int)(i:Int):LP envX N 0 F_lockgateref06_members (hnK 0) 0 [] (m+1) (SL (encMembers l) (oS acc) i) =
  bif decide (i<(l.length:Int))then bif decide (0<=i)&&decide (i<(l.length:Int))then bif decide (0<=i)&&decide (i<(l.length:Int))then
   gNums [(l.getD i.toNat default).node,(l.getD i.toNat default).boot] fun y=>gAp (oS acc) (ne (numsB y)) <| LP envX N 0 F_lockgateref06_members (hnK 0) 0 [] m (SL (encMembers l) (apS (oS acc) (ne (numsB y))) (IntKind.i64.wrap (i+1)))
  else none else none else some (outB acc):=by kernel_rfl
def MemOk(m:Member):Prop:=I64 m.node/\I64 m.boot
def MemsOk(l:List Member):Prop:=l.length<=1000 /\ ∀ m ∈ l,MemOk m
theorem mems_con(l:List Member)(h:MemsOk l):Contract PG F_lockgateref06_members [encMembers l] [] (outB (ne (memsB l))).1 (outB (ne (memsB l))).2:=by
 refine list_con (z:=default) (c:=22) h.1 (fun e he=>numsB_len _) (by omega) (fun N=>mems_in N l) (fun N m acc=>?_) (fun N m acc i hi ha=>?_)
 ·rw[mems_step,dec_nat,decide_eq_false (by omega),cond_false]
 ·rw[mems_step,dec_nat,decide_eq_true hi,dec_nonneg]
  simp only[cond_true,Bool.and_true,Int.toNat_natCast]
  have hx:=h.2 _ (getD_mem hi (z:=default))
  have hb:=numsB_len [(l.getD i default).node,(l.getD i default).boot]
  simp only[List.length_cons,List.length_nil]at hb
  rw[gNums_eq ⟨by simp[LB],by simp,ac (p:=I64) hx.1 (ac (p:=I64) hx.2 an)⟩,ne_eq (numsB_ne (by simp)),gAp_eq (by omega),apS_eq,wrapS (by have:=h.1;omega)]
  rfl
def gMems{R:Type}(l:List Member)(k:List Member->Option R):Option R:=gC (dL decMember) MemsOk (fun l=>[encMembers l]) [encMembers l] k
theorem gMems_eq{R:Type}{l:List Member}{k:List Member->Option R}(h:MemsOk l):gMems l k=k l:=gC_eq l (decMembers l) h (.refl _)
def kMems:Known:=.specB F_lockgateref06_members (dL decMember) MemsOk (fun l=>[encMembers l]) (fun l=>outB (ne (memsB l)))
theorem kMems_ok:kMems.Ok PG:=Known.specB_ok mems_con
def gEnts{R:Type}(l:List Entry)(k:List Entry->Option R):Option R:=gC (dL decEntry) EntsOk (fun l=>[encEntrys l]) [encEntrys l] k
theorem gEnts_eq{R:Type}{l:List Entry}{k:List Entry->Option R}(h:EntsOk l):gEnts l k=k l:=gC_eq l (decEntrys l) h (.refl _)
def kEnts:Known:=.specB F_lockgateref06_entries (dL decEntry) EntsOk (fun l=>[encEntrys l]) (fun l=>outB (ne (entsB l)))
theorem kEnts_ok:kEnts.Ok PG:=Known.specB_ok ents_con
def kns4:List Known:=[kInt',kText,kCat,kBit05,kBit06,kNums,kVer,kOp,kEnt,kMems,kEnts]
theorem kns4_ok:∀ k ∈ kns4,k.Ok PG:=ak kInt'_ok (ak kText_ok (ak kCat_ok (ak kBit05_ok (ak kBit06_ok (ak kNums_ok (ak kVer_ok (ak kOp_ok (ak kEnt_ok (ak kMems_ok (ak kEnts_ok ank))))))))))
def envY:Env:=envB kns4
theorem list_conY{X:Type}{F:Nat}{l:List X}{z:X}{al:AV}{p:X->List Int}{c:Nat}(hl:l.length<=1000)(hp:∀ x ∈ l,(p x).length<=c)(hc:c<=100000)
  (hin:∀ N,callH envY (N+1) F [al] []=gI (l.length:Int) fun y=>LP envY N 0 F (hnK 0) 0 [] N (SL al (oS (ne (intB y))) 0))
  (hend:∀ N m acc,LP envY N 0 F (hnK 0) 0 [] (m+1) (SL al (oS acc) (l.length:Int))=some (outB acc))
  (hstep:∀ N m acc (i:Nat),i<l.length->acc.length<=11+c*1000->LP envY N 0 F (hnK 0) 0 [] (m+1) (SL al (oS acc) i)=LP envY N 0 F (hnK 0) 0 [] m (SL al (oS (acc++p (l.getD i z))) ((i+1:Nat):Int))) :
  Contract PG F [al] [] (outB (ne (intB l.length++l.flatMap p))).1 (outB (ne (intB l.length++l.flatMap p))).2:=by
 refine conB kns4_ok (n:=l.length+2) ((hin (l.length+1)).trans ?_)
 rw[gI_eq (by unfold I64;omega),ne_eq (intB_ne _),ne_eq (by simp[intB_ne])]
 have hb:=intB_len (l.length:Int)
 have:=app_loop (l:=l) (z:=z) (p:=p) (c:=c) (a0:=11) (by unfold LB;omega) hp (G:=fun m acc i=>LP envY (l.length+1) 0 F (hnK 0) 0 [] m (SL al (oS acc) i)) (fun m acc=>hend _ m acc)
  (fun m acc i hi ha=>hstep _ m acc i hi (by have:c*l.length<=c*1000:=Nat.mul_le_mul_left c hl;omega)) 0 (l.length+1) (Nat.zero_le _) (by omega) (intB l.length) (by omega)
 rw[List.drop_zero]at this
 exact this
def gAs{R:Type}(x:Nat × (Nat->List AV))(p:List Int)(k:Option R):Option R:=
 bif Nat.ble x.1 x.1 then bif Nat.ble p.length p.length then bif Nat.ble ((x.1+p.length)*1) 140737488355328&&Nat.ble (x.1+p.length) 140737488355328 then k else none else none else none
def gAq{R:Type}(x:Nat × (Nat->List AV))(p:List Int)(k:Option R):Option R:=
 bif Nat.ble x.1 x.1 then bif Nat.ble ((x.1+p.length)*1) 140737488355328&&Nat.ble (x.1+p.length) 140737488355328 then k else none else none
theorem gAs_eq{R:Type}{l p:List Int}{k:Option R}(h:l.length+p.length<=1000000000):gAs (oS l) p k=k:=by
 unfold gAs oS
 simp only[ble_self,roomB h,cond_true]
theorem gAq_eq{R:Type}{l p:List Int}{k:Option R}(h:l.length+p.length<=1000000000):gAq (oS l) p k=k:=by
 unfold gAq oS
 simp only[ble_self,roomB h,cond_true]
def viewB(v:Md.View):List Int:=numsB [v.shard,v.epoch,v.gen,v.phase]++memsB v.chain
def viewsB(l:List Md.View):List Int:=intB l.length++l.flatMap viewB
theorem views_in(N:Nat)(l:List Md.View):callH envY (N+1) F_lockgateref06_Views [encViews l] []=gI (l.length:Int) fun y=>LP envY N 0 F_lockgateref06_Views (hnK 0) 0 [] N (SL (encViews l) (oS (ne (intB y))) 0):=by kernel_rfl
def rg(i n:Int){R:Type}(k:Option R):Option R:=bif decide (0<=i)&&decide (i<n)then k else none
theorem rg_eq{i n:Nat}(h:i<n){R:Type}{k:Option R}:rg (i:Int) (n:Int) k=k:=by
 unfold rg;rw[dec_nonneg,dec_nat,decide_eq_true h];rfl
theorem views_step(N m:Nat)(l:List Md.View)(acc:List Int)(i:Int):LP envY N 0 F_lockgateref06_Views (hnK 0) 0 [] (m+1) (SL (encViews l) (oS acc) i) =
  bif decide (i<(l.length:Int))then rg i l.length <| rg i l.length <| rg i l.length <| rg i l.length <|
   gNums [(l.getD i.toNat default).shard,(l.getD i.toNat default).epoch,(l.getD i.toNat default).gen,(l.getD i.toNat default).phase] fun y=>gAp (oS acc) (ne (numsB y)) <| rg i l.length <|
    gMems (l.getD i.toNat default).chain fun z=>gAs (apS (oS acc) (ne (numsB y))) (ne (memsB z)) <|
    LP envY N 0 F_lockgateref06_Views (hnK 0) 0 [] m (SL (encViews l) (apS (apS (oS acc) (ne (numsB y))) (ne (memsB z))) (IntKind.i64.wrap (i+1)))
  else some (outB acc):=by kernel_rfl
def ViewOk(v:Md.View):Prop:=I64 v.shard/\I64 v.epoch/\I64 v.gen/\I64 v.phase/\MemsOk v.chain
def ViewsOk(l:List Md.View):Prop:=l.length<=1000 /\ ∀ v ∈ l,ViewOk v
theorem memsB_len{l:List Member}(h:MemsOk l):(memsB l).length<=11+22*l.length:=by
 have h1:=intB_len (l.length:Int)
 have h2:(l.flatMap memB).length<=22*l.length:=by
  clear h h1
  induction l with
  | nil=>simp
  | cons a r ih=>
   have:=numsB_len [a.node,a.boot]
   simp only[List.flatMap_cons,List.length_append,List.length_cons,List.length_nil,memB]at ih this ⊢
   omega
 simp only[memsB,List.length_append];omega
theorem viewB_len{v:Md.View}(h:ViewOk v):(viewB v).length<=23000:=by
 have h1:=numsB_len [v.shard,v.epoch,v.gen,v.phase]
 have h2:=memsB_len h.2.2.2.2
 have h3:=h.2.2.2.2.1
 simp only[List.length_cons,List.length_nil]at h1
 simp only[viewB,List.length_append];omega
theorem memsB_ne(l:List Member):memsB l ≠ []:=by simp[memsB,intB_ne]
theorem views_con(l:List Md.View)(h:ViewsOk l):Contract PG F_lockgateref06_Views [encViews l] [] (outB (ne (viewsB l))).1 (outB (ne (viewsB l))).2:=by
 refine list_conY (z:=default) (c:=23000) h.1 (fun e he=>viewB_len (h.2 e he)) (by omega) (fun N=>views_in N l) (fun N m acc=>?_) (fun N m acc i hi ha=>?_)
 ·rw[views_step,dec_nat,decide_eq_false (by omega),cond_false]
 ·rw[views_step,dec_nat,decide_eq_true hi]
  simp only[cond_true,rg_eq hi,Int.toNat_natCast]
  have hx:=h.2 _ (getD_mem hi (z:=default))
  have hv:=viewB_len hx
  obtain⟨h1,h2,h3,h4,h5⟩:=hx
  simp only[viewB,List.length_append]at hv
  rw[gNums_eq ⟨by simp[LB],by simp,ac (p:=I64) h1 (ac (p:=I64) h2 (ac (p:=I64) h3 (ac (p:=I64) h4 an)))⟩,ne_eq (numsB_ne (by simp)),gAp_eq (by omega),apS_eq,gMems_eq h5,ne_eq (memsB_ne _),gAs_eq (by rw[List.length_append];omega),apS_eq,wrapS (by have:=h.1;omega),List.append_assoc]
  rfl
def seenB(s:Seen):List Int:=numsB [s.sess,s.num]++verB s.ver++numsB [s.kind,s.code]++textB s.res++[bitI s.hasRes]
def seensB(l:List Seen):List Int:=intB l.length++l.flatMap seenB
theorem seens_in(N:Nat)(l:List Seen):callH envY (N+1) F_lockgateref06_seens [encSeens l] []=gI (l.length:Int) fun y=>LP envY N 0 F_lockgateref06_seens (hnK 0) 0 [] N (SL (encSeens l) (oS (ne (intB y))) 0):=by kernel_rfl
theorem seens_step(N m:Nat)(l:List Seen)(acc:List Int)(i:Int):LP envY N 0 F_lockgateref06_seens (hnK 0) 0 [] (m+1) (SL (encSeens l) (oS acc) i) =
  bif decide (i<(l.length:Int))then rg i l.length <| rg i l.length <|
   gNums [(l.getD i.toNat default).sess,(l.getD i.toNat default).num] fun y=>gAp (oS acc) (ne (numsB y)) <| rg i l.length <|
   gVer (l.getD i.toNat default).ver fun v=>gAs (apS (oS acc) (ne (numsB y))) (ne (verB v)) <| rg i l.length <| rg i l.length <|
   gNums [(l.getD i.toNat default).kind,(l.getD i.toNat default).code] fun w=>gAs (apS (apS (oS acc) (ne (numsB y))) (ne (verB v))) (ne (numsB w)) <| rg i l.length <|
   gT (l.getD i.toNat default).res fun t=>gAs (apS (apS (apS (oS acc) (ne (numsB y))) (ne (verB v))) (ne (numsB w))) (ne (textB t)) <| rg i l.length <|
   gBit (l.getD i.toNat default).hasRes fun b=>gAq (apS (apS (apS (apS (oS acc) (ne (numsB y))) (ne (verB v))) (ne (numsB w))) (ne (textB t))) [bitI b] <|
    LP envY N 0 F_lockgateref06_seens (hnK 0) 0 [] m (SL (encSeens l) (apL (apS (apS (apS (apS (oS acc) (ne (numsB y))) (ne (verB v))) (ne (numsB w))) (ne (textB t))) [bitI b]) (IntKind.i64.wrap (i+1)))
  else some (outB acc):=by kernel_rfl
def SeenOk(s:Seen):Prop:=I64 s.sess/\I64 s.num/\VInt s.ver/\I64 s.kind/\I64 s.code/\s.res.length<=2000
def SeensOk(l:List Seen):Prop:=l.length<=1000 /\ ∀ v ∈ l,SeenOk v
theorem seenB_len{s:Seen}(h:SeenOk s):(seenB s).length<=3000:=by
 have h1:=numsB_len [s.sess,s.num]
 have h2:=numsB_len [s.kind,s.code]
 have h3:=verB_len s.ver
 have h4:=textB_len s.res
 have h5:=h.2.2.2.2.2
 simp only[List.length_cons,List.length_nil]at h1 h2
 simp only[seenB,List.length_append,List.length_cons,List.length_nil];omega
theorem seens_con(l:List Seen)(h:SeensOk l):Contract PG F_lockgateref06_seens [encSeens l] [] (outB (ne (seensB l))).1 (outB (ne (seensB l))).2:=by
 refine list_conY (z:=default) (c:=3000) h.1 (fun e he=>seenB_len (h.2 e he)) (by omega) (fun N=>seens_in N l) (fun N m acc=>?_) (fun N m acc i hi ha=>?_)
 ·rw[seens_step,dec_nat,decide_eq_false (by omega),cond_false]
 ·rw[seens_step,dec_nat,decide_eq_true hi]
  simp only[cond_true,rg_eq hi,Int.toNat_natCast]
  have hx:=h.2 _ (getD_mem hi (z:=default))
  have hv:=seenB_len hx
  obtain⟨h1,h2,h3,h4,h5,h6⟩:=hx
  simp only[seenB,List.length_append,List.length_cons,List.length_nil]at hv
  rw[gNums_eq ⟨by simp[LB],by simp,ac (p:=I64) h1 (ac (p:=I64) h2 an)⟩,ne_eq (numsB_ne (by simp)),gAp_eq (by omega),apS_eq,gVer_eq h3,ne_eq (verB_ne _),gAs_eq (by rw[List.length_append];omega),apS_eq,
   gNums_eq ⟨by simp[LB],by simp,ac (p:=I64) h4 (ac (p:=I64) h5 an)⟩,ne_eq (numsB_ne (by simp)),gAs_eq (by simp only[List.length_append];omega),apS_eq,gT_eq (LB2 h6),ne_eq (textB_ne _),gAs_eq (by simp only[List.length_append];omega),apS_eq,
   gBit_eq,gAq_eq (by simp only[List.length_append,List.length_cons,List.length_nil];omega),apL_eq,wrapS (by have:=h.1;omega)]
  simp only[seenB,List.append_assoc]
end Go.Wk
end
noncomputable section
open Go Go.AM Go.Md
namespace Go.Wk
set_option maxRecDepth 100000
set_option maxHeartbeats 2000000
theorem flat_len{X:Type}{p:X->List Int}{c:Nat}:∀ {l:List X},(∀ x ∈ l,(p x).length<=c)->(l.flatMap p).length<=c*l.length
 | [],_=>by simp
 | a::r,h=>by
  have h1:=h a (by simp)
  have h2:=flat_len (l:=r) (p:=p) (c:=c) fun x hx=>h x (by simp[hx])
  simp only[List.flatMap_cons,List.length_append,List.length_cons,Nat.mul_add,Nat.mul_one]at h2 ⊢
  omega
theorem flat_len'{X:Type}{p:X->List Int}{c:Nat}{l:List X}(hl:l.length<=1000)(h:∀ x ∈ l,(p x).length<=c):(intB l.length++l.flatMap p).length<=11+c*1000:=by
 have h1:=intB_len (l.length:Int)
 have h2:=flat_len h
 have h3:c*l.length<=c*1000:=Nat.mul_le_mul_left c hl
 simp only[List.length_append];omega
theorem entsB_len{l:List Entry}(h:EntsOk l):(entsB l).length<=10000000:=by
 have:=flat_len' (p:=entB) h.1 fun x hx=>entB_len (h.2 x hx)
 unfold entsB;omega
theorem seensB_len{l:List Seen}(h:SeensOk l):(seensB l).length<=10000000:=by
 have:=flat_len' (p:=seenB) h.1 fun x hx=>seenB_len (h.2 x hx)
 unfold seensB;omega
theorem viewsB_len{l:List Md.View}(h:ViewsOk l):(viewsB l).length<=30000000:=by
 have:=flat_len' (p:=viewB) h.1 fun x hx=>viewB_len (h.2 x hx)
 unfold viewsB;omega
theorem entsB_ne(l:List Entry):entsB l ≠ []:=by simp[entsB,intB_ne]
theorem seensB_ne(l:List Seen):seensB l ≠ []:=by simp[seensB,intB_ne]
theorem viewsB_ne(l:List Md.View):viewsB l ≠ []:=by simp[viewsB,intB_ne]
def gViews{R:Type}(l:List Md.View)(k:List Md.View->Option R):Option R:=gC (dL decView) ViewsOk (fun l=>[encViews l]) [encViews l] k
theorem gViews_eq{R:Type}{l:List Md.View}{k:List Md.View->Option R}(h:ViewsOk l):gViews l k=k l:=gC_eq l (decViews l) h (.refl _)
def kViews:Known:=.specB F_lockgateref06_Views (dL decView) ViewsOk (fun l=>[encViews l]) (fun l=>outB (ne (viewsB l)))
theorem kViews_ok:kViews.Ok PG:=Known.specB_ok views_con
def gSeens{R:Type}(l:List Seen)(k:List Seen->Option R):Option R:=gC (dL decSeen) SeensOk (fun l=>[encSeens l]) [encSeens l] k
theorem gSeens_eq{R:Type}{l:List Seen}{k:List Seen->Option R}(h:SeensOk l):gSeens l k=k l:=gC_eq l (decSeens l) h (.refl _)
def kSeens:Known:=.specB F_lockgateref06_seens (dL decSeen) SeensOk (fun l=>[encSeens l]) (fun l=>outB (ne (seensB l)))
theorem kSeens_ok:kSeens.Ok PG:=Known.specB_ok seens_con
def kns5:List Known:=[kInt',kText,kCat,kBit05,kBit06,kNums,kVer,kOp,kEnt,kMems,kEnts,kViews,kSeens]
theorem kns5_ok:∀ k ∈ kns5,k.Ok PG:=ak kInt'_ok (ak kText_ok (ak kCat_ok (ak kBit05_ok (ak kBit06_ok (ak kNums_ok (ak kVer_ok (ak kOp_ok (ak kEnt_ok (ak kMems_ok (ak kEnts_ok (ak kViews_ok (ak kSeens_ok ank))))))))))))
def envZ:Env:=envB kns5
def imgB(x:Image):List Int:=verB x.floor++verB x.last++intB x.gen++entsB x.log++seensB x.seen
theorem img_eq(x:Image):callH envZ 2 F_lockgateref06_Image [.agg (encImage x)] [] =
  gVer x.floor fun a=>gVer x.last fun b=>gAs (oS (ne (verB a))) (ne (verB b)) <|
  gI x.gen fun c=>gAs (apS (oS (ne (verB a))) (ne (verB b))) (ne (intB c)) <|
  gEnts x.log fun d=>gAs (apS (apS (oS (ne (verB a))) (ne (verB b))) (ne (intB c))) (ne (entsB d)) <|
  gSeens x.seen fun e=>gAs (apS (apS (apS (oS (ne (verB a))) (ne (verB b))) (ne (intB c))) (ne (entsB d))) (ne (seensB e)) <|
  some (outX (apS (apS (apS (apS (oS (ne (verB a))) (ne (verB b))) (ne (intB c))) (ne (entsB d))) (ne (seensB e)))):=by kernel_rfl
def ImgOk(x:Image):Prop:=VInt x.floor/\VInt x.last/\I64 x.gen/\EntsOk x.log/\SeensOk x.seen
theorem imgB_len{x:Image}(h:ImgOk x):(imgB x).length<=30000000:=by
 obtain⟨h1,h2,h3,h4,h5⟩:=h
 have a1:=verB_len x.floor
 have a2:=verB_len x.last
 have a3:=intB_len x.gen
 have a4:=entsB_len h4
 have a5:=seensB_len h5
 simp only[imgB,List.length_append];omega
theorem imgB_ne(x:Image):imgB x ≠ []:=by simp[imgB,verB_ne]
theorem img_con(x:Image)(h:ImgOk x):Contract PG F_lockgateref06_Image [.agg (encImage x)] [] (outB (ne (imgB x))).1 (outB (ne (imgB x))).2:=by
 refine conB kns5_ok (n:=2) ((img_eq x).trans ?_)
 obtain⟨h1,h2,h3,h4,h5⟩:=h
 have a1:=verB_len x.floor
 have a2:=verB_len x.last
 have a3:=intB_len x.gen
 have a4:=entsB_len h4
 have a5:=seensB_len h5
 rw[gVer_eq h1,gVer_eq h2,ne_eq (verB_ne _),ne_eq (verB_ne _),gAs_eq (by omega),apS_eq,gI_eq h3,ne_eq (intB_ne _),gAs_eq (by simp only[List.length_append];omega),apS_eq,
  gEnts_eq h4,ne_eq (entsB_ne _),gAs_eq (by simp only[List.length_append];omega),apS_eq,gSeens_eq h5,ne_eq (seensB_ne _),gAs_eq (by simp only[List.length_append];omega),apS_eq,ne_eq (imgB_ne _)]
 rfl
def gImg{R:Type}(l:Image)(k:Image->Option R):Option R:=gC (fun a=>decImage (argC a 0)) ImgOk (fun l=>[.agg (encImage l)]) [.agg (encImage l)] k
theorem gImg_eq{R:Type}{l:Image}{k:Image->Option R}(h:ImgOk l):gImg l k=k l:=gC_eq l (dec_encImage l) h (.refl _)
def kImg:Known:=.specB F_lockgateref06_Image (fun a=>decImage (argC a 0)) ImgOk (fun l=>[.agg (encImage l)]) (fun l=>outB (ne (imgB l)))
theorem kImg_ok:kImg.Ok PG:=Known.specB_ok img_con
def kns6:List Known:=[kInt',kText,kCat,kBit05,kBit06,kNums,kVer,kOp,kEnt,kMems,kEnts,kViews,kSeens,kImg]
theorem kns6_ok:∀ k ∈ kns6,k.Ok PG:=ak kInt'_ok (ak kText_ok (ak kCat_ok (ak kBit05_ok (ak kBit06_ok (ak kNums_ok (ak kVer_ok (ak kOp_ok (ak kEnt_ok (ak kMems_ok (ak kEnts_ok (ak kViews_ok (ak kSeens_ok (ak kImg_ok ank)))))))))))))
def envQ:Env:=envB kns6
def msgN(x:Msg):List Int:=[x.kind,x.src,x.dst,x.boot,x.sboot,x.shard,x.epoch,x.gen,x.sess,x.num,x.a,x.code]
def msgB(x:Msg):List Int:=numsB (msgN x)++[bitI x.has,bitI x.fresh]++textB x.key++textB x.val++verB x.ver++verB x.floor++opB x.op++entsB x.entries++memsB x.chain++viewsB x.views++imgB x.image
def pA{R:Type}(x:Nat × (Nat->List AV))(p:List Int)(k:Nat × (Nat->List AV)->Option R):Option R:=gAs x p (k (apS x p))
def pQ{R:Type}(x:Nat × (Nat->List AV))(p:List Int)(k:Nat × (Nat->List AV)->Option R):Option R:=gAq x p (k (apL x p))
theorem pA_eq{R:Type}{l p:List Int}{k:Nat × (Nat->List AV)->Option R}(h:l.length+p.length<=1000000000):pA (oS l) p k=k (oS (l++p)):=by
 unfold pA;rw[gAs_eq h,apS_eq]
theorem pQ_eq{R:Type}{l p:List Int}{k:Nat × (Nat->List AV)->Option R}(h:l.length+p.length<=1000000000):pQ (oS l) p k=k (oS (l++p)):=by
 unfold pQ;rw[gAq_eq h,apL_eq]
theorem msg_eq(x:Msg):callH envQ 2 F_lockgateref06_Msg [.agg (encMsg x)] [] =
  gNums (msgN x) fun y0=>gBit x.has fun y1=>gBit x.fresh fun y2=>pQ (oS (ne (numsB y0))) [bitI y1,bitI y2] fun s=>
  gT x.key fun y=>pA s (ne (textB y)) fun s=>
  gT x.val fun y=>pA s (ne (textB y)) fun s=>
  gVer x.ver fun y=>pA s (ne (verB y)) fun s=>
  gVer x.floor fun y=>pA s (ne (verB y)) fun s=>
  gOp x.op fun y=>pA s (ne (opB y)) fun s=>
  gEnts x.entries fun y=>pA s (ne (entsB y)) fun s=>
  gMems x.chain fun y=>pA s (ne (memsB y)) fun s=>
  gViews x.views fun y=>pA s (ne (viewsB y)) fun s=>
  gImg x.image fun y=>pA s (ne (imgB y)) fun s=>
  some (outX s):=by kernel_rfl
def MsgOk(x:Msg):Prop:=(∀ n ∈ msgN x,I64 n)/\x.key.length<=2000/\x.val.length<=2000/\VInt x.ver/\VInt x.floor/\OpOk' x.op/\EntsOk x.entries/\MemsOk x.chain/\ViewsOk x.views/\ImgOk x.image
theorem msgB_ne(x:Msg):msgB x ≠ []:=by simp[msgB,verB_ne]
theorem msg_con(x:Msg)(h:MsgOk x):Contract PG F_lockgateref06_Msg [.agg (encMsg x)] [] (outB (ne (msgB x))).1 (outB (ne (msgB x))).2:=by
 refine conB kns6_ok (n:=2) ((msg_eq x).trans ?_)
 obtain⟨h0,h1,h2,h3,h4,h5,h6,h7,h8,h9⟩:=h
 have a0:=numsB_len (msgN x)
 have a1:=textB_len x.key
 have a2:=textB_len x.val
 have a3:=verB_len x.ver
 have a4:=verB_len x.floor
 have a5:=opB_len h5
 have a6:=entsB_len h6
 have a7:=memsB_len h7
 have a7':=h7.1
 have a8:=viewsB_len h8
 have a9:=imgB_len h9
 have a0':(msgN x).length=12:=rfl
 rw[gNums_eq ⟨by simp[LB,a0'],by simp[msgN],h0⟩,gBit_eq,gBit_eq,ne_eq (numsB_ne (by simp[msgN])),pQ_eq (by simp only[List.length_cons,List.length_nil];omega),
  gT_eq (LB2 h1),ne_eq (textB_ne _),pA_eq (by simp only[List.length_append,List.length_cons,List.length_nil];omega),
  gT_eq (LB2 h2),ne_eq (textB_ne _),pA_eq (by simp only[List.length_append,List.length_cons,List.length_nil];omega),
  gVer_eq h3,ne_eq (verB_ne _),pA_eq (by simp only[List.length_append,List.length_cons,List.length_nil];omega),
  gVer_eq h4,ne_eq (verB_ne _),pA_eq (by simp only[List.length_append,List.length_cons,List.length_nil];omega),
  gOp_eq h5,ne_eq (opB_ne _),pA_eq (by simp only[List.length_append,List.length_cons,List.length_nil];omega),
  gEnts_eq h6,ne_eq (entsB_ne _),pA_eq (by simp only[List.length_append,List.length_cons,List.length_nil];omega),
  gMems_eq h7,ne_eq (memsB_ne _),pA_eq (by simp only[List.length_append,List.length_cons,List.length_nil];omega),
  gViews_eq h8,ne_eq (viewsB_ne _),pA_eq (by simp only[List.length_append,List.length_cons,List.length_nil];omega),
  gImg_eq h9,ne_eq (imgB_ne _),pA_eq (by simp only[List.length_append,List.length_cons,List.length_nil];omega),ne_eq (msgB_ne _)]
 rfl
theorem msgB_len{x:Msg}(h:MsgOk x):(msgB x).length<=100000000:=by
 obtain⟨h0,h1,h2,h3,h4,h5,h6,h7,h8,h9⟩:=h
 have a0:=numsB_len (msgN x)
 have a1:=textB_len x.key
 have a2:=textB_len x.val
 have a3:=verB_len x.ver
 have a4:=verB_len x.floor
 have a5:=opB_len h5
 have a6:=entsB_len h6
 have a7:=memsB_len h7
 have a7':=h7.1
 have a8:=viewsB_len h8
 have a9:=imgB_len h9
 have a0':(msgN x).length=12:=rfl
 simp only[msgB,List.length_append,List.length_cons,List.length_nil];omega
def kMsg:Known:=.specB F_lockgateref06_Msg (fun a=>decMsg (argC a 0)) MsgOk (fun l=>[.agg (encMsg l)]) (fun l=>outB (ne (msgB l)))
theorem kMsg_ok:kMsg.Ok PG:=Known.specB_ok msg_con
def gMsg{R:Type}(l:Msg)(k:Msg->Option R):Option R:=gC (fun a=>decMsg (argC a 0)) MsgOk (fun l=>[.agg (encMsg l)]) [.agg (encMsg l)] k
theorem gMsg_eq{R:Type}{l:Msg}{k:Msg->Option R}(h:MsgOk l):gMsg l k=k l:=gC_eq l (dec_encMsg l) h (.refl _)
theorem wrapB{i:Nat}(h:i<1000000000):IntKind.i64.wrap ((i:Int)+1)=((i+1:Nat):Int):=wrap64 (by omega)
theorem scan_loopB{n:Nat}(hn:n<=1000000000){G:Nat->Int->Option AV}{C:Nat->Bool}
  (hs:∀ m (i:Int),G (m+1) i=bif decide (i<(n:Int))then rg i n <| rg i n <|
   bif !(C i.toNat)then some (.bool false)else G m (IntKind.i64.wrap (i+1))else some (.bool true))
  (hC:∀ i,i<n->C i=true) {m:Nat} (hm:n<m):G m 0=some (.bool true):=by
 refine up_loop (n:=n) (fun i m=>G m (i:Int)=some (.bool true)) (fun m=>?_) (fun i m hi ih=>?_) 0 m (Nat.zero_le _) (by omega)
 ·rw[hs,dec_nat,decide_eq_false (by omega),cond_false]
 ·rw[hs,dec_nat,decide_eq_true hi]
  simp only[cond_true,rg_eq hi,Int.toNat_natCast,hC i hi,Bool.not_true,cond_false]
  rw[wrapB (by omega)];exact ih
def SSb(a:List Int)(i:Int):St:={fr:=[(0,encBy a),(1,encBy a),(5,.int .i64 i)],hp:=[]}
theorem same03_in(N:Nat)(x:List Int):callT env0 (N+1) F_lockgateref03_Same [encBy x,encBy x]=bif !decide ((x.length:Int)=(x.length:Int))then some (.bool false)else LP env0 N 0 F_lockgateref03_Same snK 0 [] N (SSb x 0):=by kernel_rfl
theorem same03_step(N:Nat)(a:List Int)(m:Nat)(i:Int):LP env0 N 0 F_lockgateref03_Same snK 0 [] (m+1) (SSb a i) =
  bif decide (i<(a.length:Int))then rg i a.length <| rg i a.length <|
   bif !(decide (a.getD i.toNat 0=a.getD i.toNat 0))then some (.bool false)else LP env0 N 0 F_lockgateref03_Same snK 0 [] m (SSb a (IntKind.i64.wrap (i+1)))else some (.bool true):=by kernel_rfl
theorem same03_con(a:List Int)(h:a.length<=1000000000):Contract PG F_lockgateref03_Same [encBy a,encBy a] [] (.bool true) []:=by
 refine con0 ((same03_in (a.length+1) a).trans ?_)
 rw[decide_eq_true rfl]
 exact scan_loopB (G:=fun m i=>LP env0 (a.length+1) 0 F_lockgateref03_Same snK 0 [] m (SSb a i)) (C:=fun i=>decide (a.getD i 0=a.getD i 0)) h (same03_step _ a) (fun i hi=>by simp) (by omega)
def kSame03:Known:=.spec F_lockgateref03_Same (dL decB) (fun a=>a.length<=1000000000) (fun l=>[encBy l,encBy l]) (fun _=>.bool true)
theorem kSame03_ok:kSame03.Ok PG:=Known.spec_ok same03_con
def gSame03{R:Type}(a b:List Int)(k:List Int->Option R):Option R:=gC (dL decB) (fun a=>a.length<=1000000000) (fun l=>[encBy l,encBy l]) [encBy a,encBy b] k
theorem gSame03_eq{R:Type}{a:List Int}{k:List Int->Option R}(h:a.length<=1000000000):gSame03 a a k=k a:=gC_eq a (decBy a) h (.refl _)
def kns7:List Known:=[kMsg,kSame03]
theorem kns7_ok:∀ k ∈ kns7,k.Ok PG:=ak kMsg_ok (ak kSame03_ok ank)
def env7:Env:=envB kns7
theorem same06_eq(x:Msg):callT env7 2 F_lockgateref06_Same [.agg (encMsg x),.agg (encMsg x)]=gMsg x fun a=>gMsg x fun b=>
  bif Nat.ble (ne (msgB a)).length (ne (msgB a)).length&&(Nat.ble (ne (msgB b)).length (ne (msgB b)).length&&true)then gSame03 (ne (msgB a)) (ne (msgB b)) fun _=>some (.bool true)else none:=by kernel_rfl
theorem conBT{l:List Known}(h:∀ k ∈ l,k.Ok PG){n f:Nat}{xs:List AV}{r:AV}(e:callT (envB l) n f xs=some r):Contract PG f xs [] r []:=
 callT_ok (envM_ok (md:=mdB) h) envM_code mixed e
theorem same06_con(x:Msg)(h:MsgOk x):Contract PG F_lockgateref06_Same [.agg (encMsg x),.agg (encMsg x)] [] (.bool true) []:=by
 refine conBT kns7_ok (n:=2) ((same06_eq x).trans ?_)
 rw[gMsg_eq h,gMsg_eq h,ne_eq (msgB_ne _)]
 simp only[ble_self,Bool.and_true,cond_true]
 rw[gSame03_eq (by have:=msgB_len h;omega)]
def kSame06:Known:=.spec F_lockgateref06_Same (fun a=>decMsg (argC a 0)) MsgOk (fun l=>[.agg (encMsg l),.agg (encMsg l)]) (fun _=>.bool true)
theorem kSame06_ok:kSame06.Ok PG:=Known.spec_ok same06_con
def env8:Env:=envB [kSame06]
def SSg(a:List Msg)(i:Int):St:={fr:=[(0,encMsgs a),(1,encMsgs a),(5,.int .i64 i)],hp:=[]}
def gSame06{R:Type}(x:Msg)(k:Msg->Option R):Option R:=gC (fun a=>decMsg (argC a 0)) MsgOk (fun l=>[.agg (encMsg l),.agg (encMsg l)]) [.agg (encMsg x),.agg (encMsg x)] k
theorem gSame06_eq{R:Type}{x:Msg}{k:Msg->Option R}(h:MsgOk x):gSame06 x k=k x:=gC_eq x (dec_encMsg x) h (.refl _)
theorem sameAll_in(N:Nat)(x:List Msg):callT env8 (N+1) F_lockgateref06_SameAll [encMsgs x,encMsgs x]=bif !decide ((x.length:Int)=(x.length:Int))then some (.bool false)else LP env8 N 0 F_lockgateref06_SameAll snK 0 [] N (SSg x 0):=by kernel_rfl
theorem sameAll_step(N:Nat)(a:List Msg)(m:Nat)(i:Int):LP env8 N 0 F_lockgateref06_SameAll snK 0 [] (m+1) (SSg a i) =
  bif decide (i<(a.length:Int))then rg i a.length <| rg i a.length <|
   gSame06 (a.getD i.toNat default) fun _=>LP env8 N 0 F_lockgateref06_SameAll snK 0 [] m (SSg a (IntKind.i64.wrap (i+1)))else some (.bool true):=by kernel_rfl
def MsgsOk(l:List Msg):Prop:=l.length<=LB /\ ∀ x ∈ l,MsgOk x
theorem sameAll_con(a:List Msg)(h:MsgsOk a):Contract PG F_lockgateref06_SameAll [encMsgs a,encMsgs a] [] (.bool true) []:=by
 refine conBT (ak kSame06_ok ank) ((sameAll_in (a.length+1) a).trans ?_)
 rw[decide_eq_true rfl,Bool.not_true,cond_false]
 refine up_loop (n:=a.length) (fun i m=>LP env8 (a.length+1) 0 F_lockgateref06_SameAll snK 0 [] m (SSg a (i:Int))=some (.bool true)) (fun m=>?_) (fun i m hi ih=>?_) 0 (a.length+1) (Nat.zero_le _) (by omega)
 ·rw[sameAll_step,dec_nat,decide_eq_false (by omega),cond_false]
 ·rw[sameAll_step,dec_nat,decide_eq_true hi]
  simp only[cond_true,rg_eq hi,Int.toNat_natCast]
  rw[gSame06_eq (h.2 _ (getD_mem hi)),wrapS (by have:=h.1;unfold LB at this;omega)]
  exact ih
def kSameAll:Known:=.spec F_lockgateref06_SameAll (dL decMsg) MsgsOk (fun l=>[encMsgs l,encMsgs l]) (fun _=>.bool true)
theorem kSameAll_ok:kSameAll.Ok PG:=Known.spec_ok sameAll_con
end Go.Wk
end
noncomputable section
open Go Go.AM Go.Md Go.Fl
open Ieee (double)
namespace Go.Wk
set_option maxRecDepth 100000
set_option maxHeartbeats 1000000
theorem ahead_eq(a b:Ver):callT env0 4 F_ver_Ahead [eV a,eV b]=bif !fEq .f64 a.re b.re then some (.bool (fLt .f64 a.re b.re))else some (.bool (fLt .f64 a.im b.im)):=by kernel_rfl
def eV2(p:Ver × Ver):List AV:=[eV p.1,eV p.2]
def dV2(a:List AV):Ver × Ver:=(⟨(getC a 0).1,(getC a 0).2⟩,⟨(getC a 1).1,(getC a 1).2⟩)
def V2(p:Ver × Ver):Prop:=VNum p.1/\VNum p.2
theorem qV2{R:Type}{a b:Ver}{k:Ver × Ver->Option R}(ha:VNum a)(hb:VNum b):gC dV2 V2 eV2 [.cplx .f64 a.re a.im,.cplx .f64 b.re b.im] k=k (a,b):=gC_eq (a,b) rfl ⟨ha,hb⟩ (.refl _)
theorem ahead_con(p:Ver × Ver)(h:V2 p):Contract PG F_ver_Ahead [eV p.1,eV p.2] [] (.bool (vlt p.1 p.2)) []:=by
 refine con0 ((ahead_eq p.1 p.2).trans ?_)
 rw[bif_not,bif_some,<- fvlt h.1 h.2]
 cases fEq .f64 p.1.re p.2.re <;> rfl
def kAhead:Known:=.spec F_ver_Ahead dV2 V2 eV2 (fun p=>.bool (vlt p.1 p.2))
theorem kAhead_ok:kAhead.Ok PG:=Known.spec_ok ahead_con
theorem later_eq(a b:Ver):callT env0 4 F_ver_Later [eV a,eV b]=bif !fEq .f64 b.re a.re then bif fLt .f64 b.re a.re then some (eV a)else some (eV b)else bif fLt .f64 b.im a.im then some (eV a)else some (eV b):=by kernel_rfl
theorem later_con(p:Ver × Ver)(h:V2 p):Contract PG F_ver_Later [eV p.1,eV p.2] [] (eV (vmax p.1 p.2)) []:=by
 refine con0 ((later_eq p.1 p.2).trans ?_)
 rw[bif_not,<- vmax_swap h.1 h.2,<- fvlt h.2 h.1]
 cases fEq .f64 p.2.re p.1.re <;> cases fLt .f64 p.2.im p.1.im <;> cases fLt .f64 p.2.re p.1.re <;> rfl
def kLater:Known:=.spec F_ver_Later dV2 V2 eV2 (fun p=>eV (vmax p.1 p.2))
theorem kLater_ok:kLater.Ok PG:=Known.spec_ok later_con
end Go.Wk
end
noncomputable section
open Go Go.AM Go.Md Go.Fl
namespace Go.Wk
set_option maxRecDepth 100000
set_option maxHeartbeats 1000000
def gF{R:Type}(b:Nat)(k:Option R):Option R:=bif(fI b).isSome then bif decide (IntKind.i64.min<=(fI b).getD 0)&&decide ((fI b).getD 0<=IntKind.i64.max)then k else none else none
theorem gF_eq{R:Type}{b:Nat}{k:Option R}(h:okI b):gF b k=k:=by
 obtain⟨h1,h2,h3⟩:=h
 unfold gF;rw[h1,decide_eq_true h2,decide_eq_true h3];rfl
theorem rahead_eq(a b:Ver):callT env0 4 F_lockgateref01_Ahead [eV a,eV b]=gF a.re (gF b.re (bif decide (vE a=vE b)then gF a.im (gF b.im (some (.bool (decide (vN a<vN b)))))else gF a.re (gF b.re (some (.bool (decide (vE a<vE b))))))):=by kernel_rfl
theorem rahead_con(p:Ver × Ver)(h:V2 p):Contract PG F_lockgateref01_Ahead [eV p.1,eV p.2] [] (.bool (vlt p.1 p.2)) []:=by
 refine con0 ((rahead_eq p.1 p.2).trans ?_)
 obtain⟨ha,hb⟩:=h
 simp only[gF_eq ha.int.1,gF_eq ha.int.2,gF_eq hb.int.1,gF_eq hb.int.2,vE_ep ha,vE_ep hb,vN_nu ha,vN_nu hb,dec_int,dec_ilt]
 unfold vlt
 cases decide (ep p.1=ep p.2) <;> rfl
def kRAhead:Known:=.spec F_lockgateref01_Ahead dV2 V2 eV2 (fun p=>.bool (vlt p.1 p.2))
theorem kRAhead_ok:kRAhead.Ok PG:=Known.spec_ok rahead_con
def dV1(a:List AV):Ver:=⟨(getC a 0).1,(getC a 0).2⟩
def eV1(v:Ver):List AV:=[eV v]
theorem qV1{R:Type}{a:Ver}{k:Ver->Option R}(ha:VNum a):gC dV1 VNum eV1 [.cplx .f64 a.re a.im] k=k a:=gC_eq a rfl ha (.refl _)
theorem num_eq(a:Ver):callT env0 4 F_ver_Num [eV a]=gF a.im (some (.int .i64 (vN a))):=by kernel_rfl
theorem rnum_eq(a:Ver):callT env0 4 F_lockgateref01_Num [eV a]=gF a.im (some (.int .i64 (vN a))):=by kernel_rfl
theorem num_con(a:Ver)(h:VNum a):Contract PG F_ver_Num [eV a] [] (.int .i64 (nu a)) []:=con0 ((num_eq a).trans (by rw[gF_eq h.int.2,vN_nu h]))
theorem rnum_con(a:Ver)(h:VNum a):Contract PG F_lockgateref01_Num [eV a] [] (.int .i64 (nu a)) []:=con0 ((rnum_eq a).trans (by rw[gF_eq h.int.2,vN_nu h]))
def kNum:Known:=.spec F_ver_Num dV1 VNum eV1 (fun p=>.int .i64 (nu p))
theorem kNum_ok:kNum.Ok PG:=Known.spec_ok num_con
def kRNum:Known:=.spec F_lockgateref01_Num dV1 VNum eV1 (fun p=>.int .i64 (nu p))
theorem kRNum_ok:kRNum.Ok PG:=Known.spec_ok rnum_con
def dI2(a:List AV):Nat × Nat:=((getI a 0).toNat,(getI a 1).toNat)
theorem make_eq(a b:Int):callT env0 4 F_ver_Make [.int .i64 a,.int .i64 b]=some (.cplx .f64 (FloatKind.f64.nearest a) (FloatKind.f64.nearest b)):=by kernel_rfl
theorem make_con(p:Nat × Nat)(_:True):Contract PG F_ver_Make [.int .i64 p.1,.int .i64 p.2] [] (eV (vr p.1 p.2)) []:=con0 ((make_eq p.1 p.2).trans (by rw[near_fl,near_fl];rfl))
def pI2(_:Nat × Nat):Prop:=True
def eI2(p:Nat × Nat):List AV:=[.int .i64 p.1,.int .i64 p.2]
def kMake:Known:=.spec F_ver_Make dI2 pI2 eI2 (fun p=>eV (vr p.1 p.2))
theorem kMake_ok:kMake.Ok PG:=Known.spec_ok make_con
def dVI(a:List AV):Ver × Nat:=(⟨(getC a 0).1,(getC a 0).2⟩,(getI a 1).toNat)
theorem next_eq(a:Ver)(e:Int):callT env0 4 F_ver_Next [eV a,.int .i64 e]=bif(FloatKind.f64.format.add a.im 4607182418800017408).isSome then some (.cplx .f64 (FloatKind.f64.nearest e) ((FloatKind.f64.format.add a.im 4607182418800017408).getD 0))else none:=by kernel_rfl
theorem next_con(p:Ver × Nat)(h:VNum p.1):Contract PG F_ver_Next [eV p.1,.int .i64 p.2] [] (eV (vr p.2 (nu p.1+1))) []:=by
 refine con0 ((next_eq p.1 p.2).trans ?_)
 have h2:=h.lt
 have e:p.1.im=fl (nu p.1):=congrArg Ver.im h.eta
 rw[e,next_fl (by omega),near_fl,Option.isSome_some,cond_true,Option.getD_some]
 rfl
def pVI(p:Ver × Nat):Prop:=VNum p.1
def eVI(p:Ver × Nat):List AV:=[eV p.1,.int .i64 p.2]
def kNext:Known:=.spec F_ver_Next dVI pVI eVI (fun p=>eV (vr p.2 (nu p.1+1)))
theorem kNext_ok:kNext.Ok PG:=Known.spec_ok next_con
end Go.Wk
end
noncomputable section
open Go Go.AM Go.Md
namespace Go.Wk
set_option maxRecDepth 100000
set_option maxHeartbeats 1000000
def dRep1(a:List AV):Rep:=decRep (argC a 0)
def pRep1(_:Rep):Prop:=True
def eRep1(r:Rep):List AV:=[.agg (encRep r)]
theorem qRep1{R:Type}{r:Rep}{P:Rep->Prop}{k:Rep->Option R}(h:P r):gC dRep1 P eRep1 [.agg (encRep r)] k=k r:=gC_eq r (dec_encRep r) h (.refl _)
def kns8:List Known:=[kIndex]
theorem kns8_ok:∀ k ∈ kns8,k.Ok PG:=ak kIndex_ok ank
def envH:Env:=envO kns8
theorem conH{n f:Nat}{xs:List AV}{r:AV}(e:callT envH n f xs=some r):Contract PG f xs [] r []:=con_of (md:=fun _=>none) kns8_ok e
def chF(l:List Member)(m:Member):Bool:=decide ((l.getD (Int.toNat 0) default).node=m.node)&&(decide ((l.getD (Int.toNat 0) default).boot=m.boot)&&true)
def gFst{R:Type}(l:List Member)(m:Member)(no:Option R)(k:Bool->Option R):Option R:=bif decide ((l.length:Int)=0)then no else bif decide (0<(l.length:Int))then k (chF l m)else none
theorem gFst_eq{R:Type}{l:List Member}{m:Member}{no:Option R}{k:Bool->Option R}(h:no=k false):gFst l m no k=k (isFirst l m):=by
 unfold gFst
 cases l with
 | nil=>exact h
 | cons x r=>
  rw[decide_eq_false (by simp only[List.length_cons];omega),cond_false,decide_eq_true (by simp only[List.length_cons];omega),cond_true]
  unfold chF isFirst
  rw[Bool.and_true]
  exact congrArg k (mem_eq x m)
theorem head_eq(r:Rep):callT envH 6 F_chain_Head [.agg (encRep r)]=bif !decide (r.view.phase=0)then bif decide (r.frozen<=r.view.epoch)then bif decide (r.view.phase=3)then
  gFst r.view.chain r.self (some (.bool false)) fun b=>some (.bool b)else some (.bool false)else some (.bool false)else some (.bool false):=by kernel_rfl
theorem head_con(r:Rep)(_:True):Contract PG F_chain_Head [.agg (encRep r)] [] (.bool (headP r)) []:=by
 refine conH ((head_eq r).trans ?_)
 rw[gFst_eq (no:=some (AV.bool false)) (k:=fun b=>some (AV.bool b)) rfl]
 unfold headP worksP liveP
 cases decide (r.view.phase=0) <;> cases decide (r.frozen<=r.view.epoch) <;> cases decide (r.view.phase=3) <;> rfl
def kHead:Known:=.spec F_chain_Head dRep1 pRep1 eRep1 (fun r=>.bool (headP r))
theorem kHead_ok:kHead.Ok PG:=Known.spec_ok head_con
def gIdxR{R:Type}(l:List Member)(m:Member)(k:List Member × Member->Option R):Option R:=gC decLM preLM encLM [encMembers l,.agg (encMember m)] k
theorem gIdxR_eq{R:Type}{l:List Member}{m:Member}{k:List Member × Member->Option R}(h:l.length<=LB):gIdxR l m k=k (l,m):=gC_eq (l,m) (by unfold decLM;exact Prod.ext (decMembers l) rfl) h (.refl _)
theorem commit_eq(r:Rep):callT envH 6 F_chain_Commit [.agg (encRep r)]=bif !decide (r.view.phase=0)then bif decide (r.frozen<=r.view.epoch)then bif decide (r.view.phase=3)then
  gFst r.view.chain r.self (some (eV ⟨0,0⟩)) fun b=>bif !b then some (eV ⟨0,0⟩)else bif decide ((r.view.chain.length:Int)=1)then some (eV r.tail.last)else some (eV r.got)
  else some (eV ⟨0,0⟩)else some (eV ⟨0,0⟩)else some (eV ⟨0,0⟩):=by kernel_rfl
theorem commit_con(r:Rep)(_:True):Contract PG F_chain_Commit [.agg (encRep r)] [] (eV (commitP r)) []:=by
 refine conH ((commit_eq r).trans ?_)
 rw[gFst_eq (no:=some (eV ⟨0,0⟩)) (k:=fun b=>bif !b then some (eV ⟨0,0⟩)else bif decide ((r.view.chain.length:Int)=1)then some (eV r.tail.last)else some (eV r.got)) rfl,show decide ((r.view.chain.length:Int)=1)=decide (r.view.chain.length=1) from dec_int _ 1]
 unfold commitP headP worksP liveP
 cases decide (r.view.phase=0) <;> cases decide (r.frozen<=r.view.epoch) <;> cases decide (r.view.phase=3) <;> cases isFirst r.view.chain r.self <;> cases decide (r.view.chain.length=1) <;> rfl
def kCommit:Known:=.spec F_chain_Commit dRep1 pRep1 eRep1 (fun r=>eV (commitP r))
theorem kCommit_ok:kCommit.Ok PG:=Known.spec_ok commit_con
def gClM{R:Type}(l:List Member)(k:List Member->Option R):Option R:=gC (dL decMember) shortL eMems [encMembers l] k
def gClE{R:Type}(l:List Entry)(k:List Entry->Option R):Option R:=gC (dL decEntry) shortL eEnts [encEntrys l] k
def gClS{R:Type}(l:List Seen)(k:List Seen->Option R):Option R:=gC (dL decSeen) shortL eSeens [encSeens l] k
def gClB{R:Type}(l:List Bool)(k:List Bool->Option R):Option R:=gC (dL decBool) shortL eBools [encBools l] k
theorem gClM_eq{R:Type}{l:List Member}{k:List Member->Option R}(h:shortL l):gClM l k=k l:=gC_eq l (decMembers l) h (.refl _)
theorem gClE_eq{R:Type}{l:List Entry}{k:List Entry->Option R}(h:shortL l):gClE l k=k l:=gC_eq l (decEntrys l) h (.refl _)
theorem gClS_eq{R:Type}{l:List Seen}{k:List Seen->Option R}(h:shortL l):gClS l k=k l:=gC_eq l (decSeens l) h (.refl _)
theorem gClB_eq{R:Type}{l:List Bool}{k:List Bool->Option R}(h:shortL l):gClB l k=k l:=gC_eq l (decBools l) h (.refl _)
def kns9:List Known:=[kCloneMember,kCloneEntry,kCloneSeen,kCloneBool]
theorem kns9_ok:∀ k ∈ kns9,k.Ok PG:=ak kCloneMember_ok (ak kCloneEntry_ok (ak kCloneSeen_ok (ak kCloneBool_ok ank)))
def envC:Env:=envO kns9
theorem conC{n f:Nat}{xs:List AV}{r:AV}(e:callT envC n f xs=some r):Contract PG f xs [] r []:=con_of (md:=fun _=>none) kns9_ok e
theorem own_eq(r:Rep):callT envC 3 F_chain_own [.agg (encRep r)]=gClM r.view.chain fun a=>gClE r.tail.log fun b=>gClS r.seen fun c=>gClB r.synced fun d=>
  some (.agg (encRep {r with view:={r.view with chain:=a},tail:={r.tail with log:=b},seen:=c,synced:=d})):=by kernel_rfl
def RepShort(r:Rep):Prop:=shortL r.view.chain/\shortL r.tail.log/\shortL r.seen/\shortL r.synced
theorem own_con(r:Rep)(h:RepShort r):Contract PG F_chain_own [.agg (encRep r)] [] (.agg (encRep r)) []:=
 conC ((own_eq r).trans (by rw[gClM_eq h.1,gClE_eq h.2.1,gClS_eq h.2.2.1,gClB_eq h.2.2.2]))
def kOwn:Known:=.spec F_chain_own dRep1 RepShort eRep1 (fun r=>.agg (encRep r))
theorem kOwn_ok:kOwn.Ok PG:=Known.spec_ok own_con
def subAll:List AV->List AV->Prop
 | [],[]=>True
 | a::r,b::s=>SubV a b/\subAll r s
 | _,_=>False
theorem subC_all:∀ {a b:List AV},subAll a b->SubC a b
 | [],[],_=>.nil
 | _::_,_::_,h=>.cons h.1 (subC_all h.2)
 | [],_::_,h=>h.elim
 | _::_,[],h=>h.elim
def toN(r:Rep)(x:Member)(k:Int):List AV:=[.int .i64 k,.int .i64 r.self.node,.int .i64 x.node,.int .i64 x.boot,.int .i64 r.self.boot,.int .i64 r.shard,.int .i64 r.view.epoch,.int .i64 0,.int .i64 0,.int .i64 0,.int .i64 0,.int .i64 0,.bool false,.bool false,.str [],.str [],.cplx .f64 0 0,.cplx .f64 0 0,.int .i64 0,.str [],.str [],.str [],.bool false,.nils,.nils,.nils,.cplx .f64 0 0,.cplx .f64 0 0,.int .i64 0,.nils,.nils]
theorem to_eq(r:Rep)(x:Member)(k:Int):callT env0 6 F_chain_to [.agg (encRep r),.agg (encMember x),.int .i64 k]=some (.agg (toN r x k)):=by kernel_rfl
theorem subRest{a b:List AV}{l:List AV}(h:SubC a b):SubC (l++a) (l++b):=by
 induction l with
 | nil=>exact h
 | cons c l ih=>exact .cons (.refl _) ih
theorem nilsL{X:Type}{sz:Nat}{e:X->List AV}{z:X}:SubV .nils (encL sz e z []):=SubV.nils
theorem toN_sub(r:Rep)(x:Member)(k:Int):SubC (toN r x k) (encMsg (toM r x k)):=
 subRest (l:=[.int .i64 k,.int .i64 r.self.node,.int .i64 x.node,.int .i64 x.boot,.int .i64 r.self.boot,.int .i64 r.shard,.int .i64 r.view.epoch,.int .i64 0,.int .i64 0,.int .i64 0,.int .i64 0,.int .i64 0,.bool false,.bool false,.str [],.str [],.cplx .f64 0 0,.cplx .f64 0 0,.int .i64 0,.str [],.str [],.str [],.bool false])
  (a:=[.nils,.nils,.nils,.cplx .f64 0 0,.cplx .f64 0 0,.int .i64 0,.nils,.nils]) (b:=[encEntrys [],encMembers [],encViews [],.cplx .f64 0 0,.cplx .f64 0 0,.int .i64 0,encEntrys [],encSeens []])
  (.cons nilsL (.cons nilsL (.cons nilsL (subRest (l:=[.cplx .f64 0 0,.cplx .f64 0 0,.int .i64 0]) (.cons nilsL (.cons nilsL .nil))))))
theorem to_con(p:Rep × Member × Int)(_:True):Contract PG F_chain_to [.agg (encRep p.1),.agg (encMember p.2.1),.int .i64 p.2.2] [] (.agg (encMsg (toM p.1 p.2.1 p.2.2))) []:=
 (con0 (to_eq p.1 p.2.1 p.2.2)).res (.agg (toN_sub _ _ _))
abbrev RMI:=Rep × Member × Int
def dTo(a:List AV):RMI:=(decRep (argC a 0),decMember (argC a 1),getI a 2)
def pTo(_:RMI):Prop:=True
def eTo(p:RMI):List AV:=[.agg (encRep p.1),.agg (encMember p.2.1),.int .i64 p.2.2]
def kTo:Known:=.spec F_chain_to dTo pTo eTo (fun p=>.agg (encMsg (toM p.1 p.2.1 p.2.2)))
theorem kTo_ok:kTo.Ok PG:=Known.spec_ok to_con
def kToN:Known:=.spec F_chain_to dTo pTo eTo (fun p=>.agg (toN p.1 p.2.1 p.2.2))
theorem kToN_ok:kToN.Ok PG:=Known.spec_ok fun p _=>con0 (to_eq p.1 p.2.1 p.2.2)
theorem qTo{R:Type}{r:Rep}{x:Member}{i:Int}{k:RMI->Option R}:gC dTo pTo eTo [.agg (encRep r),.agg (encMember x),.int .i64 i] k=k (r,x,i):=gC_eq (r,x,i) (Prod.ext (dec_encRep r) rfl) trivial (.refl _)
theorem of_eq(e:Entry):callT env0 6 F_seen_Of [.agg (encEntry e)]=some (.agg (encSeen (ofP e))):=by kernel_rfl
def dEnt1(a:List AV):Entry:=decEntry (argC a 0)
def pEnt1(_:Entry):Prop:=True
def eEnt1(e:Entry):List AV:=[.agg (encEntry e)]
theorem qEnt1{R:Type}{e:Entry}{k:Entry->Option R}:gC dEnt1 pEnt1 eEnt1 [.agg (encEntry e)] k=k e:=gC_eq e (dec_encEntry e) trivial (.refl _)
def kOf:Known:=.spec F_seen_Of dEnt1 pEnt1 eEnt1 (fun e=>.agg (encSeen (ofP e)))
theorem kOf_ok:kOf.Ok PG:=Known.spec_ok fun e _=>con0 (of_eq e)
def sideA(o:Option Member):AV:=.tup [.agg (encMember (o.getD default)),.bool o.isSome]
theorem behind_eq(l:List Member)(m:Member):callT envH 6 F_view_Behind [encMembers l,.agg (encMember m)]=gIdxR l m fun y=>
  bif decide (idx y.1 y.2<0)then some (sideA none)else bif decide ((l.length:Int)<=IntKind.i64.wrap (idx y.1 y.2+1))then some (sideA none)else
  rg (IntKind.i64.wrap (idx y.1 y.2+1)) l.length (some (sideA (some (l.getD (IntKind.i64.wrap (idx y.1 y.2+1)).toNat default)))):=by kernel_rfl
theorem ahead'_eq(l:List Member)(m:Member):callT envH 6 F_view_Ahead [encMembers l,.agg (encMember m)]=gIdxR l m fun y=>
  bif decide (idx y.1 y.2<1)then some (sideA none)else
  rg (IntKind.i64.wrap (idx y.1 y.2 - 1)) l.length (some (sideA (some (l.getD (IntKind.i64.wrap (idx y.1 y.2 - 1)).toNat default)))):=by kernel_rfl
theorem rg_int{R:Type}{i n:Int}{k:Option R}(h:0<=i/\i<n):rg i n k=k:=by
 unfold rg;rw[decide_eq_true h.1,decide_eq_true h.2];rfl
theorem behind_con(x:LM)(h:preLM x):Contract PG F_view_Behind [encMembers x.1,.agg (encMember x.2)] [] (sideA (sideP x.1 x.2 1)) []:=by
 refine conH ((behind_eq x.1 x.2).trans ?_)
 rw[gIdxR_eq h]
 have hb:=idx_le x.1 x.2
 have hl:x.1.length<=1000000:=h
 simp only[wrap64 (x:=idx x.1 x.2+1) (by omega)]
 unfold sideP
 by_cases h1:idx x.1 x.2<0
 ·rw[decide_eq_true h1,if_pos (Or.inl h1)];rfl
 ·by_cases h2:(x.1.length:Int)<=idx x.1 x.2+1
  ·rw[decide_eq_false h1,decide_eq_true h2,if_pos (Or.inr (Or.inr h2))];rfl
  ·rw[decide_eq_false h1,decide_eq_false h2,if_neg (by omega),rg_int (by omega)];rfl
theorem ahead'_con(x:LM)(h:preLM x):Contract PG F_view_Ahead [encMembers x.1,.agg (encMember x.2)] [] (sideA (sideP x.1 x.2 (-1))) []:=by
 refine conH ((ahead'_eq x.1 x.2).trans ?_)
 rw[gIdxR_eq h]
 have hb:=idx_le x.1 x.2
 have hl:x.1.length<=1000000:=h
 simp only[wrap64 (x:=idx x.1 x.2 - 1) (by omega)]
 unfold sideP
 by_cases h1:idx x.1 x.2<1
 ·rw[decide_eq_true h1,if_pos (by omega)];rfl
 ·rw[decide_eq_false h1,if_neg (by omega),rg_int (by omega)];rfl
def kBehind:Known:=.spec F_view_Behind decLM preLM encLM (fun x=>sideA (sideP x.1 x.2 1))
theorem kBehind_ok:kBehind.Ok PG:=Known.spec_ok behind_con
def kAheadV:Known:=.spec F_view_Ahead decLM preLM encLM (fun x=>sideA (sideP x.1 x.2 (-1)))
theorem kAheadV_ok:kAheadV.Ok PG:=Known.spec_ok ahead'_con
def kns10:List Known:=[kAhead,kLater,kRAhead,kNum,kRNum,kBehind,kAheadV,kTo,kHead]
theorem kns10_ok:∀ k ∈ kns10,k.Ok PG:=ak kAhead_ok (ak kLater_ok (ak kRAhead_ok (ak kNum_ok (ak kRNum_ok (ak kBehind_ok (ak kAheadV_ok (ak kTo_ok (ak kHead_ok ank))))))))
def envT:Env:=envO kns10
theorem conT{n f:Nat}{xs:List AV}{r:AV}(e:callT envT n f xs=some r):Contract PG f xs [] r []:=con_of (md:=fun _=>none) kns10_ok e
theorem acked_eq(r:Rep)(m:Member):callT envT 6 F_chain_acked [.agg (encRep r),.agg (encMember m)]=gC dTo pTo eTo [.agg (encRep r),.agg (encMember m),.int .i64 14] fun y=>gIdxR r.view.chain r.self fun z=>
  bif(sideP z.1 z.2 1).isSome then some (.agg (encMsg {toM y.1 y.2.1 y.2.2 with ver:=r.got}))else some (.agg (encMsg {toM y.1 y.2.1 y.2.2 with ver:=r.tail.last})):=by kernel_rfl
theorem acked_con(p:Rep × Member)(h:p.1.view.chain.length<=LB):Contract PG F_chain_acked [.agg (encRep p.1),.agg (encMember p.2)] [] (.agg (encMsg {toM p.1 p.2 14 with ver:=haveP p.1})) []:=by
 refine conT ((acked_eq p.1 p.2).trans ?_)
 rw[qTo,gIdxR_eq h]
 unfold haveP
 cases (sideP p.1.view.chain p.1.self 1).isSome <;> rfl
def dRM(a:List AV):Rep × Member:=(decRep (argC a 0),decMember (argC a 1))
def pRM(p:Rep × Member):Prop:=p.1.view.chain.length<=LB
def eRM(p:Rep × Member):List AV:=[.agg (encRep p.1),.agg (encMember p.2)]
theorem qRM{R:Type}{r:Rep}{x:Member}{P:Rep × Member->Prop}{k:Rep × Member->Option R}(h:P (r,x)):gC dRM P eRM [.agg (encRep r),.agg (encMember x)] k=k (r,x):=gC_eq (r,x) (Prod.ext (dec_encRep r) rfl) h (.refl _)
def kAcked:Known:=.spec F_chain_acked dRM pRM eRM (fun p=>.agg (encMsg {toM p.1 p.2 14 with ver:=haveP p.1}))
theorem kAcked_ok:kAcked.Ok PG:=Known.spec_ok acked_con
end Go.Wk
end
noncomputable section
open Go Go.AM Go.Md
namespace Go.Wk
set_option maxRecDepth 100000
set_option maxHeartbeats 2000000
def kns21:List Known:=[kAhead,kToN,kCloneMember,kCloneEntry,kCloneSeen]
theorem kns21_ok:∀ k ∈ kns21,k.Ok PG:=ak kAhead_ok (ak kToN_ok (ak kCloneMember_ok (ak kCloneEntry_ok (ak kCloneSeen_ok ank))))
def env21:Env:=envO kns21
theorem con21{n f:Nat}{xs:List AV}{r:AV}(e:callT env21 n f xs=some r):Contract PG f xs [] r []:=con_of (md:=fun _=>none) kns21_ok e
def z31:List AV:=[.int .i64 0,.int .i64 0,.int .i64 0,.int .i64 0,.int .i64 0,.int .i64 0,.int .i64 0,.int .i64 0,.int .i64 0,.int .i64 0,.int .i64 0,.int .i64 0,.bool false,.bool false,.str [],.str [],.cplx .f64 0 0,.cplx .f64 0 0,.int .i64 0,.str [],.str [],.str [],.bool false,.nils,.nils,.nils,.cplx .f64 0 0,.cplx .f64 0 0,.int .i64 0,.nils,.nils]
def toNs(r:Rep)(x:Member)(k:Int)(fl:Ver)(a:AV):List AV:=[.int .i64 k,.int .i64 r.self.node,.int .i64 x.node,.int .i64 x.boot,.int .i64 r.self.boot,.int .i64 r.shard,.int .i64 r.view.epoch,.int .i64 0,.int .i64 0,.int .i64 0,.int .i64 0,.int .i64 0,.bool false,.bool false,.str [],.str [],.cplx .f64 0 0,eV fl,.int .i64 0,.str [],.str [],.str [],.bool false,a,.nils,.nils,.cplx .f64 0 0,.cplx .f64 0 0,.int .i64 0,.nils,.nils]
theorem inst_eq(r:Rep)(m:Member):callT env21 6 F_chain_install [AV.agg (encRep r),AV.agg (encMember m)] =
 gC (dTo) (pTo) (eTo) ([AV.agg (encRep r),AV.agg (encMember m),AV.int IntKind.i64 11]) fun y0=>
 gC (dL decMember) (shortL) (eMems) ([encMembers r.view.chain]) fun y1=>
 gC (dL decEntry) (shortL) (eEnts) ([encEntrys r.tail.log]) fun y2=>
 gC (dL decSeen) (shortL) (eSeens) ([encSeens r.seen]) fun y3=>
 some (AV.agg [AV.int IntKind.i64 y0.snd.snd,AV.int IntKind.i64 y0.fst.self.node,AV.int IntKind.i64 y0.snd.fst.node,AV.int IntKind.i64 y0.snd.fst.boot,AV.int IntKind.i64 y0.fst.self.boot,AV.int IntKind.i64 y0.fst.shard,AV.int IntKind.i64 y0.fst.view.epoch,AV.int IntKind.i64 r.view.gen,AV.int IntKind.i64 0,AV.int IntKind.i64 0,AV.int IntKind.i64 0,AV.int IntKind.i64 0,AV.bool false,AV.bool false,AV.str [],AV.str [],AV.cplx FloatKind.f64 0 0,AV.cplx FloatKind.f64 0 0,AV.int IntKind.i64 0,AV.str [],AV.str [],AV.str [],AV.bool false,AV.nils,encMembers y1,AV.nils,AV.cplx FloatKind.f64 r.tail.floor.re r.tail.floor.im,AV.cplx FloatKind.f64 r.tail.last.re r.tail.last.im,AV.int IntKind.i64 r.view.gen,encEntrys y2,encSeens y3]):=by kernel_rfl
theorem inst_con(p:Rep × Member)(h:RepShort p.1):Contract PG F_chain_install [.agg (encRep p.1),.agg (encMember p.2)] [] (.agg (encMsg (instM p.1 p.2))) []:=by
 obtain⟨r,m⟩:=p
 have e:=inst_eq r m
 rw[qTo,qMems h.1,qEnts h.2.1,qSeens h.2.2.1]at e
 exact(con21 e).res (.agg (subC_all (by repeat' (first | exact trivial | exact nilsL | exact SubV.refl _ | refine⟨?_,?_⟩))))
def pRS(p:Rep × Member):Prop:=RepShort p.1
def kInst:Known:=.spec F_chain_install dRM pRS eRM (fun p=>.agg (encMsg (instM p.1 p.2)))
theorem kInst_ok:kInst.Ok PG:=Known.spec_ok inst_con
def SFw(r:Rep)(x:Member)(i:Int)(a:AV)(rest:Heap):St:={fr:=[(2,.ptr 0 0 0),(4,.ptr 1 0 0),(5,.ptr 2 0 0),(17,encEntrys r.tail.log),(18,.int .i64 r.tail.log.length),(19,.int .i64 i),(1003,.undef)],hp:=.arr true 15 [encRep r] :: .arr true 31 [z31] :: .arr true 31 [toNs r x 13 r.tail.floor a]::rest}
theorem forw_in(N:Nat)(r:Rep)(m:Member):callT env21 (N+1) F_chain_forward [AV.agg (encRep r),AV.agg (encMember m)] =
 gC dTo pTo eTo [AV.agg (encRep r),AV.agg (encMember m),AV.int IntKind.i64 13] fun y0=>LP env21 N 0 F_chain_forward snK 0 [] N {fr:=[(2,.ptr 0 0 0),(4,.ptr 1 0 0),(5,.ptr 2 0 0),(17,encEntrys r.tail.log),(18,.int .i64 r.tail.log.length),(19,.int .i64 0),(1003,.undef)],hp:=[.arr true 15 [encRep r],.arr true 31 [z31],.arr true 31 [((toN y0.1 y0.2.1 y0.2.2).set 17 (eV r.tail.floor))]]}:=by kernel_rfl
theorem forw_step0(N:Nat)(m:Nat)(r:Rep)(x:Member)(i:Int):LP env21 N 0 F_chain_forward snK 0 [] (m+1) (SFw r x i AV.nils []) =
 bif decide (i<(↑r.tail.log.length:Int))then
  bif decide (0<=i)&&decide (i<(↑r.tail.log.length:Int))then
   gC (dV2) (V2) (eV2) ([AV.cplx FloatKind.f64 r.got.re r.got.im,AV.cplx FloatKind.f64 (r.tail.log.getD i.toNat default).ver.re (r.tail.log.getD i.toNat default).ver.im]) fun y4=>
   bif vlt y4.fst y4.snd then
    LP (env21) (N) (0) (F_chain_forward) (snK) 0 ([]) (m) (SFw r x (IntKind.i64.wrap (i+1)) (AV.sl 11 3 0 1 1) [BS.seq true 11 1 fun i_1=>[encEntry (r.tail.log.getD i.toNat default)].getD i_1 (encEntry (r.tail.log.getD i.toNat default))])
   else
    LP (env21) (N) (0) (F_chain_forward) (snK) 0 ([]) (m) (SFw r x (IntKind.i64.wrap (i+1)) AV.nils [])
  else none
 else
  some (AV.agg [AV.int IntKind.i64 13,AV.int IntKind.i64 r.self.node,AV.int IntKind.i64 x.node,AV.int IntKind.i64 x.boot,AV.int IntKind.i64 r.self.boot,AV.int IntKind.i64 r.shard,AV.int IntKind.i64 r.view.epoch,AV.int IntKind.i64 0,AV.int IntKind.i64 0,AV.int IntKind.i64 0,AV.int IntKind.i64 0,AV.int IntKind.i64 0,AV.bool false,AV.bool false,AV.str [],AV.str [],AV.cplx FloatKind.f64 0 0,AV.cplx FloatKind.f64 r.tail.floor.re r.tail.floor.im,AV.int IntKind.i64 0,AV.str [],AV.str [],AV.str [],AV.bool false,AV.nils,AV.nils,AV.nils,AV.cplx FloatKind.f64 0 0,AV.cplx FloatKind.f64 0 0,AV.int IntKind.i64 0,AV.nils,AV.nils]):=by kernel_rfl
theorem forw_step1(N:Nat)(m:Nat)(r:Rep)(x:Member)(i:Int)(f:Nat->List AV):LP env21 N 0 F_chain_forward snK 0 [] (m+1) (SFw r x i (AV.sl 11 3 0 1 1) [BS.seq true 11 1 f]) =
 bif decide (i<(↑r.tail.log.length:Int))then
  bif decide (0<=i)&&decide (i<(↑r.tail.log.length:Int))then
   gC (dV2) (V2) (eV2) ([AV.cplx FloatKind.f64 r.got.re r.got.im,AV.cplx FloatKind.f64 (r.tail.log.getD i.toNat default).ver.re (r.tail.log.getD i.toNat default).ver.im]) fun y5=>
   bif vlt y5.fst y5.snd then
    LP (env21) (N) (0) (F_chain_forward) (snK) 0 ([]) (m) (SFw r x (IntKind.i64.wrap (i+1)) (AV.sl 11 3 0 2 0) [BS.seq true 11 2 fun i_1=>bif i_1.blt 1 then f i_1 else bif i_1.blt 2 then [encEntry (r.tail.log.getD i.toNat default)].getD (i_1 - 1) []else f 1])
   else
    LP (env21) (N) (0) (F_chain_forward) (snK) 0 ([]) (m) (SFw r x (IntKind.i64.wrap (i+1)) (AV.sl 11 3 0 1 1) [BS.seq true 11 1 f])
  else none
 else
  some (AV.agg [AV.int IntKind.i64 13,AV.int IntKind.i64 r.self.node,AV.int IntKind.i64 x.node,AV.int IntKind.i64 x.boot,AV.int IntKind.i64 r.self.boot,AV.int IntKind.i64 r.shard,AV.int IntKind.i64 r.view.epoch,AV.int IntKind.i64 0,AV.int IntKind.i64 0,AV.int IntKind.i64 0,AV.int IntKind.i64 0,AV.int IntKind.i64 0,AV.bool false,AV.bool false,AV.str [],AV.str [],AV.cplx FloatKind.f64 0 0,AV.cplx FloatKind.f64 r.tail.floor.re r.tail.floor.im,AV.int IntKind.i64 0,AV.str [],AV.str [],AV.str [],AV.bool false,AV.tr 11 1 fun i=>f i,AV.nils,AV.nils,AV.cplx FloatKind.f64 0 0,AV.cplx FloatKind.f64 0 0,AV.int IntKind.i64 0,AV.nils,AV.nils]):=by kernel_rfl
theorem forw_step2(N:Nat)(m:Nat)(r:Rep)(x:Member)(i:Int)(n:Nat)(f:Nat->List AV):LP env21 N 0 F_chain_forward snK 0 [] (m+1) (SFw r x i (AV.sl 11 3 0 n 0) [BS.seq true 11 n f]) =
 bif decide (i<(↑r.tail.log.length:Int))then
  bif decide (0<=i)&&decide (i<(↑r.tail.log.length:Int))then
   gC (dV2) (V2) (eV2) ([AV.cplx FloatKind.f64 r.got.re r.got.im,AV.cplx FloatKind.f64 (r.tail.log.getD i.toNat default).ver.re (r.tail.log.getD i.toNat default).ver.im]) fun y6=>
   bif vlt y6.fst y6.snd then
    bif n.beq 0||n.ble n then
     bif((n+1)*112).ble 140737488355328&&(n+1).ble 140737488355328 then
      LP (env21) (N) (0) (F_chain_forward) (snK) 0 ([]) (m) (SFw r x (IntKind.i64.wrap (i+1)) (AV.sl 11 3 0 (n+1) 0) [BS.seq true 11 (n+1) fun i_1=>bif i_1.blt n then f i_1 else bif i_1.blt (n+1)then [encEntry (r.tail.log.getD i.toNat default)].getD (i_1 - n) []else f n])
     else none
    else none
   else
    LP (env21) (N) (0) (F_chain_forward) (snK) 0 ([]) (m) (SFw r x (IntKind.i64.wrap (i+1)) (AV.sl 11 3 0 n 0) [BS.seq true 11 n f])
  else none
 else
  bif(n.beq 0||n.ble n)&&true then
   some (AV.agg [AV.int IntKind.i64 13,AV.int IntKind.i64 r.self.node,AV.int IntKind.i64 x.node,AV.int IntKind.i64 x.boot,AV.int IntKind.i64 r.self.boot,AV.int IntKind.i64 r.shard,AV.int IntKind.i64 r.view.epoch,AV.int IntKind.i64 0,AV.int IntKind.i64 0,AV.int IntKind.i64 0,AV.int IntKind.i64 0,AV.int IntKind.i64 0,AV.bool false,AV.bool false,AV.str [],AV.str [],AV.cplx FloatKind.f64 0 0,AV.cplx FloatKind.f64 r.tail.floor.re r.tail.floor.im,AV.int IntKind.i64 0,AV.str [],AV.str [],AV.str [],AV.bool false,AV.tr 11 n fun i=>f i,AV.nils,AV.nils,AV.cplx FloatKind.f64 0 0,AV.cplx FloatKind.f64 0 0,AV.int IntKind.i64 0,AV.nils,AV.nils])
  else none:=by kernel_rfl
def SFg(r:Rep)(x:Member)(i:Int)(l:List Entry):St:=SFw r x i (gSl 11 3 l) (gBl 11 encEntry default l)
theorem forw_step(N m:Nat)(r:Rep)(x:Member)(i:Int)(l:List Entry)(hl:l.length<=LB):LP env21 N 0 F_chain_forward snK 0 [] (m+1) (SFg r x i l) =
  bif decide (i<(r.tail.log.length:Int))then rg i r.tail.log.length <| gC dV2 V2 eV2 [eV r.got,eV (r.tail.log.getD i.toNat default).ver] fun y=>
   bif vlt y.1 y.2 then LP env21 N 0 F_chain_forward snK 0 [] m (SFg r x (IntKind.i64.wrap (i+1)) (l++[r.tail.log.getD i.toNat default]))
   else LP env21 N 0 F_chain_forward snK 0 [] m (SFg r x (IntKind.i64.wrap (i+1)) l)
  else some (.agg (toNs r x 13 r.tail.floor (gTr 11 encEntry default l))):=by
 unfold LB at hl
 match l,hl with
 | [],_=>exact(forw_step0 N m r x i).trans (by rw[canF_oneS (z:=default)];rfl)
 | [a],_=>exact(forw_step1 N m r x i _).trans (by rw[canF_app1 (z:=default)];rfl)
 | a::b::l,hl=>
  refine(forw_step2 N m r x i (l.length+2) _).trans ?_
  have h:=canF_app (e:=encEntry) (z:=default) (l:=a::b::l) (by simp) (r.tail.log.getD i.toNat default)
  simp only[List.length_cons]at h hl
  rw[h,SFg,gSl_app (by simp),gBl_app (by simp)]
  simp only[roomU (b:=112) (n:=l.length+2) (by omega) (by omega),Bool.and_true,orU,cond_true]
  rfl
theorem forw_con(p:Rep × Member)(h:p.1.tail.log.length<=LB/\VNum p.1.got /\ ∀ e ∈ p.1.tail.log,VNum e.ver):Contract PG F_chain_forward [.agg (encRep p.1),.agg (encMember p.2)] [] (.agg (encMsg (forwM p.1 p.2))) []:=by
 obtain⟨r,m⟩:=p
 obtain⟨h1,h2,h3⟩:=h
 simp only at h1 h2 h3
 have e:=forw_in (r.tail.log.length+1) r m
 rw[qTo]at e
 have key:=pick_loop (l:=r.tail.log) (z:=default) (keep:=fun e=>vlt r.got e.ver) (G:=fun k i l=>LP env21 (r.tail.log.length+1) 0 F_chain_forward snK 0 [] k (SFg r m i l)) (fin:=fun l=>some (.agg (toNs r m 13 r.tail.floor (gTr 11 encEntry default l))))
  (fun k acc ha=>by rw[forw_step _ _ _ _ _ _ (by omega),dec_nat,decide_eq_false (by omega),cond_false])
  (fun k i acc hi ha=>by
   rw[forw_step _ _ _ _ _ _ (by omega),dec_nat,decide_eq_true hi,cond_true,rg_eq hi,Int.toNat_natCast]
   show gC dV2 V2 eV2 [.cplx .f64 _ _,.cplx .f64 _ _] _=_
   rw[qV2 h2 (h3 _ (getD_mem hi)),wrapS (by unfold LB at h1;omega)])
  r.tail.log.length 0 (r.tail.log.length+1) [] (by omega) (by omega) (by simp)
 rw[List.drop_zero,List.nil_append]at key
 exact(con21 (e.trans key)).res (.agg (subC_all (by repeat' (first | exact trivial | exact nilsL | exact gTr_sub _ | exact SubV.refl _ | refine⟨?_,?_⟩))))
def pFw(p:Rep × Member):Prop:=p.1.tail.log.length<=LB/\VNum p.1.got /\ ∀ e ∈ p.1.tail.log,VNum e.ver
def kForw:Known:=.spec F_chain_forward dRM pFw eRM (fun p=>.agg (encMsg (forwM p.1 p.2)))
theorem kForw_ok:kForw.Ok PG:=Known.spec_ok forw_con
def kns22:List Known:=[kInst,kForw,kAcked,kBehind,kAheadV]
theorem kns22_ok:∀ k ∈ kns22,k.Ok PG:=ak kInst_ok (ak kForw_ok (ak kAcked_ok (ak kBehind_ok (ak kAheadV_ok ank))))
def env22:Env:=envO kns22
theorem con22{n f:Nat}{xs:List AV}{r:AV}(e:callT env22 n f xs=some r):Contract PG f xs [] r []:=con_of (md:=fun _=>none) kns22_ok e
def inPh(r:Rep)(ph:Int):Rep:={r with view:={r.view with phase:=ph}}
def inSy(r:Rep)(ch:List Member)(sy:List Bool):Rep:={r with view:={r.view with phase:=2,chain:=ch},synced:=sy}
theorem inPh_eq{r:Rep}{ph:Int}(h:r.view.phase=ph):r=inPh r ph:=by
 cases r;rename_i v _ _ _ _ _;cases v;simp only at h;subst h;rfl
theorem inSy_eq{r:Rep}(h:r.view.phase=2):r=inSy r r.view.chain r.synced:=by
 cases r;rename_i v _ _ _ _ _;cases v;simp only at h;subst h;rfl
def instK(r:Rep)(fin:List (Rep × Member)->Option AV):List Member->List Bool->List (Rep × Member)->Option AV
 | m::ms,s::ss,acc=>bif !s then gC dRM pRS eRM [.agg (encRep r),.agg (encMember m)] fun y=>instK r fin ms ss (acc++[y])else instK r fin ms ss acc
 | _,_,acc=>fin acc
def finI:List (Rep × Member)->Option AV
 | []=>some .nils
 | l=>some (.trl 31 (l.map fun y=>encMsg (instM y.1 y.2)))
def liveN(r:Rep):Option AV:=bif decide (r.frozen<=r.view.epoch)then some .nils else some .nils
theorem again_s1(r:Rep)(a:Member)(s:Bool):callT env22 9 F_chain_Again [.agg (encRep (inSy r [a] [s]))] =
  bif decide (r.frozen<=r.view.epoch)then bif chF [a] r.self then instK (inSy r [a] [s]) finI [a] [s] []else liveN r else liveN r:=by kernel_rfl
theorem again_s2(r:Rep)(a b:Member)(s t:Bool):callT env22 9 F_chain_Again [.agg (encRep (inSy r [a,b] [s,t]))] =
  bif decide (r.frozen<=r.view.epoch)then bif chF [a,b] r.self then instK (inSy r [a,b] [s,t]) finI [a,b] [s,t] []else liveN r else liveN r:=by kernel_rfl
theorem again_s3(r:Rep)(a b c:Member)(s t u:Bool):callT env22 9 F_chain_Again [.agg (encRep (inSy r [a,b,c] [s,t,u]))] =
  bif decide (r.frozen<=r.view.epoch)then bif chF [a,b,c] r.self then instK (inSy r [a,b,c] [s,t,u]) finI [a,b,c] [s,t,u] []else liveN r else liveN r:=by kernel_rfl
theorem again_s4(r:Rep)(a b c d:Member)(s t u v:Bool):callT env22 9 F_chain_Again [.agg (encRep (inSy r [a,b,c,d] [s,t,u,v]))] =
  bif decide (r.frozen<=r.view.epoch)then bif chF [a,b,c,d] r.self then instK (inSy r [a,b,c,d] [s,t,u,v]) finI [a,b,c,d] [s,t,u,v] []else liveN r else liveN r:=by kernel_rfl
theorem again_0(r:Rep):callT env22 9 F_chain_Again [.agg (encRep (inPh r 0))]=some .nils:=by kernel_rfl
def ackK(r:Rep)(l:List (List AV)):Option AV:=gC decLM preLM encLM [encMembers r.view.chain,.agg (encMember r.self)] fun z=>
 bif(sideP z.1 z.2 (-1)).isSome then gC dRM pRM eRM [.agg (encRep r),.agg (encMember ((sideP z.1 z.2 (-1)).getD default))] fun a=>some (.trl 31 (l++[encMsg {toM a.1 a.2 14 with ver:=haveP a.1}]))
 else match l with
  | []=>some .nils
  | l=>some (.trl 31 l)
def workK(r:Rep):Option AV:=bif decide (r.frozen<=r.view.epoch)then gC decLM preLM encLM [encMembers r.view.chain,.agg (encMember r.self)] fun y=>
   bif(sideP y.1 y.2 1).isSome then gC dRM pFw eRM [.agg (encRep (inPh r 3)),.agg (encMember ((sideP y.1 y.2 1).getD default))] fun f=>ackK (inPh r 3) [encMsg (forwM f.1 f.2)]
   else ackK (inPh r 3) []
  else some .nils
theorem again_3(r:Rep):callT env22 9 F_chain_Again [.agg (encRep (inPh r 3))]=bif decide (r.frozen<=r.view.epoch)then workK r else workK r:=by kernel_rfl
theorem instK_eq{r:Rep}(h:RepShort r){fin:List (Rep × Member)->Option AV}:∀ (l:List Member) (s:List Bool) (acc:List (Rep × Member)),∃ k,instK r fin l s acc=fin (acc++k)/\k.map (fun y=>instM y.1 y.2)=instsP r l s
 | [],_,acc=>⟨[],by simp[instK],rfl⟩
 | _::_,[],acc=>⟨[],by simp[instK],rfl⟩
 | m::ms,s::ss,acc=>by
  cases s with
  | true=>
   obtain⟨k,h1,h2⟩:=instK_eq h (fin:=fin) ms ss acc
   exact⟨k,h1,h2⟩
  | false=>
   obtain⟨k,h1,h2⟩:=instK_eq h (fin:=fin) ms ss (acc++[(r,m)])
   refine⟨(r,m)::k,?_,by simp[instsP,h2]⟩
   show(gC dRM pRS eRM [.agg (encRep r),.agg (encMember m)] fun y=>instK r fin ms ss (acc++[y]))=_
   rw[qRM (P:=pRS) h,h1,List.append_assoc];rfl
theorem trl_out(l:List Msg):∀ v,(match l with | []=>AV.nils | l=>.trl 31 (l.map encMsg))=v->SubV v (encMsgs l):=by
 intro v hv
 subst hv
 match l with
 | []=>exact nilsL
 | a::l=>exact SubV.trl_encL (e:=encMsg) (z:=default) (a::l)
structure RepAg(r:Rep):Prop where
 short:RepShort r
 ph:r.view.phase=0\/r.view.phase=2\/r.view.phase=3
 sync:r.view.phase=2->isFirst r.view.chain r.self=true/\r.synced.length=r.view.chain.length
 len:r.view.chain.length<=4
 got:VNum r.got
 log:∀ e ∈ r.tail.log,VNum e.ver
theorem chF_first{l:List Member}{m:Member}(hl:l ≠ []):chF l m=isFirst l m:=by
 cases l with
 | nil=>exact absurd rfl hl
 | cons x r=>
  unfold chF isFirst
  rw[Bool.and_true]
  exact mem_eq x m
theorem ackK_eq{r:Rep}(h:r.view.chain.length<=LB)(l:List Msg):ackK r (l.map encMsg)=some (match l++acksP r with | []=>AV.nils | l=>.trl 31 (l.map encMsg)):=by
 unfold ackK acksP
 rw[qLM h]
 cases hs:sideP r.view.chain r.self (-1)with
 | none=>
  cases l with
  | nil=>rfl
  | cons a l=>simp
 | some m=>
  simp only[Option.isSome_some,cond_true,Option.getD_some]
  rw[qRM (P:=pRM) h]
  cases l with
  | nil=>rfl
  | cons a l=>simp
theorem again_con(r:Rep)(h:RepAg r):Contract PG F_chain_Again [.agg (encRep r)] [] (encMsgs (againP r)) []:=by
 have hLB:r.view.chain.length<=LB:=h.short.1
 rcases h.ph with hp | hp | hp
 ·have ha:againP r=[]:=by
   unfold againP syncsP worksP liveP
   rw[hp];rfl
  rw[ha]
  have:=con22 (again_0 r)
  rw[<- inPh_eq hp]at this
  exact this.res nilsL
 ·obtain⟨hf,hl⟩:=h.sync hp
  have hs:syncsP r=decide (r.frozen<=r.view.epoch):=by
   unfold syncsP liveP
   rw[hp];cases decide (r.frozen<=r.view.epoch) <;> rfl
  have hw:worksP r=false:=by
   unfold worksP
   rw[hp];cases liveP r <;> rfl
  have key:callT env22 9 F_chain_Again [.agg (encRep r)]=bif decide (r.frozen<=r.view.epoch)then instK r finI r.view.chain r.synced []else liveN r:=by
   have he:=inSy_eq hp
   have hch:chF r.view.chain r.self=true:=by
    rw[chF_first (by obtain⟨x,hx⟩:=isFirst_cons hf;rw[hx];simp)];exact hf
   have hlen:=h.len
   generalize r.view.chain=ch at *
   generalize r.synced=sy at *
   match ch,sy,hl,hlen with
   | [a],[s],_,_=>have:=again_s1 r a s;rw[<- he,hch]at this;exact this
   | [a,b],[s,t],_,_=>have:=again_s2 r a b s t;rw[<- he,hch]at this;exact this
   | [a,b,c],[s,t,u],_,_=>have:=again_s3 r a b c s t u;rw[<- he,hch]at this;exact this
   | [a,b,c,d],[s,t,u,v],_,_=>have:=again_s4 r a b c d s t u v;rw[<- he,hch]at this;exact this
   | [],_,_,_=>simp[isFirst]at hf
  unfold againP
  rw[hs,hw]
  cases hd:decide (r.frozen<=r.view.epoch)with
  | false=>unfold liveN at key;rw[hd]at key;exact(con22 key).res nilsL
  | true=>
   rw[hd,cond_true]at key
   obtain⟨k,h1,h2⟩:=instK_eq h.short (fin:=finI) r.view.chain r.synced []
   rw[h1,List.nil_append]at key
   simp only[cond_true]
   rw[<- h2]
   refine(con22 (r:=match k.map (fun y=>instM y.1 y.2)with | []=>AV.nils | l=>.trl 31 (l.map encMsg)) (key.trans ?_)).res (trl_out _ _ rfl)
   cases k with
   | nil=>rfl
   | cons a k=>simp[finI,List.map_map,Function.comp_def]
 ·have hs:syncsP r=false:=by
   unfold syncsP
   rw[hp];cases liveP r <;> rfl
  have hw:worksP r=decide (r.frozen<=r.view.epoch):=by
   unfold worksP liveP
   rw[hp];cases decide (r.frozen<=r.view.epoch) <;> rfl
  have key:=again_3 r
  unfold workK at key
  rw[<- inPh_eq hp,qLM hLB]at key
  unfold againP
  rw[hs,hw]
  cases hd:decide (r.frozen<=r.view.epoch)with
  | false=>rw[hd]at key;exact(con22 key).res nilsL
  | true=>
   rw[hd]at key
   simp only[cond_true,cond_false]at key ⊢
   unfold forwsP
   cases hsd:sideP r.view.chain r.self 1 with
   | none=>
    rw[hsd]at key
    have:=ackK_eq hLB []
    simp only[Option.isSome_none,cond_false]at key
    exact(con22 (key.trans this)).res (trl_out _ _ rfl)
   | some m=>
    rw[hsd]at key
    simp only[Option.isSome_some,cond_true,Option.getD_some]at key
    rw[qRM (P:=pFw) ⟨h.short.2.1,h.got,h.log⟩]at key
    have:=ackK_eq hLB [forwM r m]
    exact(con22 (key.trans this)).res (trl_out _ _ rfl)
def kAgain:Known:=.spec F_chain_Again dRep1 RepAg eRep1 (fun r=>encMsgs (againP r))
theorem kAgain_ok:kAgain.Ok PG:=Known.spec_ok again_con
theorem rlive_eq(r:Rep):callT env0 4 F_lockgateref18_Live [.agg (encRep r)]=bif !decide (r.view.phase=0)then some (.bool (decide (r.frozen<=r.view.epoch)))else some (.bool false):=by kernel_rfl
theorem rlive_con(r:Rep)(_:pRep1 r):Contract PG F_lockgateref18_Live [.agg (encRep r)] [] (.bool (liveP r)) []:=
 con0 ((rlive_eq r).trans (by unfold liveP;cases decide (r.view.phase=0) <;> rfl))
def kRLive:Known:=.spec F_lockgateref18_Live dRep1 pRep1 eRep1 (fun r=>.bool (liveP r))
theorem kRLive_ok:kRLive.Ok PG:=Known.spec_ok rlive_con
def envL(lv:List (Nat × Nat × List Nat))(md:Nat->Option Nat)(l:List Known):Env:={envM md (orcOf l)with live:=fun f b=>liveOf f b (lv++liveTab)}
theorem envL_ok{lv:List (Nat × Nat × List Nat)}{md:Nat->Option Nat}{l:List Known}(h:∀ k ∈ l,k.Ok PG):EnvOk PG (envL lv md l):=⟨tt_ok rfl,orc_ok h⟩
theorem envL_code{lv:List (Nat × Nat × List Nat)}{md:Nat->Option Nat}{l:List Known}:CodeOk PG (envL lv md l):=codeOf_ok rfl
theorem conL{lv:List (Nat × Nat × List Nat)}{md:Nat->Option Nat}{l:List Known}(h:∀ k ∈ l,k.Ok PG){n f:Nat}{args:List AV}{r:AV}(e:callT (envL lv md l) n f args=some r):Contract PG f args [] r []:=
 callT_ok (envL_ok h) envL_code mixed e
end Go.Wk
end
noncomputable section
open Go Go.AM Go.Md
namespace Go.Wk
set_option maxRecDepth 100000
set_option maxHeartbeats 400000
theorem SubC.trl{sz:Nat}:∀ {a b:List (List AV)},a.length=b.length->(∀ i,i<a.length->SubC (a.getD i []) (b.getD i []))->SubV (.trl sz a) (.trl sz b):=by
 intro a b hl h w I u hv
 cases hv with
 | trl _ _ _ h1 hz=>
  refine .trl _ _ _ ?_ hz
  rw[<- hl]
  exact SubV.trs h w I u h1
theorem trl_map{X:Type}{sz:Nat}{f g:X->List AV}(h:∀ x,SubC (f x) (g x))(l:List X):SubV (.trl sz (l.map f)) (.trl sz (l.map g)):=by
 refine SubC.trl (by simp) fun i hi=>?_
 have hi:i<l.length:=by simpa using hi
 have e1:(l.map f).getD i []=f l[i]:=by simp[List.getD,List.getElem?_eq_getElem hi]
 have e2:(l.map g).getD i []=g l[i]:=by simp[List.getD,List.getElem?_eq_getElem hi]
 rw[e1,e2];exact h _
def kns25:List Known:=[kAhead,kRAhead,kRNum,kNum]
theorem kns25_ok:∀ k ∈ kns25,k.Ok PG:=ak kAhead_ok (ak kRAhead_ok (ak kRNum_ok (ak kNum_ok ank)))
def env25:Env:=envO kns25
theorem tpush_n(f:Ver)(l:Ver)(e:Entry):callT env25 9 F_tail_Push [AV.agg [eV f,eV l,AV.nils],AV.agg (encEntry e)] =
 gC (dV2) (V2) (eV2) ([AV.cplx FloatKind.f64 l.re l.im,AV.cplx FloatKind.f64 e.ver.re e.ver.im]) fun y0=>
 bif !vlt y0.fst y0.snd then
  some (AV.tup [AV.agg [AV.cplx FloatKind.f64 f.re f.im,AV.cplx FloatKind.f64 l.re l.im,AV.nils],AV.bool false])
 else
  some (AV.tup [AV.agg [AV.cplx FloatKind.f64 f.re f.im,AV.cplx FloatKind.f64 e.ver.re e.ver.im,AV.trl 11 [encEntry e]],AV.bool true]):=by kernel_rfl
theorem tpush_e(f:Ver)(l:Ver)(e:Entry):callT env25 9 F_tail_Push [AV.agg [eV f,eV l,AV.trl 11 []],AV.agg (encEntry e)] =
 gC (dV2) (V2) (eV2) ([AV.cplx FloatKind.f64 l.re l.im,AV.cplx FloatKind.f64 e.ver.re e.ver.im]) fun y1=>
 bif !vlt y1.fst y1.snd then
  some (AV.tup [AV.agg [AV.cplx FloatKind.f64 f.re f.im,AV.cplx FloatKind.f64 l.re l.im,AV.trl 11 []],AV.bool false])
 else
  some (AV.tup [AV.agg [AV.cplx FloatKind.f64 f.re f.im,AV.cplx FloatKind.f64 e.ver.re e.ver.im,AV.trl 11 [encEntry e]],AV.bool true]):=by kernel_rfl
theorem tpush_c(f:Ver)(l:Ver)(e:Entry)(n:Nat)(g:Nat->List AV):callT env25 9 F_tail_Push [AV.agg [eV f,eV l,AV.tr 11 (n+1) g],AV.agg (encEntry e)] =
 bif((0+(n+1))*112).ble 140737488355328&&(0+(n+1)).ble 140737488355328 then
  gC (dV2) (V2) (eV2) ([AV.cplx FloatKind.f64 l.re l.im,AV.cplx FloatKind.f64 e.ver.re e.ver.im]) fun y2=>
  bif !vlt y2.fst y2.snd then
   bif(n+1).ble (n+1)&&true&&true then
    some (AV.tup [AV.agg [AV.cplx FloatKind.f64 f.re f.im,AV.cplx FloatKind.f64 l.re l.im,AV.tr 11 (n+1) fun i=>g i],AV.bool false])
   else none
  else
   bif(n+1).ble (n+1)then
    bif((n+1+1)*112).ble 140737488355328&&(n+1+1).ble 140737488355328 then
     bif(n+1+1).ble (n+1+1)&&true&&true then
      some (AV.tup [AV.agg [AV.cplx FloatKind.f64 f.re f.im,AV.cplx FloatKind.f64 e.ver.re e.ver.im,AV.tr 11 (n+1+1) fun i=>bif i.blt (n+1)then g i else bif i.blt (n+1+1)then [encEntry e].getD (i - (n+1)) []else g (n+1)],AV.bool true])
     else none
    else none
   else none
 else none:=by kernel_rfl
def at1(a:Seen):Seen:=⟨1,a.num,a.ver,a.kind,a.code,a.res,a.hasRes⟩
theorem sput_n(s:Seen):callT env25 20 F_seen_Put [AV.nils,AV.agg (encSeen s)] =
 some (AV.trl 7 [encSeen s]):=by kernel_rfl
theorem sput_e(s:Seen):callT env25 20 F_seen_Put [AV.trl 7 [],AV.agg (encSeen s)] =
 some (AV.trl 7 [encSeen s]):=by kernel_rfl
theorem sput_1(a:Seen)(s:Seen):callT env25 20 F_seen_Put [AV.trl 7 [encSeen (at1 a)],AV.agg (encSeen (at1 s))] =
 bif decide ((at1 a).num<(at1 s).num)then
  some (AV.trl 7 [[AV.int IntKind.i64 1,AV.int IntKind.i64 s.num,AV.cplx FloatKind.f64 s.ver.re s.ver.im,AV.int IntKind.i64 s.kind,AV.int IntKind.i64 s.code,AV.str s.res,AV.bool s.hasRes]])
 else
  some (AV.trl 7 [[AV.int IntKind.i64 1,AV.int IntKind.i64 a.num,AV.cplx FloatKind.f64 a.ver.re a.ver.im,AV.int IntKind.i64 a.kind,AV.int IntKind.i64 a.code,AV.str a.res,AV.bool a.hasRes]]):=by kernel_rfl
def pushT(t:Tail)(e:Entry):Tail × Bool:=bif vlt t.last e.ver then(⟨t.floor,e.ver,t.log++[e]⟩,true)else(t,false)
abbrev TE:=Tail × Entry
def dTE(a:List AV):TE:=(decTail (argC a 0),decEntry (argC a 1))
def pTE(p:TE):Prop:=p.1.log.length<=10000/\VNum p.1.last/\VNum p.2.ver
def eTE(p:TE):List AV:=[.agg (encTail p.1),.agg (encEntry p.2)]
def oTE(p:TE):AV:=.tup [.agg (encTail (pushT p.1 p.2).1),.bool (pushT p.1 p.2).2]
theorem con25{n f:Nat}{xs:List AV}{r:AV}(e:callT env25 n f xs=some r):Contract PG f xs [] r []:=con_of (md:=fun _=>none) kns25_ok e
theorem tail_sub{f l:Ver}{a b:AV}(h:SubV a b):SubV (.agg [eV f,eV l,a]) (.agg [eV f,eV l,b]):=.agg (.cons (.refl _) (.cons (.refl _) (.cons h .nil)))
theorem tail_or{f l:Ver}{g:Nat->List AV}{x:AV}:OrC [.agg [eV f,eV l,.tr 11 0 g],x] [.agg [eV f,eV l,.nils],x] [.agg [eV f,eV l,.trl 11 []],x]:=OrC.of [] [x] (.agg (OrC.of [eV f,eV l] [] .nil))
theorem tup2{a b:AV}{c:Bool}(h:SubV a b):SubV (.tup [a,.bool c]) (.tup [b,.bool c]):=.tup (.cons h (.cons (.refl _) .nil))
theorem one_sub(e:Entry):SubV (.trl 11 [encEntry e]) (encEntrys [e]):=SubV.trl_of [e] rfl
theorem emp_sub:SubV (.trl 11 []) (encEntrys []):=SubV.trl_of [] rfl
theorem push_con{F:Nat}
  (hn:∀ (f l:Ver) (e:Entry),callT env25 9 F [.agg [eV f,eV l,.nils],.agg (encEntry e)]=gC dV2 V2 eV2 [.cplx .f64 l.re l.im,.cplx .f64 e.ver.re e.ver.im] fun y=>bif !vlt y.1 y.2 then some (.tup [.agg [eV f,eV l,.nils],.bool false])else some (.tup [.agg [eV f,eV e.ver,.trl 11 [encEntry e]],.bool true]))
  (he:∀ (f l:Ver) (e:Entry),callT env25 9 F [.agg [eV f,eV l,.trl 11 []],.agg (encEntry e)]=gC dV2 V2 eV2 [.cplx .f64 l.re l.im,.cplx .f64 e.ver.re e.ver.im] fun y=>bif !vlt y.1 y.2 then some (.tup [.agg [eV f,eV l,.trl 11 []],.bool false])else some (.tup [.agg [eV f,eV e.ver,.trl 11 [encEntry e]],.bool true]))
  (hc:∀ (f l:Ver) (e:Entry) (n:Nat) (g:Nat->List AV),n<=10000->VNum l->VNum e.ver->callT env25 9 F [.agg [eV f,eV l,.tr 11 (n+1) g],.agg (encEntry e)] =
   bif vlt l e.ver then some (.tup [.agg [eV f,eV e.ver,.tr 11 (n+1+1) fun i=>bif i.blt (n+1)then g i else bif i.blt (n+1+1)then [encEntry e].getD (i - (n+1)) []else g (n+1)],.bool true])else some (.tup [.agg [eV f,eV l,.tr 11 (n+1) fun i=>g i],.bool false]))
  (p:TE) (h:pTE p):Contract PG F (eTE p) [] (oTE p) []:=by
 obtain⟨⟨f,l,log⟩,e⟩:=p
 obtain⟨h1,h2,h3⟩:=h
 simp only at h1 h2 h3
 cases log with
 | nil=>
  refine Contract.split tail_or ?_ ?_
  ·have k:=hn f l e
   rw[qV2 h2 h3]at k
   unfold oTE pushT
   simp only at k ⊢
   cases hv:vlt l e.ver with
   | false=>rw[hv]at k;exact(con25 k).res (tup2 (tail_sub nilsL))
   | true=>rw[hv]at k;exact(con25 k).res (tup2 (tail_sub (one_sub e)))
  ·have k:=he f l e
   rw[qV2 h2 h3]at k
   unfold oTE pushT
   simp only at k ⊢
   cases hv:vlt l e.ver with
   | false=>rw[hv]at k;exact(con25 k).res (tup2 (tail_sub emp_sub))
   | true=>rw[hv]at k;exact(con25 k).res (tup2 (tail_sub (one_sub e)))
 | cons a log=>
  have k:=hc f l e log.length (fun i=>encEntry ((a::log).getD i default)) (by simp only[List.length_cons]at h1;omega) h2 h3
  unfold oTE pushT
  simp only
  cases hv:vlt l e.ver with
  | false=>rw[hv]at k;exact con25 k
  | true=>
   rw[hv]at k
   refine(con25 k).res (tup2 (tail_sub ?_))
   have:=appF_lit encEntry default (a::log) [e]
   have e2:(a::log++[e]).length=log.length+1+1:=by simp
   have e3:encEntrys (a::log++[e])=.tr 11 (log.length+1+1) fun i=>encEntry ((a::log++[e]).getD i default):=by unfold encEntrys encL;rw[e2]
   show SubV _ (encEntrys (a::log++[e]))
   rw[e3,<- this]
   exact .refl _
theorem roomV{n b:Nat}(hb:b<=1000)(h:n<=1000000):(Nat.ble (n*b) 140737488355328&&Nat.ble n 140737488355328)=true:=by
 have h1:n*b<=140737488355328:=by
  have:n*b<=1000000*1000:=Nat.mul_le_mul (by omega) hb
  omega
 rw[ble_true h1,ble_true (by omega:n<=140737488355328)];rfl
theorem tpush_con(p:TE)(h:pTE p):Contract PG F_tail_Push (eTE p) [] (oTE p) []:=
 push_con tpush_n tpush_e (fun f l e n g hn h2 h3=>by
  refine(tpush_c f l e n g).trans ?_
  rw[roomV (n:=0+(n+1)) (by omega) (by omega),cond_true,qV2 h2 h3]
  simp only[ble_self,Bool.and_true,cond_true,roomV (n:=n+1+1) (b:=112) (by omega) (by omega)]
  cases vlt l e.ver <;> rfl) p h
def kTPush:Known:=.spec F_tail_Push dTE pTE eTE oTE
theorem kTPush_ok:kTPush.Ok PG:=Known.spec_ok tpush_con
theorem qTE{R:Type}{t:Tail}{e:Entry}{k:TE->Option R}(h:pTE (t,e)):gC dTE pTE eTE [.agg (encTail t),.agg (encEntry e)] k=k (t,e):=gC_eq (t,e) (Prod.ext (dec_encTail t) (dec_encEntry e)) h (.refl _)
abbrev SS:=List Seen × Seen
def dSS(a:List AV):SS:=(decL decSeen (a.getD 0 .nils),decSeen (argC a 1))
def pSS(p:SS):Prop:=(p.1.length<=1 /\ ∀ a ∈ p.1,a.sess=1)/\p.2.sess=1
def eSS(p:SS):List AV:=[encSeens p.1,.agg (encSeen p.2)]
def oSS(p:SS):AV:=encSeens (putP p.1 p.2)
theorem seen1{a:Seen}(h:a.sess=1):a=at1 a:=by cases a;simp only at h;subst h;rfl
theorem put_con{F:Nat}(hn:∀ s,callT env25 20 F [.nils,.agg (encSeen s)]=some (.trl 7 [encSeen s]))(he:∀ s,callT env25 20 F [.trl 7 [],.agg (encSeen s)]=some (.trl 7 [encSeen s]))
  (h1:∀ a s:Seen,callT env25 20 F [.trl 7 [encSeen (at1 a)],.agg (encSeen (at1 s))]=bif decide (a.num<s.num)then some (.trl 7 [encSeen (at1 s)])else some (.trl 7 [encSeen (at1 a)]))
  (p:SS) (h:pSS p):Contract PG F (eSS p) [] (oSS p) []:=by
 obtain⟨l,s⟩:=p
 obtain⟨⟨g1,g2⟩,g3⟩:=h
 simp only at g1 g2 g3
 have one:∀ s,SubV (.trl 7 [encSeen s]) (encSeens [s]):=fun s=>SubV.trl_of [s] rfl
 cases l with
 | nil=>exact Contract.split (OrC.of [] [.agg (encSeen s)] .nil) ((con25 (hn s)).res (one s)) ((con25 (he s)).res (one s))
 | cons a l=>
  have:l=[]:=by cases l with
   | nil=>rfl
   | cons b c=>simp at g1
  subst this
  have k:=h1 a s
  rw[<- seen1 (g2 a (by simp)),<- seen1 g3]at k
  have key:Contract PG F [.trl 7 [encSeen a],.agg (encSeen s)] [] (encSeens (bif decide (a.num<s.num)then [s]else [a])) []:=by
   cases hd:decide (a.num<s.num)with
   | true=>rw[hd]at k;exact(con25 k).res (one s)
   | false=>rw[hd]at k;exact(con25 k).res (one a)
  exact key.args (.cons (SubV.encL_trl [a] (by simp)) (.refl _))
theorem sput_con(p:SS)(h:pSS p):Contract PG F_seen_Put (eSS p) [] (oSS p) []:=put_con sput_n sput_e (fun a s=>(sput_1 a s).trans rfl) p h
def kSPut:Known:=.spec F_seen_Put dSS pSS eSS oSS
theorem kSPut_ok:kSPut.Ok PG:=Known.spec_ok sput_con
theorem qSS{R:Type}{l:List Seen}{s:Seen}{k:SS->Option R}(h:pSS (l,s)):gC dSS pSS eSS [encSeens l,.agg (encSeen s)] k=k (l,s):=gC_eq (l,s) (Prod.ext (decSeens l) (dec_encSeen s)) h (.refl _)
def kns26:List Known:=[kTPush,kSPut,kOf]
theorem kns26_ok:∀ k ∈ kns26,k.Ok PG:=ak kTPush_ok (ak kSPut_ok (ak kOf_ok ank))
def env26:Env:=envO kns26
theorem con26{n f:Nat}{xs:List AV}{r:AV}(e:callT env26 n f xs=some r):Contract PG f xs [] r []:=con_of (md:=fun _=>none) kns26_ok e
theorem cpush_eq(r:Rep)(e:Entry):callT env26 9 F_chain_push [AV.agg (encRep r),AV.agg (encEntry e)] =
 gC (dTE) (pTE) (eTE) ([AV.agg (encTail r.tail),AV.agg (encEntry e)]) fun y0=>
 bif !(pushT y0.fst y0.snd).snd then
  some (AV.tup [AV.agg (encRep r),AV.bool false])
 else
  gC (dEnt1) (pEnt1) (eEnt1) ([AV.agg (encEntry e)]) fun y1=>
  gC (dSS) (pSS) (eSS) ([encSeens r.seen,AV.agg [AV.int IntKind.i64 y1.sess,AV.int IntKind.i64 y1.num,AV.cplx FloatKind.f64 y1.ver.re y1.ver.im,AV.int IntKind.i64 y1.kind,AV.int IntKind.i64 y1.code,AV.str y1.res,AV.bool y1.hasRes]]) fun y2=>
  some (AV.tup [AV.agg [AV.int IntKind.i64 r.shard,AV.int IntKind.i64 r.self.node,AV.int IntKind.i64 r.self.boot,AV.int IntKind.i64 r.view.shard,AV.int IntKind.i64 r.view.epoch,AV.int IntKind.i64 r.view.gen,AV.int IntKind.i64 r.view.phase,encMembers r.view.chain,AV.int IntKind.i64 r.frozen,AV.cplx FloatKind.f64 (pushT y0.fst y0.snd).fst.floor.re (pushT y0.fst y0.snd).fst.floor.im,AV.cplx FloatKind.f64 (pushT y0.fst y0.snd).fst.last.re (pushT y0.fst y0.snd).fst.last.im,encEntrys (pushT y0.fst y0.snd).fst.log,encSeens (putP y2.fst y2.snd),AV.cplx FloatKind.f64 r.got.re r.got.im,encBools r.synced],AV.bool true]):=by kernel_rfl
structure PushOk(r:Rep)(e:Entry):Prop where
 log:r.tail.log.length<=10000
 last:VNum r.tail.last
 ver:VNum e.ver
 seen:r.seen.length<=1 /\ ∀ a ∈ r.seen,a.sess=1
 sess:e.sess=1
abbrev RE:=Rep × Entry
def dRE(a:List AV):RE:=(decRep (argC a 0),decEntry (argC a 1))
def pRE(p:RE):Prop:=PushOk p.1 p.2
def eRE(p:RE):List AV:=[.agg (encRep p.1),.agg (encEntry p.2)]
def oRE(p:RE):AV:=.tup [.agg (encRep (pushP p.1 p.2).1),.bool (pushP p.1 p.2).2]
theorem qRE{R:Type}{r:Rep}{e:Entry}{P:RE->Prop}{k:RE->Option R}(h:P (r,e)):gC dRE P eRE [.agg (encRep r),.agg (encEntry e)] k=k (r,e):=gC_eq (r,e) (Prod.ext (dec_encRep r) (dec_encEntry e)) h (.refl _)
theorem push_run{r:Rep}{e:Entry}(h:PushOk r e){x:Option AV}(hx:x=gC dTE pTE eTE [.agg (encTail r.tail),.agg (encEntry e)] fun y0=>bif !(pushT y0.1 y0.2).2 then some (.tup [.agg (encRep r),.bool false])else gC dEnt1 pEnt1 eEnt1 [.agg (encEntry e)] fun y1=>
  gC dSS pSS eSS [encSeens r.seen,.agg (encSeen (ofP y1))] fun y2=>some (.tup [.agg (encRep {r with tail:=(pushT y0.1 y0.2).1,seen:=putP y2.1 y2.2}),.bool true])):x=some (oRE (r,e)):=by
 subst hx
 rw[qTE ⟨h.log,h.last,h.ver⟩]
 unfold oRE pushP pushT
 simp only
 cases hv:vlt r.tail.last e.ver with
 | false=>rfl
 | true=>
  simp only[cond_true,Bool.not_true,cond_false]
  rw[qEnt1,qSS ⟨h.seen,h.sess⟩]
  rfl
theorem cpush_con(p:RE)(h:pRE p):Contract PG F_chain_push (eRE p) [] (oRE p) []:=con26 (push_run h (cpush_eq p.1 p.2))
def kPush:Known:=.spec F_chain_push dRE pRE eRE oRE
theorem kPush_ok:kPush.Ok PG:=Known.spec_ok cpush_con
structure LiftOk(t:Tail)(v:Ver):Prop where
 len:t.log.length<=10000
 fl:VNum t.floor
 la:VNum t.last
 v:VNum v
 log:∀ e ∈ t.log,VNum e.ver
 le:vle t.floor t.last
abbrev TV:=Tail × Ver
def dTV(a:List AV):TV:=(decTail (argC a 0),⟨(getC a 1).1,(getC a 1).2⟩)
def pTV(p:TV):Prop:=LiftOk p.1 p.2
def eTV(p:TV):List AV:=[.agg (encTail p.1),eV p.2]
def oTV(p:TV):AV:=.agg (encTail (liftP p.1 p.2))
theorem qTV{R:Type}{t:Tail}{v:Ver}{k:TV->Option R}(h:LiftOk t v):gC dTV pTV eTV [.agg (encTail t),eV v] k=k (t,v):=gC_eq (t,v) (Prod.ext (dec_encTail t) rfl) h (.refl _)
def mdL(f:Nat):Option Nat:=bif Nat.beq f F_slices_DeleteFunc_api_Entry then some 5 else bif Nat.beq f F_slices_IndexFunc_api_Entry then some 5 else bif Nat.beq f F_tail_Lift_c1 then some 0 else none
abbrev EV:=Entry × Ver
def dEV(a:List AV):EV:=(decEntry (argC a 0),match a.getD 1 .nils with
 | .tp cs _=>⟨(getC cs 0).1,(getC cs 0).2⟩
 | _=>⟨0,0⟩)
def pEV(p:EV):Prop:=VNum p.1.ver/\VNum p.2
def eEV(p:EV):List AV:=[.agg (encEntry p.1),.tp [eV p.2] 0]
def oEV(p:EV):AV:=.bool (!vlt p.2 p.1.ver)
def env27a:Env:=envL [] mdL [kAhead]
theorem con27a{n f:Nat}{xs:List AV}{r:AV}(e:callT env27a n f xs=some r):Contract PG f xs [] r []:=conL (ak kAhead_ok ank) e
theorem c1_eq(e:Entry)(v:Ver):callT env27a 5 F_tail_Lift_c1 [AV.agg (encEntry e),AV.tp [eV v] 0] =
 gC (dV2) (V2) (eV2) ([AV.cplx FloatKind.f64 v.re v.im,AV.cplx FloatKind.f64 e.ver.re e.ver.im]) fun y0=>
 some (AV.bool !vlt y0.fst y0.snd):=by kernel_rfl
theorem c1_con(p:EV)(h:pEV p):Contract PG F_tail_Lift_c1 (eEV p) [] (oEV p) []:=con27a ((c1_eq p.1 p.2).trans (by rw[qV2 h.2 h.1];rfl))
def kC1:Known:=.spec F_tail_Lift_c1 dEV pEV eEV oEV
theorem kC1_ok:kC1.Ok PG:=Known.spec_ok c1_con
theorem qEV{R:Type}{e:Entry}{v:Ver}{k:EV->Option R}(h:VNum e.ver)(h':VNum v):gC dEV pEV eEV [.agg (encEntry e),.tp [.cplx .f64 v.re v.im] 0] k=k (e,v):=gC_eq (e,v) (Prod.ext (dec_encEntry e) rfl) ⟨h,h'⟩ (.refl _)
abbrev LV:=List Entry × Ver
def hLV(p:LV):Heap:=[.seq true 11 p.1.length fun i=>encEntry (p.1.getD i default),.arr true 1 [[eV p.2]]]
def eLV(p:LV):List AV × Heap:=([.sl 11 0 0 p.1.length 0,.fn (.func F_tail_Lift_c1) [] [.ptr 1 0 0]],hLV p)
def env27b:Env:=envL [] mdL [kC1]
def SIx(p:LV)(i:Int):St:={fr:=[(0,.sl 11 0 0 p.1.length 0),(1,.fn (.func F_tail_Lift_c1) [] [.ptr 1 0 0]),(7,.int .i64 p.1.length),(8,.int .i64 i)],hp:=hLV p}
theorem ix_in(N:Nat)(p:LV):callH env27b (N+1) F_slices_IndexFunc_api_Entry (eLV p).1 (eLV p).2=LP env27b N 2 F_slices_IndexFunc_api_Entry (hnK 2) 0 [] N (SIx p 0):=by kernel_rfl
theorem ix_step(N:Nat)(m:Nat)(p:LV)(i:Int):LP env27b N 2 F_slices_IndexFunc_api_Entry (hnK 2) 0 [] (m+1) (SIx p i) =
 bif decide (i<(↑p.fst.length:Int))then
  bif decide (0<=i)&&decide (i<(↑p.fst.length:Int))then
   bif(0+i.toNat).blt p.fst.length then
    gC (dEV) (pEV) (eEV) ([AV.agg (encEntry (p.fst.getD (0+i.toNat) default)),AV.tp [AV.cplx FloatKind.f64 p.snd.re p.snd.im] 0]) fun y1=>
    bif !vlt y1.snd y1.fst.ver then
     some ((AV.int IntKind.i64 i,[BS.seq true 11 p.fst.length fun i=>encEntry (p.fst.getD i default),BS.arr true 1 [[AV.cplx FloatKind.f64 p.snd.re p.snd.im]]]))
    else
     LP (env27b) (N) (2) (F_slices_IndexFunc_api_Entry) (hnK 2) 0 ([]) (m) (SIx p (IntKind.i64.wrap (i+1)))
   else none
  else none
 else
  some ((AV.int IntKind.i64 (-1),[BS.seq true 11 p.fst.length fun i=>encEntry (p.fst.getD i default),BS.arr true 1 [[AV.cplx FloatKind.f64 p.snd.re p.snd.im]]])):=by kernel_rfl
def delFrom(v:Ver):List Entry->Nat->Int
 | [],_=>-1
 | e::r,i=>if vlt v e.ver=true then delFrom v r (i+1)else i
def decLV(_:List AV)(h:Heap):LV:=(match hget h 0 with
 | .seq _ _ n f=>(List.range n).map fun i=>decEntry (f i)
 | _=>[],match hget h 1 with
 | .arr _ _ [[.cplx _ a b]]=>⟨a,b⟩
 | _=>⟨0,0⟩)
def pLV(p:LV):Prop:=p.1.length<=10000/\VNum p.2 /\ ∀ e ∈ p.1,VNum e.ver
def oIx(p:LV):AV × Heap:=(.int .i64 (delFrom p.2 p.1 0),hLV p)
def kIx:Known:=.specH F_slices_IndexFunc_api_Entry decLV pLV eLV oIx
def env27c:Env:=envL [] mdL [kC1,kIx]
def SDl(p:LV)(i j:Int)(F:Nat->Entry):St:={fr:=[(0,.sl 11 0 0 p.1.length 0),(1,.fn (.func F_tail_Lift_c1) [] [.ptr 1 0 0]),(5,.int .i64 i),(6,.int .i64 j)],hp:=[.seq true 11 p.1.length fun x=>encEntry (F x),.arr true 1 [[eV p.2]]]}
theorem del_in(N:Nat)(p:LV):callH env27c (N+1) F_slices_DeleteFunc_api_Entry (eLV p).1 (eLV p).2=gCH decLV pLV eLV (eLV p).1 (eLV p).2 fun y2=>
 bif decide (delFrom y2.2 y2.1 0 = -1)then some (.sl 11 0 0 p.1.length 0,hLV y2)
 else LP env27c N 2 F_slices_DeleteFunc_api_Entry (hnK 2) 0 [] N {fr:=[(0,.sl 11 0 0 p.1.length 0),(1,.fn (.func F_tail_Lift_c1) [] [.ptr 1 0 0]),(5,.int .i64 (delFrom y2.2 y2.1 0)),(6,.int .i64 (IntKind.i64.wrap (delFrom y2.2 y2.1 0+1)))],hp:=hLV y2}:=by kernel_rfl
theorem del_step(N:Nat)(m:Nat)(p:LV)(i:Int)(j:Int)(F:Nat->Entry):LP env27c N 2 F_slices_DeleteFunc_api_Entry (hnK 2) 0 [] (m+1) (SDl p i j F) =
 bif decide (j<(↑p.fst.length:Int))then
  bif decide (0<=j)&&decide (j<(↑p.fst.length:Int))then
   bif(0+j.toNat).blt p.fst.length then
    gC (dEV) (pEV) (eEV) ([AV.agg (encEntry (F (0+j.toNat))),AV.tp [AV.cplx FloatKind.f64 p.snd.re p.snd.im] 0]) fun y2=>
    bif !!vlt y2.snd y2.fst.ver then
     bif decide (0<=i)&&decide (i<(↑p.fst.length:Int))then
      bif(0+i.toNat).blt p.fst.length&&true then
       LP (env27c) (N) (2) (F_slices_DeleteFunc_api_Entry) (hnK 2) 0 ([]) (m) ({fr:=[(0,AV.sl 11 0 0 p.fst.length 0),(1,AV.fn (Fn.func F_tail_Lift_c1) [] [AV.ptr 1 0 0]),(5,AV.int IntKind.i64 (IntKind.i64.wrap (i+1))),(6,AV.int IntKind.i64 (IntKind.i64.wrap (j+1)))],hp:=[BS.seq true 11 p.fst.length fun i'=>bif i'.beq (0+i.toNat)then encEntry (F (0+j.toNat))else encEntry (F i'),BS.arr true 1 [[AV.cplx FloatKind.f64 p.snd.re p.snd.im]]]})
      else none
     else none
    else
     LP (env27c) (N) (2) (F_slices_DeleteFunc_api_Entry) (hnK 2) 0 ([]) (m) (SDl p i (IntKind.i64.wrap (j+1)) F)
   else none
  else none
 else
  bif decide (0<=i)&&decide (i<=(↑p.fst.length:Int))then
   bif(p.fst.length - i.toNat).beq 0 then
    bif decide (0<=i)&&decide (i<=(↑(capOf p.fst.length 0):Int))then
     some ((AV.sl 11 0 0 i.toNat 0,[BS.seq true 11 p.fst.length fun x=>encEntry (F x),BS.arr true 1 [[AV.cplx FloatKind.f64 p.snd.re p.snd.im]]]))
    else none
   else
    bif(0+i.toNat+(p.fst.length - i.toNat)).ble p.fst.length then
     bif decide (0<=i)&&decide (i<=(↑(capOf p.fst.length 0):Int))then
      some ((AV.sl 11 0 0 i.toNat 0,[BS.seq true 11 p.fst.length fun i_1=>bif i_1.blt (0+i.toNat)then encEntry (F i_1)else bif i_1.blt (0+i.toNat+(p.fst.length - i.toNat))then [AV.cplx FloatKind.f64 0 0,AV.int IntKind.i64 0,AV.str [],AV.str [],AV.bool false,AV.bool false,AV.int IntKind.i64 0,AV.int IntKind.i64 0,AV.int IntKind.i64 0,AV.str [],AV.bool false]else encEntry (F i_1),BS.arr true 1 [[AV.cplx FloatKind.f64 p.snd.re p.snd.im]]]))
     else none
    else none
  else none:=by kernel_rfl
theorem con27b{p:LV}{N:Nat}{r:AV}{h:Heap}(e:callH env27b N F_slices_IndexFunc_api_Entry (eLV p).1 (eLV p).2=some (r,h)):Contract PG F_slices_IndexFunc_api_Entry (eLV p).1 (eLV p).2 r h/\(eLV p).2.length<=h.length:=
 callH_ok (envL_ok (ak kC1_ok ank)) envL_code mixed e
theorem ix_con(p:LV)(h:pLV p):Contract PG F_slices_IndexFunc_api_Entry (eLV p).1 (eLV p).2 (oIx p).1 (oIx p).2/\(eLV p).2.length<=(oIx p).2.length:=by
 obtain⟨h1,h2,h3⟩:=h
 have run:∀ d i m,i+d=p.1.length->d<m->LP env27b (p.1.length+1) 2 F_slices_IndexFunc_api_Entry (hnK 2) 0 [] m (SIx p (i:Nat))=some (.int .i64 (delFrom p.2 (p.1.drop i) i),hLV p):=by
  intro d
  induction d with
  | zero=>
   intro i m hi hm
   obtain⟨m,rfl⟩:∃ k,m=k+1:=⟨m - 1,by omega⟩
   rw[ix_step,dec_nat,decide_eq_false (by omega),cond_false,List.drop_eq_nil_of_le (by omega)]
   rfl
  | succ d ih=>
   intro i m hi hm
   obtain⟨m,rfl⟩:∃ k,m=k+1:=⟨m - 1,by omega⟩
   have hil:i<p.1.length:=by omega
   rw[ix_step,dec_nat,decide_eq_true hil,dec_nonneg,drop_cons (z:=default) hil]
   simp only[cond_true,Bool.and_true,Int.toNat_natCast,Nat.zero_add,blt_true hil]
   rw[qEV (h3 _ (getD_mem hil)) h2,wrapS (by omega)]
   unfold delFrom
   cases hv:vlt p.2 (p.1.getD i default).ver with
   | true=>
    simp only[Bool.not_true,cond_false,if_true]
    exact ih (i+1) m (by omega) (by omega)
   | false=>
    simp only[Bool.not_false,cond_true]
    rfl
 exact con27b ((ix_in (p.1.length+1) p).trans (run p.1.length 0 (p.1.length+1) (by omega) (by omega)))
theorem kIx_ok:kIx.Ok PG:=Known.specH_ok ix_con
theorem decLV_eq(p:LV):decLV (eLV p).1 (eLV p).2=p:=by
 show((List.range p.1.length).map (fun i=>decEntry (encEntry (p.1.getD i default))),(⟨p.2.re,p.2.im⟩:Ver))=p
 refine Prod.ext ?_ rfl
 refine List.ext_getElem (by simp) fun i g1 g2=>?_
 simp[dec_encEntry,List.getD,List.getElem?_eq_getElem g2]
theorem qLV{R:Type}{p:LV}{P:LV->Prop}{k:LV->Option R}(h:P p):gCH decLV P eLV (eLV p).1 (eLV p).2 k=k p:=gCH_eq p (decLV_eq p) h rfl
def dlG(v:Ver):Nat->Nat->Nat->(Nat->Entry)->Nat × (Nat->Entry)
 | 0,_,i,F=>(i,F)
 | d+1,j,i,F=>bif vlt v (F j).ver then dlG v d (j+1) (i+1) (fun x=>bif Nat.beq x i then F j else F x)else dlG v d (j+1) i F
def outG(n:Nat)(r:Nat × (Nat->Entry)):Nat->Entry:=fun x=>bif Nat.blt x r.1 then r.2 x else bif Nat.blt x (r.1+(n - r.1))then default else r.2 x
theorem del_run{p:LV}(h:pLV p){N:Nat}:∀ d i j m F,j+d=p.1.length->d<m->i<j->(∀ x,j<=x->x<p.1.length->F x=p.1.getD x default) ->
  LP env27c N 2 F_slices_DeleteFunc_api_Entry (hnK 2) 0 [] m (SDl p (i:Nat) (j:Nat) F)=some (.sl 11 0 0 (dlG p.2 d j i F).1 0,[.seq true 11 p.1.length fun x=>encEntry (outG p.1.length (dlG p.2 d j i F) x),.arr true 1 [[eV p.2]]]):=by
 obtain⟨h1,h2,h3⟩:=h
 intro d
 induction d with
 | zero=>
  intro i j m F hj hm hij hF
  obtain⟨m,rfl⟩:∃ k,m=k+1:=⟨m - 1,by omega⟩
  have hc:capOf p.1.length 0=p.1.length:=rfl
  rw[del_step,dec_nat,decide_eq_false (by omega),cond_false,hc]
  have hle:decide ((i:Int)<=(p.1.length:Int))=true:=decide_eq_true (by omega)
  simp only[dec_nonneg,hle,Bool.and_true,cond_true,Int.toNat_natCast,beq_false (by omega:p.1.length - i ≠ 0),cond_false,Nat.zero_add,ble_true (by omega:i+(p.1.length - i)<=p.1.length)]
  congr 5
  funext x
  unfold outG dlG
  cases Nat.blt x i <;> cases Nat.blt x (i+(p.1.length - i)) <;> rfl
 | succ d ih=>
  intro i j m F hj hm hij hF
  obtain⟨m,rfl⟩:∃ k,m=k+1:=⟨m - 1,by omega⟩
  have hjl:j<p.1.length:=by omega
  have hil:i<p.1.length:=by omega
  rw[del_step,dec_nat,dec_nat,decide_eq_true hjl,decide_eq_true hil,dec_nonneg,dec_nonneg]
  simp only[cond_true,Bool.and_true,Int.toNat_natCast,Nat.zero_add,blt_true hjl,blt_true hil]
  have hFj:=hF j (Nat.le_refl _) hjl
  rw[qEV (by rw[hFj];exact h3 _ (getD_mem hjl)) h2,wrapS (by omega),wrapS (by omega)]
  unfold dlG
  cases hv:vlt p.2 (F j).ver with
  | true=>
   simp only[Bool.not_true,Bool.not_false,cond_true]
   have e:(fun i'=>bif Nat.beq i' i then encEntry (F j)else encEntry (F i'))=fun x=>encEntry (bif Nat.beq x i then F j else F x):=by
    funext x;cases Nat.beq x i <;> rfl
   rw[e]
   exact ih (i+1) (j+1) m _ (by omega) (by omega) (by omega) fun x hx hxl=>by
    rw[beq_false (by omega:x ≠ i),cond_false];exact hF x (by omega) hxl
  | false=>
   simp only[Bool.not_true,Bool.not_false,cond_false]
   exact ih i (j+1) m F (by omega) (by omega) (by omega) fun x hx hxl=>hF x (by omega) hxl
def rD(p:LV):Nat × (Nat->Entry):=dlG p.2 (p.1.length - ((delFrom p.2 p.1 0).toNat+1)) ((delFrom p.2 p.1 0).toNat+1) (delFrom p.2 p.1 0).toNat fun x=>p.1.getD x default
def kD(p:LV):Nat:=if delFrom p.2 p.1 0 = -1 then p.1.length else(rD p).1
def gD(p:LV):Nat->Entry:=if delFrom p.2 p.1 0 = -1 then fun x=>p.1.getD x default else outG p.1.length (rD p)
def oDl(p:LV):AV × Heap:=(.sl 11 0 0 (kD p) 0,[.seq true 11 p.1.length fun x=>encEntry (gD p x),.arr true 1 [[eV p.2]]])
theorem delFrom_cases(v:Ver):∀ (l:List Entry) (i:Nat),(delFrom v l i = -1/\l.filter (fun e=>vlt v e.ver)=l) \/ ∃ k:Nat,k<l.length/\delFrom v l i=((i+k:Nat):Int)/\(l.take (k+1)).filter (fun e=>vlt v e.ver)=l.take k
 | [],i=>.inl ⟨rfl,rfl⟩
 | e::l,i=>by
  unfold delFrom
  cases hv:vlt v e.ver with
  | true=>
   rw[if_pos rfl]
   rcases delFrom_cases v l (i+1)with ⟨h1,h2⟩ | ⟨k,h1,h2,h3⟩
   ·exact .inl ⟨h1,by rw[List.filter_cons,if_pos hv,h2]⟩
   ·refine .inr ⟨k+1,by simp;omega,by rw[h2];congr 1;omega,?_⟩
    rw[List.take_succ_cons,List.filter_cons,if_pos hv,h3,List.take_succ_cons]
  | false=>
   rw[if_neg (by simp)]
   refine .inr ⟨0,by simp,by simp,?_⟩
   simp[hv]
theorem con27c{p:LV}{N:Nat}{r:AV}{h:Heap}(e:callH env27c N F_slices_DeleteFunc_api_Entry (eLV p).1 (eLV p).2=some (r,h)):Contract PG F_slices_DeleteFunc_api_Entry (eLV p).1 (eLV p).2 r h/\(eLV p).2.length<=h.length:=
 callH_ok (envL_ok (ak kC1_ok (ak kIx_ok ank))) envL_code mixed e
theorem dl_con(p:LV)(h:pLV p):Contract PG F_slices_DeleteFunc_api_Entry (eLV p).1 (eLV p).2 (oDl p).1 (oDl p).2/\(eLV p).2.length<=(oDl p).2.length:=by
 have key:=del_in (p.1.length+1) p
 rw[qLV h]at key
 rcases delFrom_cases p.2 p.1 0 with ⟨e1,e2⟩ | ⟨k,e1,e2,e3⟩
 ·rw[e1]at key
  have:oDl p=(.sl 11 0 0 p.1.length 0,hLV p):=by unfold oDl kD gD;rw[if_pos e1,if_pos e1];rfl
  rw[this]
  exact con27c key
 ·rw[Nat.zero_add]at e2
  have hne:¬ (delFrom p.2 p.1 0 = -1):=by rw[e2];omega
  have h1:=h.1
  rw[decide_eq_false hne,cond_false,e2,wrapS (by omega)]at key
  have run:=del_run h (N:=p.1.length+1) (p.1.length - (k+1)) k (k+1) (p.1.length+1) (fun x=>p.1.getD x default) (by omega) (by omega) (by omega) (fun x _ _=>rfl)
  have:oDl p=(.sl 11 0 0 (dlG p.2 (p.1.length - (k+1)) (k+1) k fun x=>p.1.getD x default).1 0,[.seq true 11 p.1.length fun x=>encEntry (outG p.1.length (dlG p.2 (p.1.length - (k+1)) (k+1) k fun x=>p.1.getD x default) x),.arr true 1 [[eV p.2]]]):=by
   unfold oDl kD gD
   rw[if_neg hne,if_neg hne]
   unfold rD
   rw[e2,Int.toNat_natCast]
  rw[this]
  exact con27c (key.trans run)
def kDel:Known:=.specH F_slices_DeleteFunc_api_Entry decLV pLV eLV oDl
theorem kDel_ok:kDel.Ok PG:=Known.specH_ok dl_con
theorem dlG_ok{v:Ver}{l:List Entry}:∀ (d j i:Nat) (F:Nat->Entry),j+d=l.length->i=((l.take j).filter fun e=>vlt v e.ver).length->(∀ x,x<i->F x=((l.take j).filter fun e=>vlt v e.ver).getD x default) ->
  (∀ x,j<=x->x<l.length->F x=l.getD x default)->i<=j->(dlG v d j i F).1=(l.filter fun e=>vlt v e.ver).length /\ ∀ x,x<(dlG v d j i F).1->(dlG v d j i F).2 x=(l.filter fun e=>vlt v e.ver).getD x default
 | 0,j,i,F,hj,hi,h1,_,_=>by
  have:l.take j=l:=List.take_of_length_le (by omega)
  rw[this]at hi h1
  exact⟨hi,h1⟩
 | d+1,j,i,F,hj,hi,h1,h2,hij=>by
  have hjl:j<l.length:=by omega
  have hFj:=h2 j (Nat.le_refl _) hjl
  have htk:l.take (j+1)=l.take j++[l.getD j default]:=by
   rw[List.take_add_one,List.getElem?_eq_getElem hjl]
   simp[List.getD,List.getElem?_eq_getElem hjl]
  unfold dlG
  cases hv:vlt v (F j).ver with
  | true=>
   simp only[cond_true]
   have hf:(l.take (j+1)).filter (fun e=>vlt v e.ver)=(l.take j).filter (fun e=>vlt v e.ver)++[l.getD j default]:=by
    rw[htk,List.filter_append]
    congr 1
    rw[hFj]at hv
    rw[List.filter_cons,if_pos hv,List.filter_nil]
   refine dlG_ok d (j+1) (i+1) _ (by omega) (by rw[hf,List.length_append,<- hi];rfl) (fun x hx=>?_) (fun x hx hxl=>?_) (by omega)
   ·rw[hf]
    by_cases e:x=i
    ·subst e
     rw[beq_true rfl,cond_true,hFj]
     rw[hi];simp[List.getD]
    ·rw[beq_false e,cond_false,h1 x (by omega)]
     unfold List.getD
     rw[List.getElem?_append_left (by omega)]
   ·rw[beq_false (by omega:x ≠ i),cond_false];exact h2 x (by omega) hxl
  | false=>
   simp only[cond_false]
   have hf:(l.take (j+1)).filter (fun e=>vlt v e.ver)=(l.take j).filter (fun e=>vlt v e.ver):=by
    rw[htk,List.filter_append]
    rw[hFj]at hv
    rw[List.filter_cons,if_neg (by rw[hv];simp),List.filter_nil,List.append_nil]
   exact dlG_ok d (j+1) i F (by omega) (by rw[hf];exact hi) (by rw[hf];exact h1) (fun x hx hxl=>h2 x (by omega) hxl) (by omega)
theorem kD_ok(p:LV):kD p=(p.1.filter fun e=>vlt p.2 e.ver).length /\ ∀ x,x<kD p->gD p x=(p.1.filter fun e=>vlt p.2 e.ver).getD x default:=by
 unfold kD gD
 rcases delFrom_cases p.2 p.1 0 with ⟨e1,e2⟩ | ⟨k,e1,e2,e3⟩
 ·rw[if_pos e1,if_pos e1,e2]
  exact⟨rfl,fun x _=>rfl⟩
 ·rw[Nat.zero_add]at e2
  have hne:¬ (delFrom p.2 p.1 0 = -1):=by rw[e2];omega
  rw[if_neg hne,if_neg hne]
  unfold rD
  rw[e2,Int.toNat_natCast]
  obtain⟨h1,h2⟩:=dlG_ok (v:=p.2) (l:=p.1) (p.1.length - (k+1)) (k+1) k (fun x=>p.1.getD x default) (by omega) (by rw[e3,List.length_take];omega) (fun x hx=>by
   rw[e3]
   unfold List.getD
   rw[List.getElem?_take,if_pos hx]) (fun x _ _=>rfl) (by omega)
  refine⟨h1,fun x hx=>?_⟩
  unfold outG
  rw[blt_true hx,cond_true]
  exact h2 x hx
theorem cloneEB(n:Nat)(f:Nat->List AV):callH env0 2 F_slices_Clone_api_Entry [AV.tr 11 (n+1) f] [] =
 bif((0+(n+1))*112).ble 140737488355328&&(0+(n+1)).ble 140737488355328 then
  some ((AV.sl 11 0 0 (n+1) 0,[BS.seq true 11 (n+1) f]))
 else none:=by kernel_rfl
def pNe(l:List Entry):Prop:=l.length<=10000/\l ≠ []
theorem cloneEB_con(l:List Entry)(h:pNe l):Contract PG F_slices_Clone_api_Entry [encEntrys l] [] (outBlk 11 encEntry default l).1 (outBlk 11 encEntry default l).2:=by
 obtain⟨h1,h2⟩:=h
 cases l with
 | nil=>exact absurd rfl h2
 | cons a r=>
  have k:=cloneEB r.length fun i=>encEntry ((a::r).getD i default)
  simp only[List.length_cons]at h1
  simp only[roomV (n:=0+(r.length+1)) (b:=112) (by omega) (by omega),ble_self,Bool.and_true,cond_true]at k
  exact(callH_ok (envM_ok (md:=fun _=>none) (l:=[]) fun k hk=>by cases hk) envM_code mixed k).1
def kCloneEB:Known:=.specB F_slices_Clone_api_Entry (dL decEntry) pNe eEnts (fun l=>outBlk 11 encEntry default l)
theorem kCloneEB_ok:kCloneEB.Ok PG:=Known.specB_ok cloneEB_con
def env28:Env:=envL [] mdL [kLater,kCloneEB,kDel]
theorem con28{n f:Nat}{xs:List AV}{r:AV}(e:callT env28 n f xs=some r):Contract PG f xs [] r []:=conL (ak kLater_ok (ak kCloneEB_ok (ak kDel_ok ank))) e
def env28n:Env:=envO [kLater]
theorem con28n{n f:Nat}{xs:List AV}{r:AV}(e:callT env28n n f xs=some r):Contract PG f xs [] r []:=con_of (md:=fun _=>none) (ak kLater_ok ank) e
theorem lift_n(f:Ver)(l:Ver)(v:Ver):callT env28n 9 F_tail_Lift [AV.agg [eV f,eV l,AV.nils],eV v] =
 gC (dV2) (V2) (eV2) ([AV.cplx FloatKind.f64 f.re f.im,AV.cplx FloatKind.f64 v.re v.im]) fun y0=>
 gC (dV2) (V2) (eV2) ([AV.cplx FloatKind.f64 l.re l.im,AV.cplx FloatKind.f64 v.re v.im]) fun y1=>
 some (AV.agg [AV.cplx FloatKind.f64 (vmax y0.fst y0.snd).re (vmax y0.fst y0.snd).im,AV.cplx FloatKind.f64 (vmax y1.fst y1.snd).re (vmax y1.fst y1.snd).im,AV.nils]):=by kernel_rfl
theorem lift_e(f:Ver)(l:Ver)(v:Ver):callT env28n 9 F_tail_Lift [AV.agg [eV f,eV l,AV.trl 11 []],eV v] =
 gC (dV2) (V2) (eV2) ([AV.cplx FloatKind.f64 f.re f.im,AV.cplx FloatKind.f64 v.re v.im]) fun y2=>
 gC (dV2) (V2) (eV2) ([AV.cplx FloatKind.f64 l.re l.im,AV.cplx FloatKind.f64 v.re v.im]) fun y3=>
 some (AV.agg [AV.cplx FloatKind.f64 (vmax y2.fst y2.snd).re (vmax y2.fst y2.snd).im,AV.cplx FloatKind.f64 (vmax y3.fst y3.snd).re (vmax y3.fst y3.snd).im,AV.trl 11 []]):=by kernel_rfl
theorem lift_c(f:Ver)(l:Ver)(v:Ver)(lg:List Entry):callT env28 9 F_tail_Lift [AV.agg [eV f,eV l,encEntrys lg],eV v] =
 gC (dL decEntry) (pNe) (eEnts) ([encEntrys lg]) fun y4=>
 gCH (decLV) (pLV) (eLV) ([AV.sl 11 0 0 y4.length 0,AV.fn (Fn.func F_tail_Lift_c1) [] [AV.ptr 1 0 0]]) ([BS.seq true 11 y4.length fun i=>encEntry (y4.getD i default),BS.arr true 1 [[AV.cplx FloatKind.f64 v.re v.im]]]) fun y5=>
 gC (dV2) (V2) (eV2) ([AV.cplx FloatKind.f64 f.re f.im,AV.cplx FloatKind.f64 y5.snd.re y5.snd.im]) fun y6=>
 gC (dV2) (V2) (eV2) ([AV.cplx FloatKind.f64 l.re l.im,AV.cplx FloatKind.f64 y5.snd.re y5.snd.im]) fun y7=>
 bif((kD y5).beq 0||(kD y5).ble y5.fst.length)&&true then
  some (AV.agg [AV.cplx FloatKind.f64 (vmax y6.fst y6.snd).re (vmax y6.fst y6.snd).im,AV.cplx FloatKind.f64 (vmax y7.fst y7.snd).re (vmax y7.fst y7.snd).im,AV.tr 11 (kD y5) fun i=>encEntry (gD y5 i)])
 else none:=by kernel_rfl
theorem lift_con(p:TV)(h:pTV p):Contract PG F_tail_Lift (eTV p) [] (oTV p) []:=by
 obtain⟨⟨f,l,lg⟩,v⟩:=p
 have h:LiftOk ⟨f,l,lg⟩ v:=h
 have hf:=h.fl
 have hla:=h.la
 have hv:=h.v
 simp only at hf hla
 cases lg with
 | nil=>
  refine Contract.split (OrC.of [] [eV v] (.agg (OrC.of [eV f,eV l] [] .nil))) ?_ ?_
  ·have k:=lift_n f l v
   rw[qV2 hf hv,qV2 hla hv]at k
   exact(con28n k).res (tail_sub nilsL)
  ·have k:=lift_e f l v
   rw[qV2 hf hv,qV2 hla hv]at k
   exact(con28n k).res (tail_sub emp_sub)
 | cons a r=>
  have k:=lift_c f l v (a::r)
  have hp:pLV (a::r,v):=⟨h.len,hv,h.log⟩
  have e0:gC (R:=AV) (dL decEntry) pNe eEnts [encEntrys (a::r)]=fun k=>k (a::r):=by funext k;exact gC_eq _ (decEntrys _) ⟨h.len,by simp⟩ (.refl _)
  rw[e0]at k
  have k:callT env28 9 F_tail_Lift [.agg [eV f,eV l,encEntrys (a::r)],eV v]=gCH decLV pLV eLV (eLV (a::r,v)).1 (eLV (a::r,v)).2 fun y5=>gC dV2 V2 eV2 [.cplx .f64 f.re f.im,.cplx .f64 y5.2.re y5.2.im] fun y6=>gC dV2 V2 eV2 [.cplx .f64 l.re l.im,.cplx .f64 y5.2.re y5.2.im] fun y7=>
   bif((kD y5).beq 0||(kD y5).ble y5.1.length)&&true then some (.agg [eV (vmax y6.1 y6.2),eV (vmax y7.1 y7.2),.tr 11 (kD y5) fun i=>encEntry (gD y5 i)])else none:=k
  rw[qLV hp,qV2 hf hv,qV2 hla hv]at k
  obtain⟨g1,g2⟩:=kD_ok (a::r,v)
  have hle:(kD (a::r,v)).ble (a::r).length=true:=ble_true (by rw[g1];exact List.length_filter_le _ _)
  simp only[hle,Bool.or_true,Bool.and_true,cond_true]at k
  refine(con28 k).res (tail_sub ?_)
  show SubV _ (encEntrys ((a::r).filter fun e=>vlt v e.ver))
  unfold encEntrys encL
  rw[<- g1]
  exact SubV.trs fun i hi=>by rw[g2 i hi];exact .refl _
def kLift:Known:=.spec F_tail_Lift dTV pTV eTV oTV
theorem kLift_ok:kLift.Ok PG:=Known.spec_ok lift_con
def kns28c:List Known:=[kOwn,kLift,kHead,kPush]
theorem kns28c_ok:∀ k ∈ kns28c,k.Ok PG:=ak kOwn_ok (ak kLift_ok (ak kHead_ok (ak kPush_ok ank)))
def env28c:Env:=envO kns28c
theorem con28c{n f:Nat}{xs:List AV}{r:AV}(e:callT env28c n f xs=some r):Contract PG f xs [] r []:=con_of (md:=fun _=>none) kns28c_ok e
theorem clift_eq(r:Rep)(v:Ver):callT env28c 9 F_chain_Lift [AV.agg (encRep r),eV v] =
 gC (dRep1) (RepShort) (eRep1) ([AV.agg (encRep r)]) fun y8=>
 gC (dTV) (pTV) (eTV) ([AV.agg (encTail y8.tail),AV.cplx FloatKind.f64 v.re v.im]) fun y9=>
 some (AV.agg [AV.int IntKind.i64 y8.shard,AV.int IntKind.i64 y8.self.node,AV.int IntKind.i64 y8.self.boot,AV.int IntKind.i64 y8.view.shard,AV.int IntKind.i64 y8.view.epoch,AV.int IntKind.i64 y8.view.gen,AV.int IntKind.i64 y8.view.phase,encMembers y8.view.chain,AV.int IntKind.i64 y8.frozen,AV.cplx FloatKind.f64 (vmax y9.fst.floor y9.snd).re (vmax y9.fst.floor y9.snd).im,AV.cplx FloatKind.f64 (vmax y9.fst.last y9.snd).re (vmax y9.fst.last y9.snd).im,encEntrys (List.filter (fun e=>vlt y9.snd e.ver) y9.fst.log),encSeens y8.seen,AV.cplx FloatKind.f64 y8.got.re y8.got.im,encBools y8.synced]):=by kernel_rfl
theorem cpush2_eq(r:Rep)(e:Entry):callT env28c 9 F_chain_Push [AV.agg (encRep r),AV.agg (encEntry e)] =
 gC (dRep1) (RepShort) (eRep1) ([AV.agg (encRep r)]) fun y10=>
 gC (dRep1) (pRep1) (eRep1) ([AV.agg (encRep y10)]) fun y11=>
 bif !headP y11 then
  some (AV.tup [AV.agg (encRep y10),AV.bool false])
 else
  gC (dRE) (pRE) (eRE) ([AV.agg (encRep y10),AV.agg (encEntry e)]) fun y12=>
  some (AV.tup [AV.agg (encRep (pushP y12.fst y12.snd).fst),AV.bool (pushP y12.fst y12.snd).snd]):=by kernel_rfl
def dRV(a:List AV):Rep × Ver:=(decRep (argC a 0),⟨(getC a 1).1,(getC a 1).2⟩)
def pRV(p:Rep × Ver):Prop:=RepShort p.1/\LiftOk p.1.tail p.2
def eRV(p:Rep × Ver):List AV:=[.agg (encRep p.1),eV p.2]
theorem qRV{R:Type}{r:Rep}{v:Ver}{k:Rep × Ver->Option R}(h:RepShort r)(h':LiftOk r.tail v):gC dRV pRV eRV [.agg (encRep r),eV v] k=k (r,v):=gC_eq (r,v) (Prod.ext (dec_encRep r) rfl) ⟨h,h'⟩ (.refl _)
theorem clift_con(p:Rep × Ver)(h:pRV p):Contract PG F_chain_Lift (eRV p) [] (.agg (encRep (liftR p.1 p.2))) []:=by
 obtain⟨r,v⟩:=p
 have k:=clift_eq r v
 rw[qRep1 (P:=RepShort) h.1]at k
 have k:callT env28c 9 F_chain_Lift [.agg (encRep r),eV v]=gC dTV pTV eTV [.agg (encTail r.tail),eV v] fun y=>some (.agg (encRep {r with tail:=liftP y.1 y.2})):=k
 rw[qTV h.2]at k
 exact con28c k
def kCLift:Known:=.spec F_chain_Lift dRV pRV eRV (fun p=>.agg (encRep (liftR p.1 p.2)))
theorem kCLift_ok:kCLift.Ok PG:=Known.spec_ok clift_con
def headPush(p:RE):Rep × Bool:=bif headP p.1 then pushP p.1 p.2 else(p.1,false)
def oRE2(p:RE):AV:=.tup [.agg (encRep (headPush p).1),.bool (headPush p).2]
def pRE2(p:RE):Prop:=RepShort p.1/\PushOk p.1 p.2
theorem cpush2_con(p:RE)(h:pRE2 p):Contract PG F_chain_Push (eRE p) [] (oRE2 p) []:=by
 obtain⟨r,e⟩:=p
 have k:=cpush2_eq r e
 rw[qRep1 (P:=RepShort) h.1,qRep1 (P:=pRep1) trivial]at k
 unfold oRE2 headPush
 simp only
 cases hh:headP r with
 | false=>rw[hh]at k;exact con28c k
 | true=>
  rw[hh]at k
  simp only[Bool.not_true,cond_false]at k
  rw[qRE (P:=pRE) h.2]at k
  exact con28c k
def kPush2:Known:=.spec F_chain_Push dRE pRE2 eRE oRE2
theorem kPush2_ok:kPush2.Ok PG:=Known.spec_ok cpush2_con
def kns29:List Known:=[kNum,kPush]
theorem kns29_ok:∀ k ∈ kns29,k.Ok PG:=ak kNum_ok (ak kPush_ok ank)
def env29:Env:=envL [] (fun f=>bif Nat.beq f F_chain_push then some 0 else none) kns29
theorem con29{n f:Nat}{xs:List AV}{r:AV}(e:callT env29 n f xs=some r):Contract PG f xs [] r []:=conL kns29_ok e
def z15:List AV:=[.int .i64 0,.int .i64 0,.int .i64 0,.int .i64 0,.int .i64 0,.int .i64 0,.int .i64 0,.nils,.int .i64 0,.cplx .f64 0 0,.cplx .f64 0 0,.nils,.nils,.cplx .f64 0 0,.nils]
def STk(l:List Entry)(r:Rep)(i:Int):St:={fr:=[(1,encEntrys l),(2,.ptr 0 0 0),(4,.ptr 1 0 0),(5,.int .i64 i)],hp:=[.arr true 15 [encRep r],.arr true 15 [z15]]}
def takK(l:List Entry)(r:Rep)(i:Int)(K:Rep->Int->Option AV):Option AV:=
 bif decide (i=(l.length:Int))then some (.agg (encRep r))else rg i l.length <|
  gC dV1 VNum eV1 [eV (l.getD i.toNat default).ver] fun y0=>gC dV1 VNum eV1 [eV r.tail.last] fun y1=>
  bif decide ((nu y0:Int)=IntKind.i64.wrap ((nu y1:Int)+1))then rg i l.length <| gC dRE pRE eRE [.agg (encRep r),.agg (encEntry (l.getD i.toNat default))] fun y2=>K (pushP y2.1 y2.2).1 (IntKind.i64.wrap (i+1))
  else K r (IntKind.i64.wrap (i+1))
theorem take_in'(N:Nat)(r:Rep)(l:List Entry):callT env29 (N+1) F_chain_takeUp [.agg (encRep r),encEntrys l]=takK l r 0 fun r i=>JP env29 N 0 F_chain_takeUp snK 0 N (STk l r i):=by kernel_rfl
theorem take_step(N m:Nat)(r:Rep)(l:List Entry)(i:Int):JP env29 N 0 F_chain_takeUp snK 0 (m+1) (STk l r i)=takK l r i fun r i=>JP env29 N 0 F_chain_takeUp snK 0 m (STk l r i):=by kernel_rfl
structure TakeOk(r:Rep)(l:List Entry):Prop where
 log:r.tail.log.length+l.length<=10000
 last:VNum r.tail.last
 seen:r.seen.length<=1 /\ ∀ a ∈ r.seen,a.sess=1
 ent:∀ e ∈ l,VNum e.ver/\e.sess=1
theorem TakeOk.push{r:Rep}{e:Entry}{l:List Entry}(h:TakeOk r (e::l)):PushOk r e:=⟨by have:=h.log;simp only[List.length_cons]at this;omega,h.last,(h.ent e (by simp)).1,h.seen,(h.ent e (by simp)).2⟩
theorem putP_one{l:List Seen}{s:Seen}(h:l.length<=1 /\ ∀ a ∈ l,a.sess=1)(hs:s.sess=1):(putP l s).length<=1 /\ ∀ a ∈ putP l s,a.sess=1:=by
 cases l with
 | nil=>exact⟨by simp[putP],fun a ha=>by simp[putP]at ha;rw[ha];exact hs⟩
 | cons b l=>
  have:l=[]:=by cases l with
   | nil=>rfl
   | cons c d=>simp at h
  subst this
  show(bif decide (b.num<s.num)then [s]else [b]).length<=1 /\ ∀ a ∈ (bif decide (b.num<s.num)then [s]else [b]),a.sess=1
  cases decide (b.num<s.num)with
  | true=>exact⟨by simp,fun a ha=>by simp at ha;rw[ha];exact hs⟩
  | false=>exact h
theorem TakeOk.next{r:Rep}{e:Entry}{l:List Entry}(h:TakeOk r (e::l)):TakeOk r l/\TakeOk (pushP r e).1 l:=by
 have h1:=h.log
 simp only[List.length_cons]at h1
 refine⟨⟨by omega,h.last,h.seen,fun x hx=>h.ent x (by simp[hx])⟩,?_⟩
 unfold pushP
 cases vlt r.tail.last e.ver with
 | false=>exact⟨by simp only[cond_false];omega,h.last,h.seen,fun x hx=>h.ent x (by simp[hx])⟩
 | true=>exact⟨by simp only[cond_true,pushR,List.length_append,List.length_cons,List.length_nil];omega,(h.ent e (by simp)).1,putP_one h.seen (h.ent e (by simp)).2,fun x hx=>h.ent x (by simp[hx])⟩
theorem takK_step{l:List Entry}{K:Rep->Int->Option AV}{r:Rep}{i:Nat}(h:TakeOk r (l.drop i))(hl:l.length<=10000)(hi:i<=l.length)(hK:∀ r',i<l.length->TakeOk r' (l.drop (i+1))->K r' ((i+1:Nat):Int)=some (.agg (encRep (takeP r' (l.drop (i+1)))))) :
  takK l r (i:Int) K=some (.agg (encRep (takeP r (l.drop i)))):=by
 unfold takK
 by_cases e:i=l.length
 ·rw[decide_eq_true (by rw[e]),cond_true,List.drop_eq_nil_of_le (by omega)];rfl
 ·have hil:i<l.length:=by omega
  rw[decide_eq_false (by omega),cond_false,rg_eq hil,Int.toNat_natCast]
  rw[drop_cons (z:=default) hil]at h ⊢
  obtain⟨n1,n2⟩:=h.next
  have hpush:PushOk r (l.getD i default):=h.push
  have hver:VNum (l.getD i default).ver:=(h.ent _ (List.mem_cons_self)).1
  rw[show(fun y0=>gC dV1 VNum eV1 [eV r.tail.last] fun y1=>bif decide ((nu y0:Int)=IntKind.i64.wrap ((nu y1:Int)+1))then rg (i:Int) l.length <| gC dRE pRE eRE [.agg (encRep r),.agg (encEntry (l.getD i default))] fun y2=>K (pushP y2.1 y2.2).1 (IntKind.i64.wrap ((i:Int)+1))else K r (IntKind.i64.wrap ((i:Int)+1))) =
   fun y0=>bif decide ((nu y0:Int)=IntKind.i64.wrap ((nu r.tail.last:Int)+1))then K (pushP r (l.getD i default)).1 (IntKind.i64.wrap ((i:Int)+1))else K r (IntKind.i64.wrap ((i:Int)+1)) from by
    funext y0
    have q1:=qV1 (R:=AV) h.last (k:=fun y1=>bif decide ((nu y0:Int)=IntKind.i64.wrap ((nu y1:Int)+1))then rg (i:Int) l.length <| gC dRE pRE eRE [.agg (encRep r),.agg (encEntry (l.getD i default))] fun y2=>K (pushP y2.1 y2.2).1 (IntKind.i64.wrap ((i:Int)+1))else K r (IntKind.i64.wrap ((i:Int)+1)))
    refine q1.trans ?_
    rw[rg_eq hil,qRE (r:=r) (e:=l.getD i default) (P:=pRE) hpush]]
  have q0:=qV1 (R:=AV) hver (k:=fun y0=>bif decide ((nu y0:Int)=IntKind.i64.wrap ((nu r.tail.last:Int)+1))then K (pushP r (l.getD i default)).1 (IntKind.i64.wrap ((i:Int)+1))else K r (IntKind.i64.wrap ((i:Int)+1)))
  refine q0.trans ?_
  have hnl:=h.last.lt.2
  have hw:IntKind.i64.wrap ((nu r.tail.last:Int)+1)=((nu r.tail.last+1:Nat):Int):=wrap64 (by omega)
  rw[hw,wrapS (by omega),dec_int]
  unfold takeP
  cases decide (nu (l.getD i default).ver=nu r.tail.last+1)with
  | true=>exact hK _ hil n2
  | false=>exact hK _ hil n1
theorem take_con(p:Rep × List Entry)(h:TakeOk p.1 p.2):Contract PG F_chain_takeUp [.agg (encRep p.1),encEntrys p.2] [] (.agg (encRep (takeP p.1 p.2))) []:=by
 obtain⟨r,l⟩:=p
 have h:TakeOk r l:=h
 have hl:l.length<=10000:=by have:=h.log;omega
 have run:∀ d i m r,i+d=l.length->d<m->TakeOk r (l.drop i)->JP env29 (l.length+1) 0 F_chain_takeUp snK 0 m (STk l r (i:Nat))=some (.agg (encRep (takeP r (l.drop i)))):=by
  intro d
  induction d with
  | zero=>
   intro i m r hi hm h
   obtain⟨m,rfl⟩:∃ k,m=k+1:=⟨m - 1,by omega⟩
   rw[take_step]
   exact takK_step h hl (by omega) fun r' hlt _=>by omega
  | succ d ih=>
   intro i m r hi hm h
   obtain⟨m,rfl⟩:∃ k,m=k+1:=⟨m - 1,by omega⟩
   rw[take_step]
   exact takK_step h hl (by omega) fun r' _ h'=>ih (i+1) m r' (by omega) (by omega) h'
 refine con29 ((take_in' (l.length+1) r l).trans ?_)
 have:=takK_step (l:=l) (K:=fun r i=>JP env29 (l.length+1) 0 F_chain_takeUp snK 0 (l.length+1) (STk l r i)) (r:=r) (i:=0) (by rw[List.drop_zero];exact h) hl (by omega) fun r' hlt h'=>run (l.length - 1) 1 (l.length+1) r' (by omega) (by omega) h'
 rw[List.drop_zero]at this
 exact this
def dRL(a:List AV):Rep × List Entry:=(decRep (argC a 0),decL decEntry (a.getD 1 .nils))
def pRL(p:Rep × List Entry):Prop:=TakeOk p.1 p.2
def eRL(p:Rep × List Entry):List AV:=[.agg (encRep p.1),encEntrys p.2]
def kTake:Known:=.spec F_chain_takeUp dRL pRL eRL (fun p=>.agg (encRep (takeP p.1 p.2)))
theorem kTake_ok:kTake.Ok PG:=Known.spec_ok take_con
def inKd(m:Msg)(k:Int):Msg:=⟨k,m.src,m.dst,m.boot,m.sboot,m.shard,m.epoch,m.gen,m.sess,m.num,m.a,m.code,m.has,m.fresh,m.key,m.val,m.ver,m.floor,m.op,m.entries,m.chain,m.views,m.image⟩
def kns30:List Known:=[kOwn,kAgain,kAcked,kTake,kLift,kAhead,kLater,kIndex,kAheadV,kBehind,kTo,kMake,kCloneMember,kCloneEntry,kCloneSeen]
theorem kns30_ok:∀ k ∈ kns30,k.Ok PG:=ak kOwn_ok (ak kAgain_ok (ak kAcked_ok (ak kTake_ok (ak kLift_ok (ak kAhead_ok (ak kLater_ok (ak kIndex_ok (ak kAheadV_ok (ak kBehind_ok (ak kTo_ok (ak kMake_ok (ak kCloneMember_ok (ak kCloneEntry_ok (ak kCloneSeen_ok ank))))))))))))))
def env30:Env:=envO kns30
theorem con30{n f:Nat}{xs:List AV}{r:AV}(e:callT env30 n f xs=some r):Contract PG f xs [] r []:=con_of (md:=fun _=>none) kns30_ok e
theorem h8(r:Rep)(m:Msg):callT env30 9 F_chain_Handle [AV.agg (encRep r),AV.agg (encMsg (inKd m 8))] =
 gC (dRep1) (RepShort) (eRep1) ([AV.agg (encRep r)]) fun y0=>
 bif !decide ((inKd m 8).dst=y0.self.node)then
  some (AV.tup [AV.agg (encRep y0),AV.nils])
 else
  bif !decide ((inKd m 8).boot=y0.self.boot)then
   some (AV.tup [AV.agg (encRep y0),AV.nils])
  else
   bif !decide ((inKd m 8).shard=y0.shard)then
    some (AV.tup [AV.agg (encRep y0),AV.nils])
   else
    bif decide ((inKd m 8).epoch<=y0.view.epoch)then
     some (AV.tup [AV.agg (encRep y0),AV.nils])
    else
     bif decide ((inKd m 8).epoch<y0.frozen)then
      some (AV.tup [AV.agg (encRep y0),AV.nils])
     else
      some (AV.tup [AV.agg [AV.int IntKind.i64 y0.shard,AV.int IntKind.i64 y0.self.node,AV.int IntKind.i64 y0.self.boot,AV.int IntKind.i64 y0.view.shard,AV.int IntKind.i64 y0.view.epoch,AV.int IntKind.i64 y0.view.gen,AV.int IntKind.i64 y0.view.phase,encMembers y0.view.chain,AV.int IntKind.i64 m.epoch,AV.cplx FloatKind.f64 y0.tail.floor.re y0.tail.floor.im,AV.cplx FloatKind.f64 y0.tail.last.re y0.tail.last.im,encEntrys y0.tail.log,encSeens y0.seen,AV.cplx FloatKind.f64 y0.got.re y0.got.im,encBools y0.synced],AV.trl 31 [[AV.int IntKind.i64 9,AV.int IntKind.i64 y0.self.node,AV.int IntKind.i64 m.src,AV.int IntKind.i64 0,AV.int IntKind.i64 y0.self.boot,AV.int IntKind.i64 y0.shard,AV.int IntKind.i64 m.epoch,AV.int IntKind.i64 0,AV.int IntKind.i64 0,AV.int IntKind.i64 0,AV.int IntKind.i64 y0.view.epoch,AV.int IntKind.i64 0,AV.bool !decide (y0.view.phase=0),AV.bool false,AV.str [],AV.str [],AV.cplx FloatKind.f64 y0.tail.last.re y0.tail.last.im,AV.cplx FloatKind.f64 0 0,AV.int IntKind.i64 0,AV.str [],AV.str [],AV.str [],AV.bool false,AV.nils,AV.nils,AV.nils,AV.cplx FloatKind.f64 0 0,AV.cplx FloatKind.f64 0 0,AV.int IntKind.i64 0,AV.nils,AV.nils]]]):=by kernel_rfl
def oHd(o:Rep × List Msg):AV:=.tup [.agg (encRep o.1),encMsgs o.2]
def nilA(r:Rep):Option AV:=some (.tup [.agg (encRep r),.nils])
theorem gate{R:Type}{a b c:Bool}{X K:Option R}:(bif !a then X else bif !b then X else bif !c then X else K)=bif a&&(b&&c)then K else X:=by cases a <;> cases b <;> cases c <;> rfl
theorem gate2{R:Type}{a b:Bool}{X K:Option R}:(bif a then X else bif b then X else K)=bif !a && !b then K else X:=by cases a <;> cases b <;> rfl
theorem out_nil{r:Rep}:SubV (.tup [.agg (encRep r),.nils]) (oHd (r,[])):=.tup (.cons (.refl _) (.cons nilsL .nil))
theorem inKd_eq{m:Msg}{k:Int}(h:m.kind=k):inKd m k=m:=by cases m;simp only at h;subst h;rfl
def repN(r:Rep)(m:Msg)(l:List Member)(ph:Int)(fl la:Ver)(lg se:AV)(go:Ver)(sy:AV):List AV:=
 [.int .i64 r.shard,.int .i64 r.self.node,.int .i64 r.self.boot,.int .i64 m.shard,.int .i64 m.epoch,.int .i64 m.gen,.int .i64 ph,encMembers l,.int .i64 r.frozen,eV fl,eV la,lg,se,eV go,sy]
def gt{R:Type}(y:Rep)(m:Msg)(X K:Option R):Option R:=bif !decide (m.dst=y.self.node)then X else bif !decide (m.boot=y.self.boot)then X else bif !decide (m.shard=y.shard)then X else K
theorem gt_eq{R:Type}{y:Rep}{m:Msg}{X K:Option R}:gt y m X K=bif toMe y m then K else X:=gate
def inAc(m:Msg)(l:List Member):Msg:=⟨10,m.src,m.dst,m.boot,m.sboot,m.shard,m.epoch,m.gen,m.sess,m.num,m.a,m.code,m.has,m.fresh,m.key,m.val,m.ver,m.floor,m.op,m.entries,l,m.views,m.image⟩
theorem inAc_eq{m:Msg}(h:m.kind=10):inAc m m.chain=m:=by cases m;simp only at h;subst h;rfl
def agK(cs:List AV):Option AV:=gC dRep1 RepAg eRep1 [.agg cs] fun y=>some (.tup [.agg cs,encMsgs (againP y)])
def actK(y:Rep)(m:Msg)(l:List Member)(ph:Int)(sy:AV):Option AV:=gC (dL decMember) shortL eMems [encMembers l] fun a=>
 bif m.fresh then gC dI2 pI2 eI2 [.int .i64 m.epoch,.int .i64 0] fun b=>agK (repN y m a ph (vr b.1 b.2) (vr b.1 b.2) .nils .nils (vr b.1 b.2) sy)
 else agK (repN y m a ph y.tail.floor y.tail.last (encEntrys y.tail.log) (encSeens y.seen) y.tail.last sy)
def whenK(y:Rep)(m:Msg)(K:Option AV):Option AV:=
 bif m.fresh then bif !decide (y.view.phase=0)then bif !decide (y.frozen<=m.epoch)then bif !decide (m.epoch=y.frozen)then nilA y else K else K else bif !decide (y.frozen<=m.epoch)then nilA y else K
 else bif !decide (y.view.phase=0)then bif !decide (m.epoch=y.frozen)then nilA y else K else nilA y
def H10(m:Msg)(K:Rep->Option AV):Rep->Option AV:=fun y=>gt y m (nilA y) <| bif decide (m.epoch<0)then nilA y else bif decide (1099511627776<m.epoch)then nilA y else bif decide (m.epoch<=y.view.epoch)then nilA y else K y
theorem h10_1(r:Rep)(m:Msg)(a:Member):callT env30 9 F_chain_Handle [.agg (encRep r),.agg (encMsg (inAc m [a]))] =
  gC dRep1 RepShort eRep1 [.agg (encRep r)] (H10 m fun y=>bif !(chF [a] y.self)then nilA y else whenK y m (actK y m [a] 3 (.trl 1 [[.bool true]]))):=by kernel_rfl
theorem H10_eq{m:Msg}{K:Rep->Option AV}{r:Rep}(h0:0<=m.epoch)(h1:m.epoch<=1099511627776):H10 m K r=bif toMe r m then bif decide (m.epoch<=r.view.epoch)then nilA r else K r else nilA r:=by
 unfold H10
 rw[gt_eq,decide_eq_false (by omega:¬ m.epoch<0),decide_eq_false (by omega:¬ 1099511627776<m.epoch)]
 rfl
theorem whenK_eq{r:Rep}{m:Msg}{K:Option AV}:whenK r m K=bif(m.fresh&&decide (r.frozen<=m.epoch))||(!decide (r.view.phase=0)&&decide (m.epoch=r.frozen))then K else nilA r:=by
 unfold whenK
 cases m.fresh <;> cases decide (r.view.phase=0) <;> cases decide (r.frozen<=m.epoch) <;> cases decide (m.epoch=r.frozen) <;> rfl
theorem qI2{R:Type}{a b:Int}{k:Nat × Nat->Option R}(ha:0<=a)(hb:0<=b):gC dI2 pI2 eI2 [.int .i64 a,.int .i64 b] k=k (a.toNat,b.toNat):=by
 refine gC_eq (a.toNat,b.toNat) rfl trivial ?_
 show SubC _ [.int .i64 (a.toNat:Int),.int .i64 (b.toNat:Int)]
 rw[Int.toNat_of_nonneg ha,Int.toNat_of_nonneg hb]
 exact .refl _
theorem agK_eq{cs:List AV}{R':Rep}(hd:decRep cs=R')(hs:SubC cs (encRep R'))(h:RepAg R'):agK cs=some (.tup [.agg cs,encMsgs (againP R')]):=by
 unfold agK
 exact gC_eq (dec:=dRep1) (pre:=RepAg) (enc:=eRep1) R' hd h (.cons (.agg hs) .nil)
theorem actK_eq{r:Rep}{m:Msg}{l:List Member}{sy:AV}{bs:List Bool}(hl:shortL l)(hml:m.chain=l)(h0:0<=m.epoch)(hsy:decL decBool sy=bs)(hsb:SubV sy (encBools bs))(hbs:bs=true::List.replicate (m.chain.length - 1) false)(hR:RepAg (actR r m)) :
  ∃ v,actK r m l (bif decide (m.chain.length=1)then 3 else 2) sy=some v/\SubV v (oHd (actR r m,againP (actR r m))):=by
 unfold actK
 rw[qMems hl]
 have dR:∀ (fl la go:Ver) (lg se:AV),decRep (repN r m l (bif decide (m.chain.length=1)then 3 else 2) fl la lg se go sy)=⟨r.shard,⟨r.self.node,r.self.boot⟩,⟨m.shard,m.epoch,m.gen,bif decide (m.chain.length=1)then 3 else 2,l⟩,r.frozen,⟨fl,la,decL decEntry lg⟩,decL decSeen se,go,bs⟩:=by
  intro fl la go lg se
  show(⟨r.shard,⟨r.self.node,r.self.boot⟩,⟨m.shard,m.epoch,m.gen,bif decide (m.chain.length=1)then 3 else 2,decL decMember (encMembers l)⟩,r.frozen,⟨fl,la,decL decEntry lg⟩,decL decSeen se,go,decL decBool sy⟩:Rep)=_
  rw[decMembers,hsy]
 cases hf:m.fresh with
 | true=>
  rw[cond_true,qI2 h0 (by decide)]
  have e:actR r m=⟨r.shard,⟨r.self.node,r.self.boot⟩,⟨m.shard,m.epoch,m.gen,bif decide (m.chain.length=1)then 3 else 2,l⟩,r.frozen,tail0 m.epoch,[],vr m.epoch.toNat 0,bs⟩:=by
   unfold actR actT
   rw[hf,hbs,hml];rfl
  have hd:=dR (vr m.epoch.toNat 0) (vr m.epoch.toNat 0) (vr m.epoch.toNat 0) .nils .nils
  rw[e]at hR ⊢
  have hs:SubC (repN r m l (bif decide (m.chain.length=1)then 3 else 2) (vr m.epoch.toNat 0) (vr m.epoch.toNat 0) .nils .nils (vr m.epoch.toNat 0) sy) (encRep ⟨r.shard,⟨r.self.node,r.self.boot⟩,⟨m.shard,m.epoch,m.gen,bif decide (m.chain.length=1)then 3 else 2,l⟩,r.frozen,tail0 m.epoch,[],vr m.epoch.toNat 0,bs⟩):=
   subC_all (by repeat' (first | exact trivial | exact nilsL | exact hsb | exact SubV.refl _ | refine⟨?_,?_⟩))
  exact⟨_,agK_eq hd hs hR,.tup (.cons (.agg hs) (.refl _))⟩
 | false=>
  rw[cond_false]
  have e:actR r m=⟨r.shard,⟨r.self.node,r.self.boot⟩,⟨m.shard,m.epoch,m.gen,bif decide (m.chain.length=1)then 3 else 2,l⟩,r.frozen,r.tail,r.seen,r.tail.last,bs⟩:=by
   unfold actR actT
   rw[hf,hbs,hml];rfl
  have hd:=dR r.tail.floor r.tail.last r.tail.last (encEntrys r.tail.log) (encSeens r.seen)
  rw[decEntrys,decSeens]at hd
  rw[e]at hR ⊢
  have hs:SubC (repN r m l (bif decide (m.chain.length=1)then 3 else 2) r.tail.floor r.tail.last (encEntrys r.tail.log) (encSeens r.seen) r.tail.last sy) (encRep ⟨r.shard,⟨r.self.node,r.self.boot⟩,⟨m.shard,m.epoch,m.gen,bif decide (m.chain.length=1)then 3 else 2,l⟩,r.frozen,r.tail,r.seen,r.tail.last,bs⟩):=
   subC_all (by repeat' (first | exact trivial | exact hsb | exact SubV.refl _ | refine⟨?_,?_⟩))
  exact⟨_,agK_eq hd hs hR,.tup (.cons (.agg hs) (.refl _))⟩
def dRMs(a:List AV):Rep × Msg:=(decRep (argC a 0),decMsg (argC a 1))
def eRMs(p:Rep × Msg):List AV:=[.agg (encRep p.1),.agg (encMsg p.2)]
def oRMs(p:Rep × Msg):AV:=oHd (handP p.1 p.2)
end Go.Wk
end
noncomputable section
set_option linter.unusedVariables false
set_option linter.unusedSimpArgs false
namespace Go.AM
def SubF(c c':AV):Prop:=∀ (w:World) (I:Nat->Prop) (φ:Phi) (u:Value),RV w I φ c u->RV w I φ c' u
def SubFs(cs cs':List AV):Prop:=cs.length=cs'.length /\ ∀ (k:Nat) c c',cs[k]? = some c->cs'[k]? = some c'->SubF c c'
theorem SubF.refl(c:AV):SubF c c:=fun _ _ _ _ h=>h
theorem SubFs.refl(cs:List AV):SubFs cs cs:=⟨rfl,fun k c c' e e'=>by rw[e]at e';cases e';exact .refl _⟩
theorem SubFs.nil:SubFs [] []:=.refl _
theorem SubFs.cons{c c':AV}{cs cs':List AV}(h:SubF c c')(h':SubFs cs cs'):SubFs (c::cs) (c'::cs'):=by
 refine⟨by simp[h'.1],fun k x x' e e'=>?_⟩
 cases k with
 | zero=>simp at e e';exact e ▸ e' ▸ h
 | succ k=>exact h'.2 k x x' (by simpa using e) (by simpa using e')
theorem SubFs.get{cs cs':List AV}(h:SubFs cs cs'){k:Nat}{c':AV}(e:cs'[k]? = some c'):∃ c,cs[k]? = some c/\SubF c c':=by
 have hl:k<cs.length:=by
  rw[h.1]
  rcases Nat.lt_or_ge k cs'.length with h1 | h1
  ·exact h1
  ·rw[List.getElem?_eq_none h1]at e;cases e
 exact⟨_,List.getElem?_eq_getElem hl,h.2 k _ _ (List.getElem?_eq_getElem hl) e⟩
theorem SubF.of{c c':AV}(h:SubV c c')(hc:refFree c=true):SubF c c':=fun w I φ u hv=>
 (h w I u (hv.free hc)).mono (fun _ hB=>⟨hB,rfl⟩) (fun _=>Nat.le_refl _) (Phi.no_le φ)
inductive BSub:BS->BS->Prop
 | refl (x:BS):BSub x x
 | arr (m:Bool) (sz:Nat) (es es':List (List AV)) (hl:es.length=es'.length) (h:∀ (i:Nat) cs cs',es[i]? = some cs->es'[i]? = some cs'->SubFs cs cs'):BSub (.arr m sz es) (.arr m sz es')
 | seq (m:Bool) (sz n k:Nat) (f g:Nat->List AV) (hk:k<=n) (h:∀ i,i<k->SubC (f i) (g i)):BSub (.seq m sz n f) (.seq m sz k g)
 | one (m:Bool) (sz:Nat) (cs:List AV) (g:Nat->List AV) (h:SubC cs (g 0)) (hf:cs.all refFree=true):BSub (.arr m sz [cs]) (.seq m sz 1 g)
 | zero (m:Bool) (sz:Nat) (g:Nat->List AV):BSub (.arr m sz []) (.seq m sz 0 g)
 | pmap (m:Bool) (ks:List (List UInt8)) (v v':List UInt8->AV) (h:∀ s ∈ ks,SubV (v s) (v' s)):BSub (.pmap m ks v) (.pmap m ks v')
theorem BSub.kind{x y:BS}(h:BSub x y):live y=live x/\mutable y=mutable x/\(y=.none->x=.none)/\(phantom x->phantom y):=by
 cases h with
 | refl=>exact⟨rfl,rfl,id,id⟩
 | arr=>exact⟨rfl,rfl,fun e=>by(cases e),id⟩
 | seq m sz n k f g hk h=>exact⟨rfl,rfl,fun e=>by(cases e),fun e=>by simp only[phantom]at e ⊢;omega⟩
 | one=>exact⟨rfl,rfl,fun e=>by(cases e),fun e=>e.elim⟩
 | zero=>exact⟨rfl,rfl,fun e=>by(cases e),fun e=>e.elim⟩
 | pmap=>exact⟨rfl,rfl,fun e=>by(cases e),fun e=>e.elim⟩
theorem BSub.rb{w:World}{I:Nat->Prop}{φ:Phi}{B o sz:Nat}{x y:BS}(h:BSub x y)(hr:RB w I φ B o sz x):RB w I φ B o sz y:=by
 cases h with
 | refl=>exact hr
 | arr m s es es' hl h=>
  obtain⟨h1,h2,h3,h4⟩:=hr
  have old:∀ (i:Nat) cs',es'[i]? = some cs' -> ∃ cs,es[i]? = some cs/\SubFs cs cs':=by
   intro i cs' e
   have hi:i<es.length:=by
    rw[hl]
    rcases Nat.lt_or_ge i es'.length with h | h
    ·exact h
    ·rw[List.getElem?_eq_none h]at e;cases e
   exact⟨_,List.getElem?_eq_getElem hi,h i _ _ (List.getElem?_eq_getElem hi) e⟩
  refine⟨h1,h2,fun i cs' e=>?_,fun i cs' k c' e e'=>?_⟩
  ·obtain⟨cs,e1,e2⟩:=old i cs' e
   rw[<- e2.1];exact h3 i cs e1
  ·obtain⟨cs,e1,e2⟩:=old i cs' e
   obtain⟨c,e3,e4⟩:=e2.get e'
   obtain⟨u,a1,a2,a3⟩:=h4 i cs k c e1 e3
   exact⟨u,a1,a2,e4 _ _ _ _ a3⟩
 | seq m s n k0 f g hk h=>
  obtain⟨h1,h2,h3,h4⟩:=hr
  refine⟨h1,h2,fun i hi=>?_,fun i k c' hi e=>?_⟩
  ·rw[<- (h i hi).1];exact h3 i (Nat.lt_of_lt_of_le hi hk)
  ·obtain⟨c,e1,e2⟩:=(h i hi).get e
   obtain⟨u,a1,a2,a3⟩:=h4 i k c (Nat.lt_of_lt_of_le hi hk) e1
   exact⟨u,a1,a2,e2 w I u a3⟩
 | pmap m ks v v' h=>
  obtain⟨h1,h2,mes,clock,h3,h4⟩:=hr
  exact⟨h1,h2,mes,clock,h3,h4.1,fun i s e a b=>let ⟨x,y⟩:=h4.2.1 i s e a b;⟨x,h s (List.mem_of_getElem? a) w I _ y⟩,h4.2.2⟩
 | zero m s g=>
  obtain⟨h1,h2,h3,h4⟩:=hr
  exact⟨h1,h2,fun i hi=>absurd hi (Nat.not_lt_zero i),fun i k c' hi=>absurd hi (Nat.not_lt_zero i)⟩
 | one m s cs g h hf=>
  obtain⟨h1,h2,h3,h4⟩:=hr
  have zero:∀ i,i<1->i=0:=fun i hi=>by omega
  refine⟨h1,h2,fun i hi=>?_,fun i k c' hi e=>?_⟩
  ·rw[zero i hi,<- h.1];exact h3 0 cs rfl
  ·rw[zero i hi]at e ⊢
   obtain⟨c,e1,e2⟩:=h.get e
   obtain⟨u,a1,a2,a3⟩:=h4 0 cs k c rfl e1
   exact⟨u,a1,a2,e2 w I u (a3.free ((List.all_eq_true.1 hf) c (List.mem_of_getElem? e1)))⟩
def HSub(h h':Heap):Prop:=h.length=h'.length /\ ∀ b,BSub (hget h b) (hget h' b)
theorem HSub.refl(h:Heap):HSub h h:=⟨rfl,fun b=>.refl _⟩
theorem HSub.nil:HSub [] []:=.refl _
theorem HSub.cons{x y:BS}{h h':Heap}(hx:BSub x y)(hh:HSub h h'):HSub (x::h) (y::h'):=by
 refine⟨by simp[hh.1],fun b=>?_⟩
 cases b with
 | zero=>exact hx
 | succ b=>exact hh.2 b
theorem HSub.rh{w:World}{I:Nat->Prop}{φ:Phi}{h h':Heap}(s:HSub h h')(hh:RH w I φ (hget h)):RH w I φ (hget h'):=by
 have k:=fun b=>(s.2 b).kind
 refine⟨fun b e=>hh.none b ((k b).2.2.1 e),fun b e=>?_,fun b b' B o sz o' sz' e e'=>hh.inj b b' B o sz o' sz' ((k b).2.1 ▸ e) ((k b').2.1 ▸ e'),fun b B o sz e=>hh.disj b B o sz ((k b).2.1 ▸ e),
  fun b B o sz e e'=>hh.imm b B o sz ((k b).1 ▸ e) ((k b).2.1 ▸ e'),hh.lt⟩
 rcases hh.blk b ((k b).1 ▸ e)with ⟨B,o,sz,e1,r⟩ | ⟨e1,hp⟩
 ·exact .inl ⟨B,o,sz,e1,(s.2 b).rb r⟩
 ·exact .inr ⟨e1,(k b).2.2.2 hp⟩
theorem HSub.mut{φ:Phi}{h h':Heap}(s:HSub h h'){B:Nat}(hm:Mut φ (hget h') B):Mut φ (hget h) B:=by
 obtain⟨b,o,sz,e,e'⟩:=hm
 exact⟨b,o,sz,(s.2 b).kind.2.1 ▸ e,e'⟩
theorem Contract.sub{P:Program}{f:Nat}{args args':List AV}{hp hp' rh:Heap}{r:AV}(h:Contract P f args' hp' r rh)(ha:SubFs args args')(hs:HSub hp hp'):Contract P f args hp r rh:=by
 intro w I φ ra hh hx
 refine(h w I φ ra (hs.rh hh) ⟨ha.1.symm.trans hx.1,fun k c' u e e'=>?_⟩).mono fun u w' ⟨φ',I',a1,a2,a3⟩=>⟨φ',I',a1,a2,?_⟩
 ·obtain⟨c,e1,e2⟩:=ha.get e
  exact e2 _ _ _ _ (hx.2 k c u e1 e')
 ·exact⟨fun b p hb e=>a3.le b p (hs.1 ▸ hb) e,a3.Ile,fun B hB=>(a3.Inew B hB).imp id (Or.imp hs.mut id),fun B hB=>(a3.mt B hB).imp hs.mut id,a3.ext.weaken fun B hB=>hs.mut hB⟩
theorem Contract.resub{P:Program}{f:Nat}{args:List AV}{hp rh rh':Heap}{r r':AV}(h:Contract P f args hp r rh)(ha:SubF r r')(hs:HSub rh rh'):Contract P f args hp r' rh':=by
 intro w I φ ra hh hx
 exact(h w I φ ra hh hx).mono fun u w' ⟨φ',I',a1,a2,a3⟩=>⟨φ',I',ha _ _ _ _ a1,hs.rh a2,⟨a3.le,a3.Ile,a3.Inew,fun B hB=>a3.mt B (hs.mut hB),a3.ext⟩⟩
def gPG{X:Type}(dec:List AV->Heap->X)(pre:X->Prop)(enc:X->List AV × Heap)(args:List AV)(hp:Heap):Prop:=pre (dec args hp)/\SubFs args (enc (dec args hp)).1/\HSub hp (enc (dec args hp)).2
def Known.specG{X:Type}(f:Nat)(dec:List AV->Heap->X)(pre:X->Prop)(enc:X->List AV × Heap)(out:X->AV × Heap):Known:=
 {f:=f,ans:=fun args hp=>some {X:=X,g:=cd (gPG dec pre enc args hp),a:=dec args hp,r:=out}}
theorem Known.specG_ok{P:Program}{X:Type}{f:Nat}{dec:List AV->Heap->X}{pre:X->Prop}{enc:X->List AV × Heap}{out:X->AV × Heap}
  (h:∀ x,pre x->Contract P f (enc x).1 (enc x).2 (out x).1 (out x).2/\(enc x).2.length<=(out x).2.length):(Known.specG f dec pre enc out).Ok P:=by
 intro args hp A e hg
 cases e
 obtain⟨h1,h2,h3⟩:=cd_iff.1 hg
 have:=h _ h1
 exact⟨this.1.sub h2 h3,by rw[h3.1];exact this.2⟩
def gCG{R:Type}{X:Type}(dec:List AV->Heap->X)(pre:X->Prop)(enc:X->List AV × Heap)(A:List AV)(H:Heap)(k:X->Option R):Option R:=gX (gPG dec pre enc A H) (dec A H) k
theorem gCG_eq{R:Type}{X:Type}{dec:List AV->Heap->X}{pre:X->Prop}{enc:X->List AV × Heap}{A:List AV}{H:Heap}{k:X->Option R}(x:X)(h1:dec A H=x)(h2:pre x)(h3:SubFs A (enc x).1)(h4:HSub H (enc x).2) :
  gCG dec pre enc A H k=k x:=by
 subst h1;exact gX_of ⟨h2,h3,h4⟩
theorem SubF.sn{sz b n cm:Nat}:SubF (.sl sz b 0 n cm) (.sn sz b n):=by
 intro w I φ u h
 cases h with
 | sl _ _ B o _ _ _ cap q hφ hq hl hc hs=>
  rw[Nat.zero_mul,Nat.add_zero]at hq
  rw[Nat.zero_add]at hs
  subst hq
  exact .sn sz b n B _ cap hφ hl hs
 | sle _ _ _ a=>exact .sn0 sz b _
theorem SubF.unsn{sz b n:Nat}(hn:0<n):SubF (.sn sz b n) (.sl sz b 0 n n):=by
 intro w I φ u h
 cases h with
 | sn0=>exact absurd hn (Nat.lt_irrefl 0)
 | sn _ _ _ B o cap hφ hl hs=>exact .sl sz b B o 0 n n cap o hφ (by simp) hl hl (by simpa using hs)
theorem Contract.nilSn{P:Program}{f:Nat}{args:List AV}(h:Contract P f args [] .nils [])(sz:Nat)(g:Nat->List AV):Contract P f args [] (.sn sz 0 0) [.seq true sz 0 g]:=by
 intro w I φ ra hh hx
 refine(h w I φ ra hh hx).mono fun u w' ⟨φ',I',a1,a2,a3⟩=>?_
 have hp:=a2.phan (nx:=0) (hget_nil 0) true sz g
 have e:rdput (hget []) 0 (.seq true sz 0 g)=hget [.seq true sz 0 g]:=by
  funext b
  cases b with
  | zero=>rw[rdput_same];rfl
  | succ b=>rw[rdput_ne _ _ (Nat.succ_ne_zero b),hget_nil];simp[hget]
 rw[e]at hp
 refine⟨φ',I',?_,hp.1,a3.trans (hp.2 _)⟩
 cases a1
 exact .sn0 _ _ _
theorem Contract.blkSn{P:Program}{f:Nat}{args:List AV}{sz n cm:Nat}{x:BS}{g:Nat->List AV}(h:Contract P f args [] (.sl sz 0 0 n cm) [x])(hx:BSub x (.seq true sz n g)) :
  Contract P f args [] (.sn sz 0 n) [.seq true sz n g]:=by
 intro w I φ ra hh hx'
 have hs:HSub [x] [.seq true sz n g]:=.cons hx .nil
 refine(h w I φ ra hh hx').mono fun u w' ⟨φ',I',a1,a2,a3⟩=>⟨φ',I',SubF.sn w' I' φ' u a1,hs.rh a2,⟨a3.le,a3.Ile,a3.Inew,fun B hB=>a3.mt B (hs.mut hB),a3.ext⟩⟩
def up(c k:Nat)(i:Nat):Option Nat:=bif Nat.blt i c then some i else some (i+k)
def cnK(c base:Nat)(r:AV)(h:Heap):Option (AV × Heap):=
 let s:=norm1 c [0] {fr:=[(0,r)],hp:=h}
 some (ren (up c (base - c)) (fget s.fr 0),(s.hp.take c).map (renB (up c (base - c)))++(List.replicate (base - c) .dead++(s.hp.drop c).map (renB (up c (base - c)))))
def callC(c:Nat)(env:Env)(n f:Nat)(args:List AV)(hp:Heap):Option (AV × Heap):=evFn (R:=AV × Heap) env n f args hp (cnK c hp.length)
theorem contract_cn{c:Nat}{P:Program}{f:Nat}{args:List AV}{hp hp':Heap}{res r:AV}{h:Heap}(hc:c<=hp.length)(k1:cnK c hp.length res hp'=some (r,h))(k2:hp.length<=hp'.length)(hcon:Contract P f args hp res hp') :
  Contract P f args hp r h/\hp.length<=h.length:=by
 have hlen:c<=(norm1 c [0] {fr:=[(0,res)],hp:=hp'}).hp.length:=by
  show c<=(seqs [0] (norm0 c [0] {fr:=[(0,res)],hp:=hp'}).hp).length
  rw[seqs_len];exact norm0_base (Nat.le_trans hc k2)
 simp only[cnK,Option.some.injEq,Prod.mk.injEq]at k1
 obtain⟨rfl,rfl⟩:=k1
 refine⟨fun w I φ ra hh hx=>(hcon w I φ ra hh hx).mono fun u w' ⟨φ',I',a1,a2,a3⟩=>?_,by simp;omega⟩
 have hs:StOk w' I' φ' {fr:=[(0,res)],hp:=hp'} {tmps:=#[u],defers:=[]}:=by
  refine⟨a2,fun t=>?_⟩
  cases t with
  | zero=>exact a1
  | succ t=>exact .undef _
 obtain⟨_,φ2,n2,n3⟩:=norm1_ok c [0] hs (Nat.le_trans hc k2)
 generalize norm1 c [0] {fr:=[(0,res)],hp:=hp'}=s at *
 have st:=(a3.mono hc).trans n3
 obtain⟨k,hk⟩:∃ k,k=hp.length - c:=⟨_,rfl⟩
 rw[<- hk]
 let φ3:Phi:=fun b=>if b<c then φ2 b else if b<hp.length then φ b else φ2 (b - k)
 have hρ:∀ i b',up c k i=some b'->φ3 b'=φ2 i:=by
  intro i b' e
  unfold up at e
  by_cases hi:i<c
  ·rw[blt_true hi,cond_true]at e;cases e;simp only[φ3,if_pos hi]
  ·rw[blt_false (by omega),cond_false]at e
   cases e
   simp only[φ3,if_neg (by omega:¬ i+k<c),if_neg (by omega:¬ i+k<hp.length),Nat.add_sub_cancel]
 have hg:∀ b,hget ((s.hp.take c).map (renB (up c k))++(List.replicate k .dead++(s.hp.drop c).map (renB (up c k)))) b =
   if b<c then renB (up c k) (hget s.hp b)else if b<hp.length then .dead else renB (up c k) (hget s.hp (b - k)):=by
  intro b
  have hN:∀ i,(s.hp.length<=i)->renB (up c k) (hget s.hp i)=.none:=fun i hi=>by rw[hget_ge hi];rfl
  have hl1:((s.hp.take c).map (renB (up c k))).length=c:=by simp;omega
  by_cases h1:b<c
  ·rw[if_pos h1]
   simp only[hget,List.getD]
   rw[List.getElem?_append_left (by omega)]
   simp only[List.getElem?_map,List.getElem?_take,if_pos h1]
   rw[List.getElem?_eq_getElem (by omega:b<s.hp.length)];rfl
  ·rw[if_neg h1]
   by_cases h2:b<hp.length
   ·rw[if_pos h2]
    simp only[hget,List.getD]
    rw[List.getElem?_append_right (by omega),List.getElem?_append_left (by simp;omega),List.getElem?_replicate,if_pos (by rw[hl1];omega)];rfl
   ·rw[if_neg h2]
    simp only[hget,List.getD]
    rw[List.getElem?_append_right (by omega),List.getElem?_append_right (by simp;omega),hl1]
    simp only[List.getElem?_map,List.getElem?_drop,List.length_replicate]
    rw[show c+(b - c - k)=b - k by omega]
    cases e:s.hp[b - k]? with
    | none=>rfl
    | some x=>rfl
 have key:∀ b,live (hget ((s.hp.take c).map (renB (up c k))++(List.replicate k .dead++(s.hp.drop c).map (renB (up c k)))) b)=true ->
   ∃ i,(i<c/\b=i\/c<=i/\b=i+k)/\hget ((s.hp.take c).map (renB (up c k))++(List.replicate k .dead++(s.hp.drop c).map (renB (up c k)))) b=renB (up c k) (hget s.hp i)/\φ3 b=φ2 i/\live (hget s.hp i)=true:=by
  intro b hl
  rw[hg b]at hl ⊢
  by_cases h1:b<c
  ·rw[if_pos h1]at hl ⊢
   exact⟨b,.inl ⟨h1,rfl⟩,rfl,by simp only[φ3,if_pos h1],(renB_kind _ _).1 hl⟩
  ·rw[if_neg h1]at hl ⊢
   by_cases h2:b<hp.length
   ·rw[if_pos h2]at hl;cases hl
   ·rw[if_neg h2]at hl ⊢
    exact⟨b - k,.inr ⟨by omega,by omega⟩,rfl,by simp only[φ3,if_neg h1,if_neg h2],(renB_kind _ _).1 hl⟩
 have hmut:∀ b,mutable (hget ((s.hp.take c).map (renB (up c k))++(List.replicate k .dead++(s.hp.drop c).map (renB (up c k)))) b)=true ->
   ∃ i,(i<c/\b=i\/c<=i/\b=i+k)/\φ3 b=φ2 i/\mutable (hget s.hp i)=true:=by
  intro b hm
  obtain⟨i,h1,h2,h3,h4⟩:=key b (live_of_mutable hm)
  rw[h2]at hm
  exact⟨i,h1,h3,(renB_kind _ _).2.1 hm⟩
 refine⟨φ3,I',?_,⟨fun b e=>?_,fun b hl=>?_,fun b b' B o sz o' sz' hm hm' e e'=>?_,fun b B o sz hm e=>?_,fun b B o sz hl hm e=>?_,n2.hh.lt⟩,⟨fun b p hb e=>?_,st.Ile,st.Inew,fun B hB=>?_,st.ext⟩⟩
 ·exact(n2.fr 0).ren hρ
 ·rw[hg b]at e
  by_cases h1:b<c
  ·rw[if_pos h1]at e;simp only[φ3,if_pos h1];exact n2.hh.none b ((renB_kind _ _).2.2.1 e)
  ·rw[if_neg h1]at e
   by_cases h2:b<hp.length
   ·rw[if_pos h2]at e;cases e
   ·rw[if_neg h2]at e;simp only[φ3,if_neg h1,if_neg h2];exact n2.hh.none _ ((renB_kind _ _).2.2.1 e)
 ·obtain⟨i,h1,h2,h3,h4⟩:=key b hl
  rcases n2.hh.blk i h4 with ⟨B,o,sz,e,r⟩ | ⟨e,hp⟩
  ·exact .inl ⟨B,o,sz,h3.trans e,by rw[h2];exact r.ren hρ⟩
  ·exact .inr ⟨h3.trans e,by rw[h2];exact phantom_ren _ hp⟩
 ·obtain⟨i,h1,h3,h4⟩:=hmut b hm
  obtain⟨i',h1',h3',h4'⟩:=hmut b' hm'
  have:=n2.hh.inj i i' B o sz o' sz' h4 h4' (h3 ▸ e) (h3' ▸ e')
  omega
 ·obtain⟨i,h1,h3,h4⟩:=hmut b hm
  exact n2.hh.disj i B o sz h4 (h3 ▸ e)
 ·obtain⟨i,h1,h2,h3,h4⟩:=key b hl
  rw[h2]at hl hm
  exact n2.hh.imm i B o sz h4 (by rw[<- (renB_kind (up c k) _).2.2.2 hl];exact hm) (h3 ▸ e)
 ·by_cases h1:b<c
  ·simp only[φ3,if_pos h1];exact st.le b p h1 e
  ·simp only[φ3,if_neg h1,if_pos hb];exact e
 ·obtain⟨b,o,sz,hm,e⟩:=hB
  obtain⟨i,h1,h3,h4⟩:=hmut b hm
  exact st.mt B ⟨i,o,sz,h4,h3 ▸ e⟩
theorem callC_ok{c:Nat}{P:Program}{env:Env}(henv:EnvOk P env)(hcode:CodeOk P env)(hm:P.follows .mixedOrders=true){n f:Nat}{args:List AV}{hp:Heap}{r:AV}{h:Heap}(hc:c<=hp.length)
  (e:callC c env n f args hp=some (r,h)):Contract P f args hp r h/\hp.length<=h.length:=by
 obtain⟨res,hp',k1,k2,hcon⟩:=ev_ok henv hcode hm n f args hp _ _ e
 exact contract_cn hc k1 k2 hcon
end Go.AM
end
noncomputable section
namespace Go.Md
open Go.AM
structure Item where
 key:List UInt8
 val:List UInt8
 has:Bool
 ver:Ver
deriving DecidableEq,Inhabited
def encItem(x:Item):List AV:=[.str x.key,.str x.val,.bool x.has,.cplx .f64 x.ver.re x.ver.im]
def decItem(cs:List AV):Item:=⟨getS cs 0,getS cs 1,getB cs 2,⟨(getC cs 3).1,(getC cs 3).2⟩⟩
theorem dec_encItem(x:Item):decItem (encItem x)=x:=rfl
def encItems(l:List Item):AV:=encL 4 encItem default l
theorem decItems(l:List Item):decL decItem (encItems l)=l:=decL_encL dec_encItem l
structure Pump where
 num:Int
 out:List Entry
 done:List Item
deriving DecidableEq,Inhabited
def encPump(x:Pump):List AV:=[.int .i64 x.num,encEntrys x.out,encItems x.done]
def decPump(cs:List AV):Pump:=⟨getI cs 0,getL decEntry cs 1,getL decItem cs 2⟩
theorem dec_encPump(x:Pump):decPump (encPump x)=x:=by
 show(⟨x.num,decL decEntry (encEntrys x.out),decL decItem (encItems x.done)⟩:Pump)=x
 rw[decEntrys,decItems]
structure Wait where
 ver:Ver
 dst:Int
 sess:Int
 num:Int
deriving DecidableEq,Inhabited
def encWait(x:Wait):List AV:=[.cplx .f64 x.ver.re x.ver.im,.int .i64 x.dst,.int .i64 x.sess,.int .i64 x.num]
def decWait(cs:List AV):Wait:=⟨⟨(getC cs 0).1,(getC cs 0).2⟩,getI cs 1,getI cs 2,getI cs 3⟩
theorem dec_encWait(x:Wait):decWait (encWait x)=x:=rfl
def encWaits(l:List Wait):AV:=encL 4 encWait default l
theorem decWaits(l:List Wait):decL decWait (encWaits l)=l:=decL_encL dec_encWait l
structure Ask where
 num:Int
 key:List UInt8
 calls:List Msg
deriving DecidableEq,Inhabited
def encAsk(x:Ask):List AV:=[.int .i64 x.num,.str x.key,encMsgs x.calls]
def decAsk(cs:List AV):Ask:=⟨getI cs 0,getS cs 1,getL decMsg cs 2⟩
theorem dec_encAsk(x:Ask):decAsk (encAsk x)=x:=by
 show(⟨x.num,x.key,decL decMsg (encMsgs x.calls)⟩:Ask)=x
 rw[decMsgs]
def encAsks(l:List Ask):AV:=encL 3 encAsk default l
theorem decAsks(l:List Ask):decL decAsk (encAsks l)=l:=decL_encL dec_encAsk l
structure Desk where
 rep:Rep
 pump:Pump
 clean:List Item
 busy:Bool
 waits:List Wait
 asks:List Ask
 next:Int
deriving DecidableEq,Inhabited
def encDesk(x:Desk):List AV:=[.int .i64 x.rep.shard,.int .i64 x.rep.self.node,.int .i64 x.rep.self.boot,.int .i64 x.rep.view.shard,.int .i64 x.rep.view.epoch,.int .i64 x.rep.view.gen,.int .i64 x.rep.view.phase,encMembers x.rep.view.chain,.int .i64 x.rep.frozen,.cplx .f64 x.rep.tail.floor.re x.rep.tail.floor.im,.cplx .f64 x.rep.tail.last.re x.rep.tail.last.im,encEntrys x.rep.tail.log,encSeens x.rep.seen,.cplx .f64 x.rep.got.re x.rep.got.im,encBools x.rep.synced,.int .i64 x.pump.num,encEntrys x.pump.out,encItems x.pump.done,encItems x.clean,.bool x.busy,encWaits x.waits,encAsks x.asks,.int .i64 x.next]
def decDesk(cs:List AV):Desk:=⟨⟨getI cs 0,⟨getI cs 1,getI cs 2⟩,⟨getI cs 3,getI cs 4,getI cs 5,getI cs 6,getL decMember cs 7⟩,getI cs 8,⟨⟨(getC cs 9).1,(getC cs 9).2⟩,⟨(getC cs 10).1,(getC cs 10).2⟩,getL decEntry cs 11⟩,getL decSeen cs 12,⟨(getC cs 13).1,(getC cs 13).2⟩,getL decBool cs 14⟩,⟨getI cs 15,getL decEntry cs 16,getL decItem cs 17⟩,getL decItem cs 18,getB cs 19,getL decWait cs 20,getL decAsk cs 21,getI cs 22⟩
theorem dec_encDesk(x:Desk):decDesk (encDesk x)=x:=by
 show(⟨⟨x.rep.shard,⟨x.rep.self.node,x.rep.self.boot⟩,⟨x.rep.view.shard,x.rep.view.epoch,x.rep.view.gen,x.rep.view.phase,decL decMember (encMembers x.rep.view.chain)⟩,x.rep.frozen,⟨⟨x.rep.tail.floor.re,x.rep.tail.floor.im⟩,⟨x.rep.tail.last.re,x.rep.tail.last.im⟩,decL decEntry (encEntrys x.rep.tail.log)⟩,decL decSeen (encSeens x.rep.seen),⟨x.rep.got.re,x.rep.got.im⟩,decL decBool (encBools x.rep.synced)⟩,⟨x.pump.num,decL decEntry (encEntrys x.pump.out),decL decItem (encItems x.pump.done)⟩,decL decItem (encItems x.clean),x.busy,decL decWait (encWaits x.waits),decL decAsk (encAsks x.asks),x.next⟩:Desk)=x
 simp only[decMembers,decEntrys,decSeens,decBools,decItems,decWaits,decAsks]
def encDesks(l:List Desk):AV:=encL 23 encDesk default l
theorem decDesks(l:List Desk):decL decDesk (encDesks l)=l:=decL_encL dec_encDesk l
structure Home where
 self:Member
 desks:List Desk
deriving DecidableEq,Inhabited
def encHome(x:Home):List AV:=[.int .i64 x.self.node,.int .i64 x.self.boot,encDesks x.desks]
def decHome(cs:List AV):Home:=⟨⟨getI cs 0,getI cs 1⟩,getL decDesk cs 2⟩
theorem dec_encHome(x:Home):decHome (encHome x)=x:=by
 show(⟨⟨x.self.node,x.self.boot⟩,decL decDesk (encDesks x.desks)⟩:Home)=x
 rw[decDesks]
structure Conf where
 nodes:Int
 chain:Int
 shards:Int
 clients:Int
 maxKey:Int
 maxVal:Int
 high:Int
 low:Int
 room:Int
 maxLog:Int
 batch:Int
 sessions:Int
 suspect:Int
 patience:Int
 maxSeq:Int
deriving DecidableEq,Inhabited
def encConf(x:Conf):List AV:=[.int .i64 x.nodes,.int .i64 x.chain,.int .i64 x.shards,.int .i64 x.clients,.int .i64 x.maxKey,.int .i64 x.maxVal,.int .i64 x.high,.int .i64 x.low,.int .i64 x.room,.int .i64 x.maxLog,.int .i64 x.batch,.int .i64 x.sessions,.int .i64 x.suspect,.int .i64 x.patience,.int .i64 x.maxSeq]
def decConf(cs:List AV):Conf:=⟨getI cs 0,getI cs 1,getI cs 2,getI cs 3,getI cs 4,getI cs 5,getI cs 6,getI cs 7,getI cs 8,getI cs 9,getI cs 10,getI cs 11,getI cs 12,getI cs 13,getI cs 14⟩
theorem dec_encConf(x:Conf):decConf (encConf x)=x:=rfl
end Go.Md
end
noncomputable section
open Go Go.AM Go.Md
namespace Go.Hd
open Go.Wk
set_option maxRecDepth 100000
set_option maxHeartbeats 400000
def asc(f:Nat):List (Nat × Nat)->Option Nat
 | []=>none
 | (g,m)::r=>bif Nat.beq f g then some m else asc f r
def envN(lv:List (Nat × Nat × List Nat))(md:List (Nat × Nat))(fz:List (Nat × Nat × List Nat))(l:List Known):Env:=
 {envM (fun f=>asc f md) (orcOf l)with live:=fun f b=>liveOf f b (lv++liveTab),frz:=fun f b=>liveOf f b fz}
theorem envN_ok{lv:List (Nat × Nat × List Nat)}{md:List (Nat × Nat)}{fz:List (Nat × Nat × List Nat)}{l:List Known}(h:∀ k ∈ l,k.Ok PG):EnvOk PG (envN lv md fz l):=⟨tt_ok rfl,orc_ok h⟩
theorem envN_code{lv:List (Nat × Nat × List Nat)}{md:List (Nat × Nat)}{fz:List (Nat × Nat × List Nat)}{l:List Known}:CodeOk PG (envN lv md fz l):=codeOf_ok rfl
theorem conN{lv:List (Nat × Nat × List Nat)}{md:List (Nat × Nat)}{fz:List (Nat × Nat × List Nat)}{l:List Known}(h:∀ k ∈ l,k.Ok PG){n f:Nat}{args:List AV}{r:AV}(e:callT (envN lv md fz l) n f args=some r):Contract PG f args [] r []:=
 callT_ok (envN_ok h) envN_code mixed e
theorem conC{lv:List (Nat × Nat × List Nat)}{md:List (Nat × Nat)}{fz:List (Nat × Nat × List Nat)}{l:List Known}(h:∀ k ∈ l,k.Ok PG){c n f:Nat}{args:List AV}{hp:Heap}{r:AV}{h':Heap}(hc:c<=hp.length)
  (e:callC c (envN lv md fz l) n f args hp=some (r,h')):Contract PG f args hp r h'/\hp.length<=h'.length:=callC_ok (envN_ok h) envN_code mixed hc e
theorem conB{lv:List (Nat × Nat × List Nat)}{md:List (Nat × Nat)}{fz:List (Nat × Nat × List Nat)}{l:List Known}(h:∀ k ∈ l,k.Ok PG){n f:Nat}{args:List AV}{r:AV}{h':Heap}
  (e:callC 0 (envN lv md fz l) n f args []=some (r,h')):Contract PG f args [] r h':=(callC_ok (envN_ok h) envN_code mixed (Nat.le_refl 0) e).1
theorem clone_sn{F sz b:Nat}(hb:b<=1000)(hn:callT env0 2 F [.nils]=some .nils)(he:callH env0 2 F [.trl sz []] []=some (.sl sz 0 0 0 0,[.arr true sz []]))
  (hs:∀ n f,callH env0 2 F [.tr sz (n+1) f] []=bif Nat.ble ((0+(n+1))*b) 140737488355328&&Nat.ble (0+(n+1)) 140737488355328 then some (.sl sz 0 0 (n+1) 0,[.seq true sz (n+1) f])else none)
  {n:Nat} (f:Nat->List AV) (h:n<=100000):Contract PG F [.tr sz n f] [] (.sn sz 0 n) [.seq true sz n f]:=by
 have e0:env0=envN [] [] [] []:=rfl
 rw[e0]at hn he hs
 cases n with
 | zero=>
  refine Contract.split (OrC.of [] [] .nil) ((conN (fun k hk=>by cases hk) hn).nilSn sz f) ?_
  have:=(callH_ok (envN_ok (fun k hk=>by cases hk)) envN_code mixed he).1
  exact this.blkSn (.zero true sz f)
 | succ n=>
  have h1:n+1<=100000:=h
  have:=hs n f
  rw[ble_true (by have:=Nat.mul_le_mul h1 hb;rw[Nat.zero_add];omega),ble_true (by omega)]at this
  have:=(callH_ok (envN_ok (fun k hk=>by cases hk)) envN_code mixed this).1
  exact this.blkSn (.refl _)
theorem cloN_Item{n:Nat}(f:Nat->List AV)(h:n<=100000):Contract PG F_slices_Clone_api_Item [.tr 4 n f] [] (.sn 4 0 n) [.seq true 4 n f]:=clone_sn (b:=56) (by omega) (by kernel_rfl) (by kernel_rfl) (fun n f=>by kernel_rfl) f h
theorem cloN_Wait{n:Nat}(f:Nat->List AV)(h:n<=100000):Contract PG F_slices_Clone_api_Wait [.tr 4 n f] [] (.sn 4 0 n) [.seq true 4 n f]:=clone_sn (b:=40) (by omega) (by kernel_rfl) (by kernel_rfl) (fun n f=>by kernel_rfl) f h
theorem cloN_Ask{n:Nat}(f:Nat->List AV)(h:n<=100000):Contract PG F_slices_Clone_api_Ask [.tr 3 n f] [] (.sn 3 0 n) [.seq true 3 n f]:=clone_sn (b:=48) (by omega) (by kernel_rfl) (by kernel_rfl) (fun n f=>by kernel_rfl) f h
theorem cloN_Entry{n:Nat}(f:Nat->List AV)(h:n<=100000):Contract PG F_slices_Clone_api_Entry [.tr 11 n f] [] (.sn 11 0 n) [.seq true 11 n f]:=clone_sn (b:=112) (by omega) (by kernel_rfl) (by kernel_rfl) (fun n f=>by kernel_rfl) f h
theorem cloN_Msg{n:Nat}(f:Nat->List AV)(h:n<=100000):Contract PG F_slices_Clone_api_Msg [.tr 31 n f] [] (.sn 31 0 n) [.seq true 31 n f]:=clone_sn (b:=392) (by omega) (by kernel_rfl) (by kernel_rfl) (fun n f=>by kernel_rfl) f h
theorem cloN_View{n:Nat}(f:Nat->List AV)(h:n<=100000):Contract PG F_slices_Clone_api_View [.tr 5 n f] [] (.sn 5 0 n) [.seq true 5 n f]:=clone_sn (b:=56) (by omega) (by kernel_rfl) (by kernel_rfl) (fun n f=>by kernel_rfl) f h
def dTr(a:List AV):Nat × (Nat->List AV):=match a.getD 0 .nils with
 | .tr _ n f=>(n,f)
 | .trl _ es=>(es.length,fun i=>es.getD i [])
 | _=>(0,fun _=>[])
def eTr(sz:Nat)(p:Nat × (Nat->List AV)):List AV:=[.tr sz p.1 p.2]
def pTr(p:Nat × (Nat->List AV)):Prop:=p.1<=100000
def kCloB(F sz:Nat):Known:=.specB F dTr pTr (eTr sz) (fun p=>(.sn sz 0 p.1,[.seq true sz p.1 p.2]))
def kCloT(F sz:Nat):Known:=.spec F dTr pTr (eTr sz) (fun p=>.tr sz p.1 p.2)
theorem kCloB_ok{F sz:Nat}(h:∀ {n:Nat} (f:Nat->List AV),n<=100000->Contract PG F [.tr sz n f] [] (.sn sz 0 n) [.seq true sz n f]):(kCloB F sz).Ok PG:=Known.specB_ok fun p hp=>h p.2 hp
theorem kCloT_ok{F sz:Nat}(h:∀ {n:Nat} (f:Nat->List AV),n<=100000->Contract PG F [.tr sz n f] [] (.sn sz 0 n) [.seq true sz n f]):(kCloT F sz).Ok PG:=Known.spec_ok fun p hp=>
 (h p.2 hp).snapped (by
  show(match snapG 400 (hget [.seq true sz p.1 p.2]) (.sn sz 0 p.1)with
   | some (r,_,g)=>bif g then some r else none
   | none=>none)=_
  show(bif Nat.ble p.1 p.1 then some (AV.tr sz p.1 p.2)else none)=_
  rw[ble_true (Nat.le_refl _)];rfl)
theorem qTr{R:Type}{sz n:Nat}{f:Nat->List AV}{k:Nat × (Nat->List AV)->Option R}(h:n<=100000):gC dTr pTr (eTr sz) [.tr sz n f] k=k (n,f):=gC_eq (n,f) rfl h (.refl _)
def ixFrom{X:Type}(P:X->Bool):List X->Nat->Int
 | [],_=>-1
 | x::r,i=>bif P x then(i:Int)else ixFrom P r (i+1)
theorem ixFrom_none{X:Type}{P:X->Bool}:∀ (l:List X) (i:Nat),ixFrom P l i = -1 ↔ ∀ x ∈ l,P x=false
 | [],i=>⟨fun _ _ h=>by simp at h,fun _=>rfl⟩
 | x::r,i=>by
  unfold ixFrom
  cases h:P x with
  | true=>exact⟨fun e=>by rw[cond_true]at e;omega,fun e=>by have:=e x (by simp);rw[h]at this;cases this⟩
  | false=>
   rw[cond_false,ixFrom_none r (i+1)]
   exact⟨fun e y hy=>(List.mem_cons.1 hy).elim (fun q=>q ▸ h) (e y),fun e y hy=>e y (by simp[hy])⟩
theorem ixFrom_some{X:Type}{P:X->Bool}(z:X):∀ (l:List X) (i:Nat),ixFrom P l i ≠ -1 -> ∃ k,ixFrom P l i=((i+k:Nat):Int)/\k<l.length/\P (l.getD k z)=true /\ ∀ x ∈ l.take k,P x=false
 | [],i,h=>absurd rfl h
 | x::r,i,h=>by
  unfold ixFrom at h ⊢
  cases hx:P x with
  | true=>exact⟨0,by simp,by simp,by simpa using hx,by simp⟩
  | false=>
   rw[hx,cond_false]at h
   obtain⟨k,h1,h2,h3,h4⟩:=ixFrom_some z r (i+1) h
   refine⟨k+1,?_,by simpa using h2,by simpa using h3,fun y hy=>?_⟩
   ·rw[cond_false,h1];congr 1;omega
   ·rw[List.take_succ_cons]at hy
    exact(List.mem_cons.1 hy).elim (fun q=>q ▸ hx) (h4 y)
theorem idx_run{X R:Type}{p:X->Bool}{l:List X}{z:X}{L:Nat->Int->Option R}{A:Int->Option R}(hn:l.length<=100000)
  (hst:∀ m (i:Int),L (m+1) i=bif decide (i<(l.length:Int))then rg i l.length (bif Nat.blt i.toNat l.length then bif p (l.getD i.toNat z)then A i else L m (IntKind.i64.wrap (i+1))else none)else A (-1)) :
  ∀ (d i m:Nat),i+d=l.length->d<m->L m (i:Nat)=A (ixFrom p (l.drop i) i):=by
 intro d
 induction d with
 | zero=>
  intro i m hi hm
  obtain⟨m,rfl⟩:∃ k,m=k+1:=⟨m - 1,by omega⟩
  rw[hst,decide_eq_false (by omega),cond_false,List.drop_eq_nil_of_le (by omega)]
  rfl
 | succ d ih=>
  intro i m hi hm
  obtain⟨m,rfl⟩:∃ k,m=k+1:=⟨m - 1,by omega⟩
  have hil:i<l.length:=by omega
  rw[hst,decide_eq_true (by omega),cond_true,rg_eq hil,Int.toNat_natCast,blt_true hil,cond_true,wrapS (by omega),ih (i+1) m (by omega) (by omega),drop_cons (z:=z) hil]
  show _=A (bif p (l.getD i z)then(i:Int)else ixFrom p (l.drop (i+1)) (i+1))
  cases p (l.getD i z) <;> rfl
def setF{X:Type}(F:Nat->X)(i:Nat)(x:X):Nat->X:=fun k=>bif k.beq i then x else F k
theorem setF_enc{X:Type}(e:X->List AV)(F:Nat->X)(i:Nat)(x:X):(fun k=>bif k.beq i then e x else e (F k))=fun k=>e (setF F i x k):=by
 funext k
 unfold setF
 cases k.beq i <;> rfl
theorem setF_at{X:Type}(F:Nat->X)(i:Nat)(x:X):setF F i x i=x:=by unfold setF;rw[AM.beq_true rfl];rfl
theorem setF_ne{X:Type}(F:Nat->X){i k:Nat}(x:X)(h:k ≠ i):setF F i x k=F k:=by unfold setF;rw[AM.beq_false h];rfl
theorem filt1{X:Type}{p:X->Bool}{x:X}(h:p x=true):([x].filter fun x=>!p x)=[]:=by rw[List.filter_cons,h];rfl
theorem filt0{X:Type}{p:X->Bool}{x:X}(h:p x=false):([x].filter fun x=>!p x)=[x]:=by rw[List.filter_cons,h];rfl
theorem del_run{X R:Type}{p:X->Bool}{l:List X}{z:X}{L:Nat->(Nat->X)->Int->Int->Option R}{A:(Nat->X)->Nat->Option R}(hn:l.length<=100000)
  (hst:∀ m F (i j:Int),L (m+1) F i j=bif decide (j<(l.length:Int))then rg j l.length (bif Nat.blt j.toNat l.length then bif !p (F j.toNat)then rg i l.length (bif Nat.blt i.toNat l.length&&true then L m (setF F i.toNat (F j.toNat)) (IntKind.i64.wrap (i+1)) (IntKind.i64.wrap (j+1))else none)else L m F i (IntKind.i64.wrap (j+1))else none)else
   bif decide (0<=i)&&decide (i<=(l.length:Int))then A F i.toNat else none) :
  ∀ (d i j m:Nat) (F:Nat->X),j+d=l.length->d<m->i<j->i=((l.take j).filter fun x=>!p x).length->(∀ x,x<i->F x=((l.take j).filter fun x=>!p x).getD x z)->(∀ x,j<=x->x<l.length->F x=l.getD x z) ->
   ∃ G:Nat->X,L m F (i:Nat) (j:Nat)=A G (l.filter fun x=>!p x).length /\ ∀ x,x<(l.filter fun x=>!p x).length->G x=(l.filter fun x=>!p x).getD x z:=by
 intro d
 induction d with
 | zero=>
  intro i j m F hj hm hij hi h1 h2
  obtain⟨m,rfl⟩:∃ k,m=k+1:=⟨m - 1,by omega⟩
  have ht:l.take j=l:=List.take_of_length_le (by omega)
  rw[ht]at hi h1
  rw[hst,decide_eq_false (by omega),cond_false,decide_eq_true (by omega),decide_eq_true (by omega),Bool.and_true,cond_true,Int.toNat_natCast]
  exact⟨F,by rw[<- hi],fun x hx=>h1 x (by omega)⟩
 | succ d ih=>
  intro i j m F hj hm hij hi h1 h2
  obtain⟨m,rfl⟩:∃ k,m=k+1:=⟨m - 1,by omega⟩
  have hjl:j<l.length:=by omega
  have hx:F j=l.getD j z:=h2 j (Nat.le_refl _) hjl
  have ht:l.take (j+1)=l.take j++[l.getD j z]:=by
   rw[List.take_add_one,List.getD,List.getElem?_eq_getElem hjl];rfl
  rw[hst,decide_eq_true (by omega),cond_true,rg_eq hjl,Int.toNat_natCast,blt_true hjl,cond_true,hx]
  cases hp:p (l.getD j z)with
  | true=>
   rw[Bool.not_true,cond_false,wrapS (by omega)]
   have hf:((l.take (j+1)).filter fun x=>!p x)=((l.take j).filter fun x=>!p x):=by
    rw[ht,List.filter_append,filt1 hp,List.append_nil]
   exact ih i (j+1) m F (by omega) (by omega) (by omega) (by rw[hf];exact hi) (fun x hx=>by rw[hf];exact h1 x hx) (fun x hx hx'=>h2 x (by omega) hx')
  | false=>
   have hil:i<l.length:=by omega
   rw[Bool.not_false,cond_true,rg_eq hil,Int.toNat_natCast,blt_true hil,Bool.and_true,cond_true,wrapS (by omega),wrapS (by omega)]
   have hf:((l.take (j+1)).filter fun x=>!p x)=((l.take j).filter fun x=>!p x)++[l.getD j z]:=by
    rw[ht,List.filter_append,filt0 hp]
   refine ih (i+1) (j+1) m _ (by omega) (by omega) (by omega) (by rw[hf,List.length_append,<- hi];rfl) (fun x hx=>?_) (fun x hx hx'=>?_)
   ·rw[hf]
    by_cases hxi:x=i
    ·subst hxi
     rw[setF_at]
     simp only[List.getD]
     rw[List.getElem?_append_right (by omega),show x - ((l.take j).filter fun x=>!p x).length=0 by omega];rfl
    ·rw[setF_ne _ _ hxi,h1 x (by omega)]
     simp only[List.getD]
     rw[List.getElem?_append_left (by omega)]
   ·rw[setF_ne _ _ (by omega)];exact h2 x (by omega) hx'
theorem filter_none{X:Type}{p:X->Bool}{l:List X}(h:∀ x ∈ l,p x=false):(l.filter fun x=>!p x)=l:=List.filter_eq_self.2 fun x hx=>by simp[h x hx]
theorem getD_take{X:Type}{l:List X}{k x:Nat}{z:X}(h:x<k):(l.take k).getD x z=l.getD x z:=by
 simp only[List.getD,List.getElem?_take,if_pos h]
def sqL{X:Type}(sz:Nat)(e:X->List AV)(z:X)(l:List X):BS:=.seq true sz l.length fun i=>e (l.getD i z)
theorem sqL_sub{X:Type}{sz n:Nat}{e:X->List AV}{z:X}{l:List X}{f:Nat->List AV}(hn:l.length<=n)(h:∀ i,i<l.length->f i=e (l.getD i z)):BSub (.seq true sz n f) (sqL sz e z l):=
 .seq true sz n l.length f _ hn fun i hi=>by rw[h i hi];exact .refl _
theorem del_all{X:Type}{p:X->Bool}{l:List X}{z:X}{L:Nat->(Nat->X)->Int->Int->Option (AV × Heap)}{A:(Nat->X)->Nat->Option (AV × Heap)}{m:Nat}(hn:l.length<=100000)(hm:l.length<m)
  (hst:∀ m F (i j:Int),L (m+1) F i j=bif decide (j<(l.length:Int))then rg j l.length (bif Nat.blt j.toNat l.length then bif !p (F j.toNat)then rg i l.length (bif Nat.blt i.toNat l.length&&true then L m (setF F i.toNat (F j.toNat)) (IntKind.i64.wrap (i+1)) (IntKind.i64.wrap (j+1))else none)else L m F i (IntKind.i64.wrap (j+1))else none)else
   bif decide (0<=i)&&decide (i<=(l.length:Int))then A F i.toNat else none) (hi:ixFrom p l 0 ≠ -1) :
  ∃ G:Nat->X,L m (fun i=>l.getD i z) (ixFrom p l 0) (IntKind.i64.wrap (ixFrom p l 0+1))=A G (l.filter fun x=>!p x).length/\0<l.length/\(l.filter fun x=>!p x).length<=l.length /\ ∀ x,x<(l.filter fun x=>!p x).length->G x=(l.filter fun x=>!p x).getD x z:=by
 obtain⟨k,h1,h2,h3,h4⟩:=ixFrom_some z l 0 hi
 rw[Nat.zero_add]at h1
 have hf0:((l.take k).filter fun x=>!p x)=l.take k:=filter_none h4
 have ht:l.take (k+1)=l.take k++[l.getD k z]:=by
  rw[List.take_add_one,List.getD,List.getElem?_eq_getElem h2];rfl
 have hf:((l.take (k+1)).filter fun x=>!p x)=l.take k:=by
  rw[ht,List.filter_append,hf0];rw[filt1 h3,List.append_nil]
 obtain⟨G,g1,g2⟩:=del_run hn hst (l.length - (k+1)) k (k+1) m (fun i=>l.getD i z) (by omega) (by omega) (by omega) (by rw[hf];simp;omega) (fun x hx=>by rw[hf,getD_take hx]) (fun x _ _=>rfl)
 refine⟨G,?_,by omega,List.length_filter_le _ _,g2⟩
 rw[h1,wrapS (by omega)];exact g1
abbrev Itm:=Md.Item
abbrev Txt:=List UInt8
def dRow{X:Type}(d:List AV->X):BS->List X
 | .seq _ _ n f=>(List.range n).map fun i=>d (f i)
 | .arr _ _ es=>es.map d
 | _=>[]
theorem dRow_sqL{X:Type}{sz:Nat}{e:X->List AV}{d:List AV->X}{z:X}(h:∀ x,d (e x)=x)(l:List X):dRow d (sqL sz e z l)=l:=by
 show(List.range l.length).map (fun i=>d (e (l.getD i z)))=l
 refine List.ext_getElem (by simp) fun i g1 g2=>?_
 simp[h,List.getD,List.getElem?_eq_getElem g2]
def dCell1:BS->AV
 | .arr _ _ [[c]]=>c
 | .seq _ _ _ f=>(f 0).getD 0 .undef
 | _=>.undef
def dCells:BS->List AV
 | .arr _ _ [c]=>c
 | .seq _ _ _ f=>f 0
 | _=>[]
def dStr1(b:BS):Txt:=match dCell1 b with
 | .str s=>s
 | _=>[]
def dTp0(a:List AV):Txt:=match a.getD 1 .nils with
 | .tp [.str s] _=>s
 | _=>[]
def dTpC(a:List AV):List AV:=match a.getD 1 .nils with
 | .tp cs _=>cs
 | _=>[]
def dMap(b:BS):List Txt × (Txt->Int):=match b with
 | .pmap _ ks val=>(ks,fun k=>match val k with
  | .int _ n=>n
  | _=>0)
 | _=>([],fun _=>0)
def eO(l:List Known):Env:=envN [] [(F_slices_IndexFunc_api_Item,5),(F_slices_DeleteFunc_api_Item,5),(F_lru_Out_c1,0)] [] l
def fO:AV:=.fn (.func F_lru_Out_c1) [] [.ptr 1 0 0]
def hO(y:Txt):Heap:=[.arr true 1 [[.str y]]]
def pO(y:Txt)(x:Itm):Bool:=strBeq x.key y
def xCO:List AV->Itm × Txt:=fun a=>(decItem (argC a 0),dTp0 a)
def yCO(q:Itm × Txt):List AV:=[.agg (encItem q.1),.tp [.str q.2] 0]
theorem cO_eq(q:Itm × Txt):callT (eO []) 9 F_lru_Out_c1 (yCO q)=some (.bool (pO q.2 q.1)):=by kernel_rfl
def kCO:Known:=.spec F_lru_Out_c1 xCO (fun _=>True) yCO (fun q=>.bool (pO q.2 q.1))
theorem kCO_ok:kCO.Ok PG:=Known.spec_ok fun q _=>conN (fun k hk=>by cases hk) (cO_eq q)
theorem xCO_eq(q:Itm × Txt):xCO (yCO q)=q:=Prod.ext rfl rfl
def gO{R:Type}(q:Itm × Txt)(k:Itm × Txt->Option R):Option R:=gC xCO (fun _=>True) yCO (yCO q) k
theorem gO_eq{R:Type}(q:Itm × Txt)(k:Itm × Txt->Option R):gO q k=k q:=gC_eq q (xCO_eq q) trivial (.refl _)
def SIO(n:Nat)(F:Nat->Itm)(y:Txt)(i:Int):St:={fr:=[(0,.sn 4 0 n),(1,fO),(7,.int .i64 n),(8,.int .i64 i)],hp:=.seq true 4 n (fun i=>encItem (F i))::hO y}
def LIO(N m n:Nat)(F:Nat->Itm)(y:Txt)(i:Int):Option (AV × Heap):=LP (eO [kCO]) N 2 F_slices_IndexFunc_api_Item (cnK 2 2) 0 [] m (SIO n F y i)
abbrev YO:=List Itm × Txt
def eLO(p:YO):List AV × Heap:=([.sn 4 0 p.1.length,fO],sqL 4 encItem default p.1::hO p.2)
theorem iO_in(N:Nat)(p:YO):callC 2 (eO [kCO]) (N+1) F_slices_IndexFunc_api_Item (eLO p).1 (eLO p).2=LIO N N p.1.length (fun i=>p.1.getD i default) p.2 0:=by kernel_rfl
theorem iO_st(N m n:Nat)(F:Nat->Itm)(y:Txt)(i:Int):LIO N (m+1) n F y i=bif decide (i<(n:Int))then rg i n (bif Nat.blt i.toNat n then gO (F i.toNat,y) (fun q=>bif pO q.2 q.1 then some (.int .i64 i,.seq true 4 n (fun i=>encItem (F i))::hO y)else LIO N m n F y (IntKind.i64.wrap (i+1)))else none)else some (.int .i64 (-1),.seq true 4 n (fun i=>encItem (F i))::hO y):=by kernel_rfl
def dLO(_:List AV)(h:Heap):YO:=(dRow decItem (hget h 0),dStr1 (hget h 1))
theorem dLO_eq(p:YO):dLO (eLO p).1 (eLO p).2=p:=Prod.ext (dRow_sqL (sz:=4) (fun _=>rfl) p.1) rfl
def pLO(p:YO):Prop:=p.1.length<=100000
theorem iO_con(p:YO)(h:pLO p):Contract PG F_slices_IndexFunc_api_Item (eLO p).1 (eLO p).2 (.int .i64 (ixFrom (pO p.2) p.1 0)) (eLO p).2/\(eLO p).2.length<=(eLO p).2.length:=by
 obtain⟨N,hN⟩:∃ N,N=200000:=⟨_,rfl⟩
 refine conC (ak kCO_ok ank) (c:=2) (n:=N+1) (Nat.le_refl 2) ((iO_in N p).trans ?_)
 have:=idx_run (p:=pO p.2) (l:=p.1) (z:=default) (L:=fun m i=>LIO N m p.1.length (fun i=>p.1.getD i default) p.2 i) (A:=fun i=>some (.int .i64 i,(eLO p).2)) h
  (fun m i=>by rw[iO_st,gO_eq];rfl) p.1.length 0 N (by omega) (by unfold pLO at h;omega)
 rw[List.drop_zero]at this
 exact this
def kIO:Known:=.specG F_slices_IndexFunc_api_Item dLO pLO eLO (fun p=>(.int .i64 (ixFrom (pO p.2) p.1 0),(eLO p).2))
theorem kIO_ok:kIO.Ok PG:=Known.specG_ok iO_con
def SDO(n:Nat)(F:Nat->Itm)(y:Txt)(i j:Int):St:={fr:=[(0,.sn 4 0 n),(1,fO),(5,.int .i64 i),(6,.int .i64 j)],hp:=.seq true 4 n (fun i=>encItem (F i))::hO y}
def LDO(N m n:Nat)(F:Nat->Itm)(y:Txt)(i j:Int):Option (AV × Heap):=LP (eO [kIO,kCO]) N 2 F_slices_DeleteFunc_api_Item (cnK 2 2) 0 [] m (SDO n F y i j)
theorem dO_in(N:Nat)(p:YO):callC 2 (eO [kIO,kCO]) (N+1) F_slices_DeleteFunc_api_Item (eLO p).1 (eLO p).2=gCG dLO pLO eLO (eLO p).1 (eLO p).2 fun q=>
 bif decide (ixFrom (pO q.2) q.1 0 = -1)then some (.sn 4 0 p.1.length,(eLO q).2)
 else LP (eO [kIO,kCO]) N 2 F_slices_DeleteFunc_api_Item (cnK 2 2) 0 [] N {fr:=[(0,.sn 4 0 p.1.length),(1,fO),(5,.int .i64 (ixFrom (pO q.2) q.1 0)),(6,.int .i64 (IntKind.i64.wrap (ixFrom (pO q.2) q.1 0+1)))],hp:=(eLO q).2}:=by kernel_rfl
def AO(n:Nat)(y:Txt)(F:Nat->Itm)(i:Nat):Option (AV × Heap):=
 bif Nat.blt 0 n then bif(n - i).beq 0 then some (.sn 4 0 i,.seq true 4 n (fun i=>encItem (F i))::hO y)
 else bif(i+(n - i)).ble n then some (.sn 4 0 i,.seq true 4 n (fun k=>bif k.blt i then encItem (F k)else bif k.blt (i+(n - i))then encItem default else encItem (F k))::hO y)else none
 else none
theorem dO_st(N m n:Nat)(F:Nat->Itm)(y:Txt)(i j:Int):LDO N (m+1) n F y i j =
 bif decide (j<(n:Int))then rg j n (bif Nat.blt j.toNat n then gO (F j.toNat,y) (fun q=>bif !pO q.2 q.1 then rg i n (bif Nat.blt i.toNat n&&true then LP (eO [kIO,kCO]) N 2 F_slices_DeleteFunc_api_Item (cnK 2 2) 0 [] m
  {fr:=[(0,.sn 4 0 n),(1,fO),(5,.int .i64 (IntKind.i64.wrap (i+1))),(6,.int .i64 (IntKind.i64.wrap (j+1)))],hp:=.seq true 4 n (fun k=>bif k.beq i.toNat then encItem (F j.toNat)else encItem (F k))::hO y}else none)
  else LDO N m n F y i (IntKind.i64.wrap (j+1)))else none)
 else bif decide (0<=i)&&decide (i<=(n:Int))then bif Nat.blt 0 n then bif(n - i.toNat).beq 0 then bif decide (0<=i)&&decide (i<=(n:Int))then some (.sn 4 0 i.toNat,.seq true 4 n (fun i=>encItem (F i))::hO y)else none
  else bif(i.toNat+(n - i.toNat)).ble n then bif decide (0<=i)&&decide (i<=(n:Int))then some (.sn 4 0 i.toNat,.seq true 4 n (fun k=>bif k.blt i.toNat then encItem (F k)else bif k.blt (i.toNat+(n - i.toNat))then encItem default else encItem (F k))::hO y)else none else none
  else none else none:=by kernel_rfl
theorem dO_st'(N m n:Nat)(F:Nat->Itm)(y:Txt)(i j:Int):LDO N (m+1) n F y i j =
 bif decide (j<(n:Int))then rg j n (bif Nat.blt j.toNat n then bif !pO y (F j.toNat)then rg i n (bif Nat.blt i.toNat n&&true then LDO N m n (setF F i.toNat (F j.toNat)) y (IntKind.i64.wrap (i+1)) (IntKind.i64.wrap (j+1))else none)else LDO N m n F y i (IntKind.i64.wrap (j+1))else none)
 else bif decide (0<=i)&&decide (i<=(n:Int))then AO n y F i.toNat else none:=by
 rw[dO_st,gO_eq,setF_enc encItem]
 unfold AO
 cases decide (0<=i)&&decide (i<=(n:Int)) <;> rfl
def oDO(p:YO):AV × Heap:=(.sn 4 0 (p.1.filter fun x=>!pO p.2 x).length,sqL 4 encItem default (p.1.filter fun x=>!pO p.2 x)::hO p.2)
theorem dO_con(p:YO)(h:pLO p):Contract PG F_slices_DeleteFunc_api_Item (eLO p).1 (eLO p).2 (oDO p).1 (oDO p).2/\(eLO p).2.length<=(oDO p).2.length:=by
 obtain⟨N,hN⟩:∃ N,N=200000:=⟨_,rfl⟩
 have hq:∀ {K:YO->Option (AV × Heap)},gCG dLO pLO eLO (eLO p).1 (eLO p).2 K=K p:=fun {K}=>gCG_eq p (dLO_eq p) h (.refl _) (.refl _)
 have e:=dO_in N p
 rw[hq]at e
 by_cases hi:ixFrom (pO p.2) p.1 0 = -1
 ·rw[decide_eq_true hi,cond_true]at e
  have c:=(conC (ak kIO_ok (ak kCO_ok ank)) (c:=2) (hp:=(eLO p).2) (Nat.le_refl 2) e)
  have hf:=filter_none ((ixFrom_none p.1 0).1 hi)
  refine⟨?_,Nat.le_refl _⟩
  unfold oDO
  rw[hf]
  exact c.1
 ·rw[decide_eq_false hi,cond_false]at e
  have hp:=h
  unfold pLO at hp
  obtain⟨G,g1,g2,g3,g4⟩:=del_all (p:=pO p.2) (z:=default) (L:=fun m F i j=>LDO N m p.1.length F p.2 i j) (A:=AO p.1.length p.2) (m:=N) hp (by omega) (fun m F i j=>dO_st' N m p.1.length F p.2 i j) hi
  have e2:=e.trans g1
  generalize hk:(p.1.filter fun x=>!pO p.2 x).length=k at *
  have hl:(sqL 4 encItem default (p.1.filter fun x=>!pO p.2 x))=.seq true 4 k fun i=>encItem ((p.1.filter fun x=>!pO p.2 x).getD i default):=by unfold sqL;rw[hk]
  unfold AO at e2
  rw[blt_true g2,cond_true]at e2
  refine⟨?_,Nat.le_refl _⟩
  unfold oDO
  rw[hl,hk]
  cases hz:(p.1.length - k).beq 0 with
  | true=>
   rw[hz,cond_true]at e2
   have c:=(conC (ak kIO_ok (ak kCO_ok ank)) (c:=2) (hp:=(eLO p).2) (Nat.le_refl 2) e2).1
   exact c.resub (.refl _) (.cons (.seq true 4 p.1.length k _ _ g3 fun i hi=>by rw[g4 i hi];exact .refl _) (.refl _))
  | false=>
   rw[hz,cond_false,ble_true (by omega),cond_true]at e2
   have c:=(conC (ak kIO_ok (ak kCO_ok ank)) (c:=2) (hp:=(eLO p).2) (Nat.le_refl 2) e2).1
   exact c.resub (.refl _) (.cons (.seq true 4 p.1.length k _ _ g3 fun i hi=>by rw[blt_true hi,cond_true,g4 i hi];exact .refl _) (.refl _))
def kDO:Known:=.specG F_slices_DeleteFunc_api_Item dLO pLO eLO oDO
theorem kDO_ok:kDO.Ok PG:=Known.specG_ok dO_con
def eF(l:List Known):Env:=envN [] [(F_slices_IndexFunc_api_Item,5),(F_slices_DeleteFunc_api_Item,5),(F_flush_Flushed_c1,5)] [] l
def fF:AV:=.fn (.func F_flush_Flushed_c1) [] [.ptr 1 0 0]
def hF(y:List Txt × (Txt->Int)):Heap:=[.arr true 1 [[.mp 2]],.pmap true y.1 fun k=>.int .i64 (y.2 k)]
def pF(y:List Txt × (Txt->Int))(x:Itm):Bool:=bif memS x.key y.1 then decide (0<y.2 x.key)else false
def tF{R:Type}(y:List Txt × (Txt->Int))(x:Itm)(k:Bool->Option R):Option R:=bif memS x.key y.1 then k (decide (0<y.2 x.key))else k false
theorem tF_eq{R:Type}(y:List Txt × (Txt->Int))(x:Itm)(k:Bool->Option R):tF y x k=k (pF y x):=by
 unfold tF pF
 first | rfl | (cases memS x.key y.1 <;> rfl)
def xCF:List AV->Heap->Itm × List Txt × (Txt->Int):=fun a h=>(decItem (argC a 0),dMap (hget h 1))
def yCF(q:Itm × List Txt × (Txt->Int)):List AV × Heap:=([.agg (encItem q.1),.ptr 0 0 0],[.arr true 1 [[.mp 1]],.pmap true q.2.1 fun k=>.int .i64 (q.2.2 k)])
theorem cF_eq(q:Itm × List Txt × (Txt->Int)):callC 2 (eF []) 9 F_flush_Flushed_c1 (yCF q).1 (yCF q).2=tF q.2 q.1 fun b=>some (.bool b,(yCF q).2):=by kernel_rfl
def kCF:Known:=.specG F_flush_Flushed_c1 xCF (fun _=>True) yCF (fun q=>(.bool (pF q.2 q.1),(yCF q).2))
theorem kCF_ok:kCF.Ok PG:=Known.specG_ok fun q _=>conC (fun k hk=>by cases hk) (c:=2) (n:=9) (Nat.le_refl 2) ((cF_eq q).trans (tF_eq _ _ _))
theorem xCF_eq(q:Itm × List Txt × (Txt->Int)):xCF (yCF q).1 (yCF q).2=q:=rfl
def gF{R:Type}(q:Itm × List Txt × (Txt->Int))(k:Itm × List Txt × (Txt->Int)->Option R):Option R:=gCG xCF (fun _=>True) yCF (yCF q).1 (yCF q).2 k
theorem gF_eq{R:Type}(q:Itm × List Txt × (Txt->Int))(k:Itm × List Txt × (Txt->Int)->Option R):gF q k=k q:=gCG_eq q (xCF_eq q) trivial (.refl _) (.refl _)
def SIF(n:Nat)(F:Nat->Itm)(y:List Txt × (Txt->Int))(i:Int):St:={fr:=[(0,.sn 4 0 n),(1,fF),(7,.int .i64 n),(8,.int .i64 i)],hp:=.seq true 4 n (fun i=>encItem (F i))::hF y}
def LIF(N m n:Nat)(F:Nat->Itm)(y:List Txt × (Txt->Int))(i:Int):Option (AV × Heap):=LP (eF [kCF]) N 3 F_slices_IndexFunc_api_Item (cnK 3 3) 0 [] m (SIF n F y i)
abbrev YF:=List Itm × List Txt × (Txt->Int)
def eLF(p:YF):List AV × Heap:=([.sn 4 0 p.1.length,fF],sqL 4 encItem default p.1::hF p.2)
theorem iF_in(N:Nat)(p:YF):callC 3 (eF [kCF]) (N+1) F_slices_IndexFunc_api_Item (eLF p).1 (eLF p).2=LIF N N p.1.length (fun i=>p.1.getD i default) p.2 0:=by kernel_rfl
theorem iF_st(N m n:Nat)(F:Nat->Itm)(y:List Txt × (Txt->Int))(i:Int):LIF N (m+1) n F y i=bif decide (i<(n:Int))then rg i n (bif Nat.blt i.toNat n then gF (F i.toNat,y) (fun q=>bif pF q.2 q.1 then some (.int .i64 i,.seq true 4 n (fun i=>encItem (F i))::hF y)else LIF N m n F y (IntKind.i64.wrap (i+1)))else none)else some (.int .i64 (-1),.seq true 4 n (fun i=>encItem (F i))::hF y):=by kernel_rfl
def dLF(_:List AV)(h:Heap):YF:=(dRow decItem (hget h 0),dMap (hget h 2))
theorem dLF_eq(p:YF):dLF (eLF p).1 (eLF p).2=p:=Prod.ext (dRow_sqL (sz:=4) (fun _=>rfl) p.1) rfl
def pLF(p:YF):Prop:=p.1.length<=100000
theorem iF_con(p:YF)(h:pLF p):Contract PG F_slices_IndexFunc_api_Item (eLF p).1 (eLF p).2 (.int .i64 (ixFrom (pF p.2) p.1 0)) (eLF p).2/\(eLF p).2.length<=(eLF p).2.length:=by
 obtain⟨N,hN⟩:∃ N,N=200000:=⟨_,rfl⟩
 refine conC (ak kCF_ok ank) (c:=3) (n:=N+1) (Nat.le_refl 3) ((iF_in N p).trans ?_)
 have:=idx_run (p:=pF p.2) (l:=p.1) (z:=default) (L:=fun m i=>LIF N m p.1.length (fun i=>p.1.getD i default) p.2 i) (A:=fun i=>some (.int .i64 i,(eLF p).2)) h
  (fun m i=>by rw[iF_st,gF_eq];rfl) p.1.length 0 N (by omega) (by unfold pLF at h;omega)
 rw[List.drop_zero]at this
 exact this
def kIF:Known:=.specG F_slices_IndexFunc_api_Item dLF pLF eLF (fun p=>(.int .i64 (ixFrom (pF p.2) p.1 0),(eLF p).2))
theorem kIF_ok:kIF.Ok PG:=Known.specG_ok iF_con
def SDF(n:Nat)(F:Nat->Itm)(y:List Txt × (Txt->Int))(i j:Int):St:={fr:=[(0,.sn 4 0 n),(1,fF),(5,.int .i64 i),(6,.int .i64 j)],hp:=.seq true 4 n (fun i=>encItem (F i))::hF y}
def LDF(N m n:Nat)(F:Nat->Itm)(y:List Txt × (Txt->Int))(i j:Int):Option (AV × Heap):=LP (eF [kIF,kCF]) N 3 F_slices_DeleteFunc_api_Item (cnK 3 3) 0 [] m (SDF n F y i j)
theorem dF_in(N:Nat)(p:YF):callC 3 (eF [kIF,kCF]) (N+1) F_slices_DeleteFunc_api_Item (eLF p).1 (eLF p).2=gCG dLF pLF eLF (eLF p).1 (eLF p).2 fun q=>
 bif decide (ixFrom (pF q.2) q.1 0 = -1)then some (.sn 4 0 p.1.length,(eLF q).2)
 else LP (eF [kIF,kCF]) N 3 F_slices_DeleteFunc_api_Item (cnK 3 3) 0 [] N {fr:=[(0,.sn 4 0 p.1.length),(1,fF),(5,.int .i64 (ixFrom (pF q.2) q.1 0)),(6,.int .i64 (IntKind.i64.wrap (ixFrom (pF q.2) q.1 0+1)))],hp:=(eLF q).2}:=by kernel_rfl
def AF(n:Nat)(y:List Txt × (Txt->Int))(F:Nat->Itm)(i:Nat):Option (AV × Heap):=
 bif Nat.blt 0 n then bif(n - i).beq 0 then some (.sn 4 0 i,.seq true 4 n (fun i=>encItem (F i))::hF y)
 else bif(i+(n - i)).ble n then some (.sn 4 0 i,.seq true 4 n (fun k=>bif k.blt i then encItem (F k)else bif k.blt (i+(n - i))then encItem default else encItem (F k))::hF y)else none
 else none
theorem dF_st(N m n:Nat)(F:Nat->Itm)(y:List Txt × (Txt->Int))(i j:Int):LDF N (m+1) n F y i j =
 bif decide (j<(n:Int))then rg j n (bif Nat.blt j.toNat n then gF (F j.toNat,y) (fun q=>bif !pF q.2 q.1 then rg i n (bif Nat.blt i.toNat n&&true then LP (eF [kIF,kCF]) N 3 F_slices_DeleteFunc_api_Item (cnK 3 3) 0 [] m
  {fr:=[(0,.sn 4 0 n),(1,fF),(5,.int .i64 (IntKind.i64.wrap (i+1))),(6,.int .i64 (IntKind.i64.wrap (j+1)))],hp:=.seq true 4 n (fun k=>bif k.beq i.toNat then encItem (F j.toNat)else encItem (F k))::hF y}else none)
  else LDF N m n F y i (IntKind.i64.wrap (j+1)))else none)
 else bif decide (0<=i)&&decide (i<=(n:Int))then bif Nat.blt 0 n then bif(n - i.toNat).beq 0 then bif decide (0<=i)&&decide (i<=(n:Int))then some (.sn 4 0 i.toNat,.seq true 4 n (fun i=>encItem (F i))::hF y)else none
  else bif(i.toNat+(n - i.toNat)).ble n then bif decide (0<=i)&&decide (i<=(n:Int))then some (.sn 4 0 i.toNat,.seq true 4 n (fun k=>bif k.blt i.toNat then encItem (F k)else bif k.blt (i.toNat+(n - i.toNat))then encItem default else encItem (F k))::hF y)else none else none
  else none else none:=by kernel_rfl
theorem dF_st'(N m n:Nat)(F:Nat->Itm)(y:List Txt × (Txt->Int))(i j:Int):LDF N (m+1) n F y i j =
 bif decide (j<(n:Int))then rg j n (bif Nat.blt j.toNat n then bif !pF y (F j.toNat)then rg i n (bif Nat.blt i.toNat n&&true then LDF N m n (setF F i.toNat (F j.toNat)) y (IntKind.i64.wrap (i+1)) (IntKind.i64.wrap (j+1))else none)else LDF N m n F y i (IntKind.i64.wrap (j+1))else none)
 else bif decide (0<=i)&&decide (i<=(n:Int))then AF n y F i.toNat else none:=by
 rw[dF_st,gF_eq,setF_enc encItem]
 unfold AF
 cases decide (0<=i)&&decide (i<=(n:Int)) <;> rfl
def oDF(p:YF):AV × Heap:=(.sn 4 0 (p.1.filter fun x=>!pF p.2 x).length,sqL 4 encItem default (p.1.filter fun x=>!pF p.2 x)::hF p.2)
theorem dF_con(p:YF)(h:pLF p):Contract PG F_slices_DeleteFunc_api_Item (eLF p).1 (eLF p).2 (oDF p).1 (oDF p).2/\(eLF p).2.length<=(oDF p).2.length:=by
 obtain⟨N,hN⟩:∃ N,N=200000:=⟨_,rfl⟩
 have hq:∀ {K:YF->Option (AV × Heap)},gCG dLF pLF eLF (eLF p).1 (eLF p).2 K=K p:=fun {K}=>gCG_eq p (dLF_eq p) h (.refl _) (.refl _)
 have e:=dF_in N p
 rw[hq]at e
 by_cases hi:ixFrom (pF p.2) p.1 0 = -1
 ·rw[decide_eq_true hi,cond_true]at e
  have c:=(conC (ak kIF_ok (ak kCF_ok ank)) (c:=3) (hp:=(eLF p).2) (Nat.le_refl 3) e)
  have hf:=filter_none ((ixFrom_none p.1 0).1 hi)
  refine⟨?_,Nat.le_refl _⟩
  unfold oDF
  rw[hf]
  exact c.1
 ·rw[decide_eq_false hi,cond_false]at e
  have hp:=h
  unfold pLF at hp
  obtain⟨G,g1,g2,g3,g4⟩:=del_all (p:=pF p.2) (z:=default) (L:=fun m F i j=>LDF N m p.1.length F p.2 i j) (A:=AF p.1.length p.2) (m:=N) hp (by omega) (fun m F i j=>dF_st' N m p.1.length F p.2 i j) hi
  have e2:=e.trans g1
  generalize hk:(p.1.filter fun x=>!pF p.2 x).length=k at *
  have hl:(sqL 4 encItem default (p.1.filter fun x=>!pF p.2 x))=.seq true 4 k fun i=>encItem ((p.1.filter fun x=>!pF p.2 x).getD i default):=by unfold sqL;rw[hk]
  unfold AF at e2
  rw[blt_true g2,cond_true]at e2
  refine⟨?_,Nat.le_refl _⟩
  unfold oDF
  rw[hl,hk]
  cases hz:(p.1.length - k).beq 0 with
  | true=>
   rw[hz,cond_true]at e2
   have c:=(conC (ak kIF_ok (ak kCF_ok ank)) (c:=3) (hp:=(eLF p).2) (Nat.le_refl 3) e2).1
   exact c.resub (.refl _) (.cons (.seq true 4 p.1.length k _ _ g3 fun i hi=>by rw[g4 i hi];exact .refl _) (.refl _))
  | false=>
   rw[hz,cond_false,ble_true (by omega),cond_true]at e2
   have c:=(conC (ak kIF_ok (ak kCF_ok ank)) (c:=3) (hp:=(eLF p).2) (Nat.le_refl 3) e2).1
   exact c.resub (.refl _) (.cons (.seq true 4 p.1.length k _ _ g3 fun i hi=>by rw[blt_true hi,cond_true,g4 i hi];exact .refl _) (.refl _))
def kDF:Known:=.specG F_slices_DeleteFunc_api_Item dLF pLF eLF oDF
theorem kDF_ok:kDF.Ok PG:=Known.specG_ok dF_con
def eT(l:List Known):Env:=envN [] [(F_slices_IndexFunc_api_Item,5),(F_slices_DeleteFunc_api_Item,5),(F_flush_Trim_c1,5)] [] l
def fT:AV:=.fn (.func F_flush_Trim_c1) [] [.ptr 1 0 0]
def hT(y:List Txt × (Txt->Int)):Heap:=[.arr true 1 [[.mp 2]],.pmap true y.1 fun k=>.int .i64 (y.2 k)]
def pT(y:List Txt × (Txt->Int))(x:Itm):Bool:=bif memS x.key y.1 then decide (y.2 x.key=0)else true
def tT{R:Type}(y:List Txt × (Txt->Int))(x:Itm)(k:Bool->Option R):Option R:=bif memS x.key y.1 then k (decide (y.2 x.key=0))else k true
theorem tT_eq{R:Type}(y:List Txt × (Txt->Int))(x:Itm)(k:Bool->Option R):tT y x k=k (pT y x):=by
 unfold tT pT
 first | rfl | (cases memS x.key y.1 <;> rfl)
def xCT:List AV->Heap->Itm × List Txt × (Txt->Int):=fun a h=>(decItem (argC a 0),dMap (hget h 1))
def yCT(q:Itm × List Txt × (Txt->Int)):List AV × Heap:=([.agg (encItem q.1),.ptr 0 0 0],[.arr true 1 [[.mp 1]],.pmap true q.2.1 fun k=>.int .i64 (q.2.2 k)])
theorem cT_eq(q:Itm × List Txt × (Txt->Int)):callC 2 (eT []) 9 F_flush_Trim_c1 (yCT q).1 (yCT q).2=tT q.2 q.1 fun b=>some (.bool b,(yCT q).2):=by kernel_rfl
def kCT:Known:=.specG F_flush_Trim_c1 xCT (fun _=>True) yCT (fun q=>(.bool (pT q.2 q.1),(yCT q).2))
theorem kCT_ok:kCT.Ok PG:=Known.specG_ok fun q _=>conC (fun k hk=>by cases hk) (c:=2) (n:=9) (Nat.le_refl 2) ((cT_eq q).trans (tT_eq _ _ _))
theorem xCT_eq(q:Itm × List Txt × (Txt->Int)):xCT (yCT q).1 (yCT q).2=q:=rfl
def gT{R:Type}(q:Itm × List Txt × (Txt->Int))(k:Itm × List Txt × (Txt->Int)->Option R):Option R:=gCG xCT (fun _=>True) yCT (yCT q).1 (yCT q).2 k
theorem gT_eq{R:Type}(q:Itm × List Txt × (Txt->Int))(k:Itm × List Txt × (Txt->Int)->Option R):gT q k=k q:=gCG_eq q (xCT_eq q) trivial (.refl _) (.refl _)
def SIT(n:Nat)(F:Nat->Itm)(y:List Txt × (Txt->Int))(i:Int):St:={fr:=[(0,.sn 4 0 n),(1,fT),(7,.int .i64 n),(8,.int .i64 i)],hp:=.seq true 4 n (fun i=>encItem (F i))::hT y}
def LIT(N m n:Nat)(F:Nat->Itm)(y:List Txt × (Txt->Int))(i:Int):Option (AV × Heap):=LP (eT [kCT]) N 3 F_slices_IndexFunc_api_Item (cnK 3 3) 0 [] m (SIT n F y i)
abbrev YT:=List Itm × List Txt × (Txt->Int)
def eLT(p:YT):List AV × Heap:=([.sn 4 0 p.1.length,fT],sqL 4 encItem default p.1::hT p.2)
theorem iT_in(N:Nat)(p:YT):callC 3 (eT [kCT]) (N+1) F_slices_IndexFunc_api_Item (eLT p).1 (eLT p).2=LIT N N p.1.length (fun i=>p.1.getD i default) p.2 0:=by kernel_rfl
theorem iT_st(N m n:Nat)(F:Nat->Itm)(y:List Txt × (Txt->Int))(i:Int):LIT N (m+1) n F y i=bif decide (i<(n:Int))then rg i n (bif Nat.blt i.toNat n then gT (F i.toNat,y) (fun q=>bif pT q.2 q.1 then some (.int .i64 i,.seq true 4 n (fun i=>encItem (F i))::hT y)else LIT N m n F y (IntKind.i64.wrap (i+1)))else none)else some (.int .i64 (-1),.seq true 4 n (fun i=>encItem (F i))::hT y):=by kernel_rfl
def dLT(_:List AV)(h:Heap):YT:=(dRow decItem (hget h 0),dMap (hget h 2))
theorem dLT_eq(p:YT):dLT (eLT p).1 (eLT p).2=p:=Prod.ext (dRow_sqL (sz:=4) (fun _=>rfl) p.1) rfl
def pLT(p:YT):Prop:=p.1.length<=100000
theorem iT_con(p:YT)(h:pLT p):Contract PG F_slices_IndexFunc_api_Item (eLT p).1 (eLT p).2 (.int .i64 (ixFrom (pT p.2) p.1 0)) (eLT p).2/\(eLT p).2.length<=(eLT p).2.length:=by
 obtain⟨N,hN⟩:∃ N,N=200000:=⟨_,rfl⟩
 refine conC (ak kCT_ok ank) (c:=3) (n:=N+1) (Nat.le_refl 3) ((iT_in N p).trans ?_)
 have:=idx_run (p:=pT p.2) (l:=p.1) (z:=default) (L:=fun m i=>LIT N m p.1.length (fun i=>p.1.getD i default) p.2 i) (A:=fun i=>some (.int .i64 i,(eLT p).2)) h
  (fun m i=>by rw[iT_st,gT_eq];rfl) p.1.length 0 N (by omega) (by unfold pLT at h;omega)
 rw[List.drop_zero]at this
 exact this
def kIT:Known:=.specG F_slices_IndexFunc_api_Item dLT pLT eLT (fun p=>(.int .i64 (ixFrom (pT p.2) p.1 0),(eLT p).2))
theorem kIT_ok:kIT.Ok PG:=Known.specG_ok iT_con
def SDT(n:Nat)(F:Nat->Itm)(y:List Txt × (Txt->Int))(i j:Int):St:={fr:=[(0,.sn 4 0 n),(1,fT),(5,.int .i64 i),(6,.int .i64 j)],hp:=.seq true 4 n (fun i=>encItem (F i))::hT y}
def LDT(N m n:Nat)(F:Nat->Itm)(y:List Txt × (Txt->Int))(i j:Int):Option (AV × Heap):=LP (eT [kIT,kCT]) N 3 F_slices_DeleteFunc_api_Item (cnK 3 3) 0 [] m (SDT n F y i j)
theorem dT_in(N:Nat)(p:YT):callC 3 (eT [kIT,kCT]) (N+1) F_slices_DeleteFunc_api_Item (eLT p).1 (eLT p).2=gCG dLT pLT eLT (eLT p).1 (eLT p).2 fun q=>
 bif decide (ixFrom (pT q.2) q.1 0 = -1)then some (.sn 4 0 p.1.length,(eLT q).2)
 else LP (eT [kIT,kCT]) N 3 F_slices_DeleteFunc_api_Item (cnK 3 3) 0 [] N {fr:=[(0,.sn 4 0 p.1.length),(1,fT),(5,.int .i64 (ixFrom (pT q.2) q.1 0)),(6,.int .i64 (IntKind.i64.wrap (ixFrom (pT q.2) q.1 0+1)))],hp:=(eLT q).2}:=by kernel_rfl
def AT(n:Nat)(y:List Txt × (Txt->Int))(F:Nat->Itm)(i:Nat):Option (AV × Heap):=
 bif Nat.blt 0 n then bif(n - i).beq 0 then some (.sn 4 0 i,.seq true 4 n (fun i=>encItem (F i))::hT y)
 else bif(i+(n - i)).ble n then some (.sn 4 0 i,.seq true 4 n (fun k=>bif k.blt i then encItem (F k)else bif k.blt (i+(n - i))then encItem default else encItem (F k))::hT y)else none
 else none
theorem dT_st(N m n:Nat)(F:Nat->Itm)(y:List Txt × (Txt->Int))(i j:Int):LDT N (m+1) n F y i j =
 bif decide (j<(n:Int))then rg j n (bif Nat.blt j.toNat n then gT (F j.toNat,y) (fun q=>bif !pT q.2 q.1 then rg i n (bif Nat.blt i.toNat n&&true then LP (eT [kIT,kCT]) N 3 F_slices_DeleteFunc_api_Item (cnK 3 3) 0 [] m
  {fr:=[(0,.sn 4 0 n),(1,fT),(5,.int .i64 (IntKind.i64.wrap (i+1))),(6,.int .i64 (IntKind.i64.wrap (j+1)))],hp:=.seq true 4 n (fun k=>bif k.beq i.toNat then encItem (F j.toNat)else encItem (F k))::hT y}else none)
  else LDT N m n F y i (IntKind.i64.wrap (j+1)))else none)
 else bif decide (0<=i)&&decide (i<=(n:Int))then bif Nat.blt 0 n then bif(n - i.toNat).beq 0 then bif decide (0<=i)&&decide (i<=(n:Int))then some (.sn 4 0 i.toNat,.seq true 4 n (fun i=>encItem (F i))::hT y)else none
  else bif(i.toNat+(n - i.toNat)).ble n then bif decide (0<=i)&&decide (i<=(n:Int))then some (.sn 4 0 i.toNat,.seq true 4 n (fun k=>bif k.blt i.toNat then encItem (F k)else bif k.blt (i.toNat+(n - i.toNat))then encItem default else encItem (F k))::hT y)else none else none
  else none else none:=by kernel_rfl
theorem dT_st'(N m n:Nat)(F:Nat->Itm)(y:List Txt × (Txt->Int))(i j:Int):LDT N (m+1) n F y i j =
 bif decide (j<(n:Int))then rg j n (bif Nat.blt j.toNat n then bif !pT y (F j.toNat)then rg i n (bif Nat.blt i.toNat n&&true then LDT N m n (setF F i.toNat (F j.toNat)) y (IntKind.i64.wrap (i+1)) (IntKind.i64.wrap (j+1))else none)else LDT N m n F y i (IntKind.i64.wrap (j+1))else none)
 else bif decide (0<=i)&&decide (i<=(n:Int))then AT n y F i.toNat else none:=by
 rw[dT_st,gT_eq,setF_enc encItem]
 unfold AT
 cases decide (0<=i)&&decide (i<=(n:Int)) <;> rfl
def oDT(p:YT):AV × Heap:=(.sn 4 0 (p.1.filter fun x=>!pT p.2 x).length,sqL 4 encItem default (p.1.filter fun x=>!pT p.2 x)::hT p.2)
theorem dT_con(p:YT)(h:pLT p):Contract PG F_slices_DeleteFunc_api_Item (eLT p).1 (eLT p).2 (oDT p).1 (oDT p).2/\(eLT p).2.length<=(oDT p).2.length:=by
 obtain⟨N,hN⟩:∃ N,N=200000:=⟨_,rfl⟩
 have hq:∀ {K:YT->Option (AV × Heap)},gCG dLT pLT eLT (eLT p).1 (eLT p).2 K=K p:=fun {K}=>gCG_eq p (dLT_eq p) h (.refl _) (.refl _)
 have e:=dT_in N p
 rw[hq]at e
 by_cases hi:ixFrom (pT p.2) p.1 0 = -1
 ·rw[decide_eq_true hi,cond_true]at e
  have c:=(conC (ak kIT_ok (ak kCT_ok ank)) (c:=3) (hp:=(eLT p).2) (Nat.le_refl 3) e)
  have hf:=filter_none ((ixFrom_none p.1 0).1 hi)
  refine⟨?_,Nat.le_refl _⟩
  unfold oDT
  rw[hf]
  exact c.1
 ·rw[decide_eq_false hi,cond_false]at e
  have hp:=h
  unfold pLT at hp
  obtain⟨G,g1,g2,g3,g4⟩:=del_all (p:=pT p.2) (z:=default) (L:=fun m F i j=>LDT N m p.1.length F p.2 i j) (A:=AT p.1.length p.2) (m:=N) hp (by omega) (fun m F i j=>dT_st' N m p.1.length F p.2 i j) hi
  have e2:=e.trans g1
  generalize hk:(p.1.filter fun x=>!pT p.2 x).length=k at *
  have hl:(sqL 4 encItem default (p.1.filter fun x=>!pT p.2 x))=.seq true 4 k fun i=>encItem ((p.1.filter fun x=>!pT p.2 x).getD i default):=by unfold sqL;rw[hk]
  unfold AT at e2
  rw[blt_true g2,cond_true]at e2
  refine⟨?_,Nat.le_refl _⟩
  unfold oDT
  rw[hl,hk]
  cases hz:(p.1.length - k).beq 0 with
  | true=>
   rw[hz,cond_true]at e2
   have c:=(conC (ak kIT_ok (ak kCT_ok ank)) (c:=3) (hp:=(eLT p).2) (Nat.le_refl 3) e2).1
   exact c.resub (.refl _) (.cons (.seq true 4 p.1.length k _ _ g3 fun i hi=>by rw[g4 i hi];exact .refl _) (.refl _))
  | false=>
   rw[hz,cond_false,ble_true (by omega),cond_true]at e2
   have c:=(conC (ak kIT_ok (ak kCT_ok ank)) (c:=3) (hp:=(eLT p).2) (Nat.le_refl 3) e2).1
   exact c.resub (.refl _) (.cons (.seq true 4 p.1.length k _ _ g3 fun i hi=>by rw[blt_true hi,cond_true,g4 i hi];exact .refl _) (.refl _))
def kDT:Known:=.specG F_slices_DeleteFunc_api_Item dLT pLT eLT oDT
theorem kDT_ok:kDT.Ok PG:=Known.specG_ok dT_con
def eW(l:List Known):Env:=envN [] [(F_slices_IndexFunc_api_Wait,5),(F_slices_DeleteFunc_api_Wait,5),(F_head_work_wait_c1,0)] [] l
def fW:AV:=.fn (.func F_head_work_wait_c1) [] [.ptr 1 0 0]
def hW(y:Msg):Heap:=[.arr true 31 [encMsg y]]
def pW(y:Msg)(x:Wait):Bool:=decide (x.sess=y.sess)
def xCW:List AV->Wait × Msg:=fun a=>(decWait (argC a 0),decMsg (dTpC a))
def yCW(q:Wait × Msg):List AV:=[.agg (encWait q.1),.tp (encMsg q.2) 0]
theorem cW_eq(q:Wait × Msg):callT (eW []) 9 F_head_work_wait_c1 (yCW q)=some (.bool (pW q.2 q.1)):=by kernel_rfl
def kCW:Known:=.spec F_head_work_wait_c1 xCW (fun _=>True) yCW (fun q=>.bool (pW q.2 q.1))
theorem kCW_ok:kCW.Ok PG:=Known.spec_ok fun q _=>conN (fun k hk=>by cases hk) (cW_eq q)
theorem xCW_eq(q:Wait × Msg):xCW (yCW q)=q:=Prod.ext rfl (dec_encMsg q.2)
def gW{R:Type}(q:Wait × Msg)(k:Wait × Msg->Option R):Option R:=gC xCW (fun _=>True) yCW (yCW q) k
theorem gW_eq{R:Type}(q:Wait × Msg)(k:Wait × Msg->Option R):gW q k=k q:=gC_eq q (xCW_eq q) trivial (.refl _)
def SIW(n:Nat)(F:Nat->Wait)(y:Msg)(i:Int):St:={fr:=[(0,.sn 4 0 n),(1,fW),(7,.int .i64 n),(8,.int .i64 i)],hp:=.seq true 4 n (fun i=>encWait (F i))::hW y}
def LIW(N m n:Nat)(F:Nat->Wait)(y:Msg)(i:Int):Option (AV × Heap):=LP (eW [kCW]) N 2 F_slices_IndexFunc_api_Wait (cnK 2 2) 0 [] m (SIW n F y i)
abbrev YW:=List Wait × Msg
def eLW(p:YW):List AV × Heap:=([.sn 4 0 p.1.length,fW],sqL 4 encWait default p.1::hW p.2)
theorem iW_in(N:Nat)(p:YW):callC 2 (eW [kCW]) (N+1) F_slices_IndexFunc_api_Wait (eLW p).1 (eLW p).2=LIW N N p.1.length (fun i=>p.1.getD i default) p.2 0:=by kernel_rfl
theorem iW_st(N m n:Nat)(F:Nat->Wait)(y:Msg)(i:Int):LIW N (m+1) n F y i=bif decide (i<(n:Int))then rg i n (bif Nat.blt i.toNat n then gW (F i.toNat,y) (fun q=>bif pW q.2 q.1 then some (.int .i64 i,.seq true 4 n (fun i=>encWait (F i))::hW y)else LIW N m n F y (IntKind.i64.wrap (i+1)))else none)else some (.int .i64 (-1),.seq true 4 n (fun i=>encWait (F i))::hW y):=by kernel_rfl
def dLW(_:List AV)(h:Heap):YW:=(dRow decWait (hget h 0),decMsg (dCells (hget h 1)))
theorem dLW_eq(p:YW):dLW (eLW p).1 (eLW p).2=p:=Prod.ext (dRow_sqL (sz:=4) (fun _=>rfl) p.1) (dec_encMsg p.2)
def pLW(p:YW):Prop:=p.1.length<=100000
theorem iW_con(p:YW)(h:pLW p):Contract PG F_slices_IndexFunc_api_Wait (eLW p).1 (eLW p).2 (.int .i64 (ixFrom (pW p.2) p.1 0)) (eLW p).2/\(eLW p).2.length<=(eLW p).2.length:=by
 obtain⟨N,hN⟩:∃ N,N=200000:=⟨_,rfl⟩
 refine conC (ak kCW_ok ank) (c:=2) (n:=N+1) (Nat.le_refl 2) ((iW_in N p).trans ?_)
 have:=idx_run (p:=pW p.2) (l:=p.1) (z:=default) (L:=fun m i=>LIW N m p.1.length (fun i=>p.1.getD i default) p.2 i) (A:=fun i=>some (.int .i64 i,(eLW p).2)) h
  (fun m i=>by rw[iW_st,gW_eq];rfl) p.1.length 0 N (by omega) (by unfold pLW at h;omega)
 rw[List.drop_zero]at this
 exact this
def kIW:Known:=.specG F_slices_IndexFunc_api_Wait dLW pLW eLW (fun p=>(.int .i64 (ixFrom (pW p.2) p.1 0),(eLW p).2))
theorem kIW_ok:kIW.Ok PG:=Known.specG_ok iW_con
def SDW(n:Nat)(F:Nat->Wait)(y:Msg)(i j:Int):St:={fr:=[(0,.sn 4 0 n),(1,fW),(5,.int .i64 i),(6,.int .i64 j)],hp:=.seq true 4 n (fun i=>encWait (F i))::hW y}
def LDW(N m n:Nat)(F:Nat->Wait)(y:Msg)(i j:Int):Option (AV × Heap):=LP (eW [kIW,kCW]) N 2 F_slices_DeleteFunc_api_Wait (cnK 2 2) 0 [] m (SDW n F y i j)
theorem dW_in(N:Nat)(p:YW):callC 2 (eW [kIW,kCW]) (N+1) F_slices_DeleteFunc_api_Wait (eLW p).1 (eLW p).2=gCG dLW pLW eLW (eLW p).1 (eLW p).2 fun q=>
 bif decide (ixFrom (pW q.2) q.1 0 = -1)then some (.sn 4 0 p.1.length,(eLW q).2)
 else LP (eW [kIW,kCW]) N 2 F_slices_DeleteFunc_api_Wait (cnK 2 2) 0 [] N {fr:=[(0,.sn 4 0 p.1.length),(1,fW),(5,.int .i64 (ixFrom (pW q.2) q.1 0)),(6,.int .i64 (IntKind.i64.wrap (ixFrom (pW q.2) q.1 0+1)))],hp:=(eLW q).2}:=by kernel_rfl
def AW(n:Nat)(y:Msg)(F:Nat->Wait)(i:Nat):Option (AV × Heap):=
 bif Nat.blt 0 n then bif(n - i).beq 0 then some (.sn 4 0 i,.seq true 4 n (fun i=>encWait (F i))::hW y)
 else bif(i+(n - i)).ble n then some (.sn 4 0 i,.seq true 4 n (fun k=>bif k.blt i then encWait (F k)else bif k.blt (i+(n - i))then encWait default else encWait (F k))::hW y)else none
 else none
theorem dW_st(N m n:Nat)(F:Nat->Wait)(y:Msg)(i j:Int):LDW N (m+1) n F y i j =
 bif decide (j<(n:Int))then rg j n (bif Nat.blt j.toNat n then gW (F j.toNat,y) (fun q=>bif !pW q.2 q.1 then rg i n (bif Nat.blt i.toNat n&&true then LP (eW [kIW,kCW]) N 2 F_slices_DeleteFunc_api_Wait (cnK 2 2) 0 [] m
  {fr:=[(0,.sn 4 0 n),(1,fW),(5,.int .i64 (IntKind.i64.wrap (i+1))),(6,.int .i64 (IntKind.i64.wrap (j+1)))],hp:=.seq true 4 n (fun k=>bif k.beq i.toNat then encWait (F j.toNat)else encWait (F k))::hW y}else none)
  else LDW N m n F y i (IntKind.i64.wrap (j+1)))else none)
 else bif decide (0<=i)&&decide (i<=(n:Int))then bif Nat.blt 0 n then bif(n - i.toNat).beq 0 then bif decide (0<=i)&&decide (i<=(n:Int))then some (.sn 4 0 i.toNat,.seq true 4 n (fun i=>encWait (F i))::hW y)else none
  else bif(i.toNat+(n - i.toNat)).ble n then bif decide (0<=i)&&decide (i<=(n:Int))then some (.sn 4 0 i.toNat,.seq true 4 n (fun k=>bif k.blt i.toNat then encWait (F k)else bif k.blt (i.toNat+(n - i.toNat))then encWait default else encWait (F k))::hW y)else none else none
  else none else none:=by kernel_rfl
theorem dW_st'(N m n:Nat)(F:Nat->Wait)(y:Msg)(i j:Int):LDW N (m+1) n F y i j =
 bif decide (j<(n:Int))then rg j n (bif Nat.blt j.toNat n then bif !pW y (F j.toNat)then rg i n (bif Nat.blt i.toNat n&&true then LDW N m n (setF F i.toNat (F j.toNat)) y (IntKind.i64.wrap (i+1)) (IntKind.i64.wrap (j+1))else none)else LDW N m n F y i (IntKind.i64.wrap (j+1))else none)
 else bif decide (0<=i)&&decide (i<=(n:Int))then AW n y F i.toNat else none:=by
 rw[dW_st,gW_eq,setF_enc encWait]
 unfold AW
 cases decide (0<=i)&&decide (i<=(n:Int)) <;> rfl
def oDW(p:YW):AV × Heap:=(.sn 4 0 (p.1.filter fun x=>!pW p.2 x).length,sqL 4 encWait default (p.1.filter fun x=>!pW p.2 x)::hW p.2)
theorem dW_con(p:YW)(h:pLW p):Contract PG F_slices_DeleteFunc_api_Wait (eLW p).1 (eLW p).2 (oDW p).1 (oDW p).2/\(eLW p).2.length<=(oDW p).2.length:=by
 obtain⟨N,hN⟩:∃ N,N=200000:=⟨_,rfl⟩
 have hq:∀ {K:YW->Option (AV × Heap)},gCG dLW pLW eLW (eLW p).1 (eLW p).2 K=K p:=fun {K}=>gCG_eq p (dLW_eq p) h (.refl _) (.refl _)
 have e:=dW_in N p
 rw[hq]at e
 by_cases hi:ixFrom (pW p.2) p.1 0 = -1
 ·rw[decide_eq_true hi,cond_true]at e
  have c:=(conC (ak kIW_ok (ak kCW_ok ank)) (c:=2) (hp:=(eLW p).2) (Nat.le_refl 2) e)
  have hf:=filter_none ((ixFrom_none p.1 0).1 hi)
  refine⟨?_,Nat.le_refl _⟩
  unfold oDW
  rw[hf]
  exact c.1
 ·rw[decide_eq_false hi,cond_false]at e
  have hp:=h
  unfold pLW at hp
  obtain⟨G,g1,g2,g3,g4⟩:=del_all (p:=pW p.2) (z:=default) (L:=fun m F i j=>LDW N m p.1.length F p.2 i j) (A:=AW p.1.length p.2) (m:=N) hp (by omega) (fun m F i j=>dW_st' N m p.1.length F p.2 i j) hi
  have e2:=e.trans g1
  generalize hk:(p.1.filter fun x=>!pW p.2 x).length=k at *
  have hl:(sqL 4 encWait default (p.1.filter fun x=>!pW p.2 x))=.seq true 4 k fun i=>encWait ((p.1.filter fun x=>!pW p.2 x).getD i default):=by unfold sqL;rw[hk]
  unfold AW at e2
  rw[blt_true g2,cond_true]at e2
  refine⟨?_,Nat.le_refl _⟩
  unfold oDW
  rw[hl,hk]
  cases hz:(p.1.length - k).beq 0 with
  | true=>
   rw[hz,cond_true]at e2
   have c:=(conC (ak kIW_ok (ak kCW_ok ank)) (c:=2) (hp:=(eLW p).2) (Nat.le_refl 2) e2).1
   exact c.resub (.refl _) (.cons (.seq true 4 p.1.length k _ _ g3 fun i hi=>by rw[g4 i hi];exact .refl _) (.refl _))
  | false=>
   rw[hz,cond_false,ble_true (by omega),cond_true]at e2
   have c:=(conC (ak kIW_ok (ak kCW_ok ank)) (c:=2) (hp:=(eLW p).2) (Nat.le_refl 2) e2).1
   exact c.resub (.refl _) (.cons (.seq true 4 p.1.length k _ _ g3 fun i hi=>by rw[blt_true hi,cond_true,g4 i hi];exact .refl _) (.refl _))
def kDW:Known:=.specG F_slices_DeleteFunc_api_Wait dLW pLW eLW oDW
theorem kDW_ok:kDW.Ok PG:=Known.specG_ok dW_con
theorem appN_fun{X:Type}(e:X->List AV)(z:X)(l k:List X):appN l.length (fun i=>e (l.getD i z)) (View.fn k.length fun i=>e (k.getD i z))=fun i=>e ((l++k).getD i z):=appF_enc e z l k
theorem appN_one{X:Type}(e:X->List AV)(z:X)(l:List X)(x:X):appN l.length (fun i=>e (l.getD i z)) (View.list [e x])=fun i=>e ((l++[x]).getD i z):=appF_lit e z l [x]
theorem sqL_one{X:Type}(sz:Nat)(e:X->List AV)(z:X)(l:List X)(x:X):BS.seq true sz (l.length+1) (appN l.length (fun i=>e (l.getD i z)) (View.list [e x]))=sqL sz e z (l++[x]):=by
 unfold sqL;rw[appN_one,List.length_append];rfl
def eL6(l:List Known):Env:=envN [] [(F_slices_Clone_api_Item,1),(F_slices_DeleteFunc_api_Item,5),(F_slices_IndexFunc_api_Item,0),(F_lru_Out,1),(F_lru_Size,0),(F_lru_size,0)] [] l
theorem out_eq(l:List Itm)(key:Txt):callC 0 (eL6 [kCloB F_slices_Clone_api_Item 4,kDO]) 9 F_lru_Out [encItems l,AV.str key] [] =
 gC (dTr) (pTr) (eTr 4) ([AV.tr 4 l.length fun i=>encItem (l.getD i default)]) fun y0=>
 gCG (dLO) (pLO) (eLO) ([AV.sn 4 0 y0.fst,AV.fn (Fn.func 153) [] [AV.ptr 1 0 0]]) ([BS.seq true 4 y0.fst y0.snd,BS.arr true 1 [[AV.str key]]]) fun y1=>
 some ((AV.sn 4 0 (List.filter (fun x=>!pO y1.snd x) y1.fst).length,[BS.seq true 4 (List.filter (fun x=>!pO y1.snd x) y1.fst).length fun i=>encItem ((List.filter (fun x=>!pO y1.snd x) y1.fst).getD i default)])):=by kernel_rfl
def outP(l:List Itm)(key:Txt):List Itm:=l.filter fun x=>!strBeq x.key key
def eOut(p:YO):List AV:=[encItems p.1,.str p.2]
def dOut(a:List AV):YO:=(decL decItem (a.getD 0 .nils),getS a 1)
theorem dOut_eq(p:YO):dOut (eOut p)=p:=Prod.ext (decItems p.1) rfl
theorem kCloI_ok:(kCloB F_slices_Clone_api_Item 4).Ok PG:=kCloB_ok cloN_Item
theorem kCloIT_ok:(kCloT F_slices_Clone_api_Item 4).Ok PG:=kCloT_ok cloN_Item
theorem out_con(p:YO)(h:pLO p):Contract PG F_lru_Out (eOut p) [] (.sn 4 0 (outP p.1 p.2).length) [sqL 4 encItem default (outP p.1 p.2)]:=by
 refine conB (ak kCloI_ok (ak kDO_ok ank)) ((out_eq p.1 p.2).trans ?_)
 rw[qTr h]
 exact gCG_eq (p.1,p.2) (dLO_eq (p.1,p.2)) h (.refl _) (.refl _)
def kOut:Known:=.specB F_lru_Out dOut pLO eOut (fun p=>(.sn 4 0 (outP p.1 p.2).length,[sqL 4 encItem default (outP p.1 p.2)]))
theorem kOut_ok:kOut.Ok PG:=Known.specB_ok out_con
theorem qOut{R:Type}{l:List Itm}{key:Txt}{k:YO->Option R}(h:l.length<=100000):gC dOut pLO eOut [.tr 4 l.length fun i=>encItem (l.getD i default),.str key] k=k (l,key):=gC_eq (l,key) (dOut_eq (l,key)) h (.refl _)
def kOutT:Known:=.spec F_lru_Out dOut pLO eOut (fun p=>encItems (outP p.1 p.2))
theorem snL{X:Type}(sz:Nat)(e:X->List AV)(z:X)(l:List X):snK (.sn sz 0 l.length) [sqL sz e z l]=some (encL sz e z l):=by
 show(bif Nat.ble l.length l.length then some (encL sz e z l)else none)=_
 rw[ble_true (Nat.le_refl _)];rfl
theorem kOutT_ok:kOutT.Ok PG:=Known.spec_ok fun p h=>(out_con p h).snapped (snL _ _ _ _)
theorem size_eq(x:Itm):callT (eL6 []) 9 F_lru_size [AV.agg (encItem x)] =
 some (AV.int IntKind.i64 (IntKind.i64.wrap (IntKind.i64.wrap ((↑x.key.length:Int)+(↑x.val.length:Int))+1))):=by kernel_rfl
def szI(x:Itm):Nat:=x.key.length+x.val.length+1
def ItmOk(x:Itm):Prop:=x.key.length<=2000/\x.val.length<=2000
theorem w64{n:Nat}(h:n<=1000000000):IntKind.i64.wrap (n:Int)=n:=wrap64 (by omega)
theorem w64a{a b:Nat}(h:a+b<=1000000000):IntKind.i64.wrap ((a:Int)+(b:Int))=((a+b:Nat):Int):=by rw[show(a:Int)+(b:Int)=((a+b:Nat):Int) by omega];exact w64 h
theorem size_con(x:Itm)(h:ItmOk x):Contract PG F_lru_size [.agg (encItem x)] [] (.int .i64 (szI x)) []:=by
 have:=h.1;have:=h.2
 refine conN (fun k hk=>by cases hk) ((size_eq x).trans ?_)
 rw[w64a (by omega),show((x.key.length+x.val.length:Nat):Int)+1=((x.key.length+x.val.length+1:Nat):Int) by omega,w64 (by omega)];rfl
def kSz1:Known:=.spec F_lru_size (fun a=>decItem (argC a 0)) ItmOk (fun x=>[.agg (encItem x)]) (fun x=>.int .i64 (szI x))
theorem kSz1_ok:kSz1.Ok PG:=Known.spec_ok size_con
def gSz1{R:Type}(x:Itm)(k:Itm->Option R):Option R:=gC (fun a=>decItem (argC a 0)) ItmOk (fun x=>[.agg (encItem x)]) [.agg (encItem x)] k
theorem gSz1_eq{R:Type}{x:Itm}{k:Itm->Option R}(h:ItmOk x):gSz1 x k=k x:=gC_eq x rfl h (.refl _)
def SSz(l:List Itm)(s i:Int):St:={fr:=[(3,.int .i64 s),(6,encItems l),(7,.int .i64 l.length),(8,.int .i64 i)],hp:=[]}
def LSz(N m:Nat)(l:List Itm)(s i:Int):Option AV:=LP (eL6 [kSz1]) N 0 F_lru_Size snK 0 [] m (SSz l s i)
theorem Size_in(N:Nat)(l:List Itm):callT (eL6 [kSz1]) (N+1) F_lru_Size [encItems l]=LSz N N l 0 0:=by kernel_rfl
theorem Size_st(N m:Nat)(l:List Itm)(s i:Int):LSz N (m+1) l s i=bif decide (i<(l.length:Int))then rg i l.length (gSz1 (l.getD i.toNat default) fun y=>LSz N m l (IntKind.i64.wrap (s+szI y)) (IntKind.i64.wrap (i+1)))else some (.int .i64 s):=by kernel_rfl
def szL(l:List Itm):Nat:=(l.map szI).sum
theorem szL_app(a b:List Itm):szL (a++b)=szL a+szL b:=by simp[szL]
theorem szL_le{l:List Itm}(h:∀ x ∈ l,ItmOk x):szL l<=4001*l.length:=by
 induction l with
 | nil=>simp[szL]
 | cons x r ih=>
  have:=ih fun y hy=>h y (by simp[hy])
  have h1:=h x (by simp)
  have h2:szI x<=4001:=by unfold szI;have:=h1.1;have:=h1.2;omega
  have:szL (x::r)=szI x+szL r:=by simp[szL]
  rw[this,List.length_cons];omega
def ItmsOk(l:List Itm):Prop:=l.length<=100000 /\ ∀ x ∈ l,ItmOk x
theorem getI_ok{l:List Itm}(h:ItmsOk l){i:Nat}(hi:i<l.length):ItmOk (l.getD i default):=h.2 _ (getD_mem hi)
theorem szL_take{l:List Itm}{i:Nat}(h:i<l.length):szL (l.take (i+1))=szL (l.take i)+szI (l.getD i default):=by
 rw[List.take_add_one,szL_app,List.getElem?_eq_getElem h]
 simp[szL,List.getD,List.getElem?_eq_getElem h]
theorem Size_con(l:List Itm)(h:ItmsOk l):Contract PG F_lru_Size [encItems l] [] (.int .i64 (szL l)) []:=by
 obtain⟨N,hN⟩:∃ N,N=200000:=⟨_,rfl⟩
 have hl:=h.1
 refine conN (ak kSz1_ok ank) ((Size_in N l).trans ?_)
 have:=up_loop (n:=l.length) (fun i m=>LSz N m l (szL (l.take i):Nat) (i:Nat)=some (.int .i64 (szL l:Nat))) (fun m=>?_) (fun i m hi ih=>?_) 0 N (Nat.zero_le _) (by omega)
 ·simpa [szL] using this
 ·rw[Size_st,decide_eq_false (by omega),cond_false,List.take_of_length_le (Nat.le_refl _)]
 ·have hb:=szL_le (l:=l.take (i+1)) fun x hx=>h.2 x (List.mem_of_mem_take hx)
  rw[List.length_take]at hb
  have e:=szL_take hi
  rw[Size_st,decide_eq_true (by omega),cond_true,rg_eq hi,Int.toNat_natCast,gSz1_eq (getI_ok h hi),w64a (by omega),wrapS (by omega),<- e]
  exact ih
def kSz:Known:=.spec F_lru_Size (fun a=>decL decItem (a.getD 0 .nils)) ItmsOk (fun l=>[encItems l]) (fun l=>.int .i64 (szL l))
theorem kSz_ok:kSz.Ok PG:=Known.spec_ok Size_con
theorem qSz{R:Type}{l:List Itm}{k:List Itm->Option R}(h:ItmsOk l):gC (fun a=>decL decItem (a.getD 0 .nils)) ItmsOk (fun l=>[encItems l]) [encItems l] k=k l:=gC_eq l (decItems l) h (.refl _)
abbrev LX:=List Itm × Itm × Int
def ePut(p:LX):List AV:=[encItems p.1,.agg (encItem p.2.1),.int .i64 p.2.2]
def kn7:List Known:=[kSz1,kOut,kSz,kCloT F_slices_Clone_api_Item 4]
theorem kn7_ok:∀ k ∈ kn7,k.Ok PG:=ak kSz1_ok (ak kOut_ok (ak kSz_ok (ak kCloIT_ok ank)))
def SPu(l:List Itm)(room s g:Int):St:={fr:=[(2,.int .i64 room),(7,.sn 4 0 l.length),(8,.int .i64 s),(9,.int .i64 g)],hp:=[sqL 4 encItem default l]}
theorem Put_in(N:Nat)(p:LX):callT (eL6 kn7) (N+1) F_lru_Put (ePut p) =
 gC (dOut) (pLO) (eOut) ([AV.tr 4 p.fst.length fun i=>encItem (p.fst.getD i default),AV.str p.snd.fst.key]) fun y0=>
 bif(outP y0.fst y0.snd).length.ble (outP y0.fst y0.snd).length then
  bif(((outP y0.fst y0.snd).length+1)*56).ble 140737488355328&&((outP y0.fst y0.snd).length+1).ble 140737488355328 then
   bif((outP y0.fst y0.snd).length+1).ble ((outP y0.fst y0.snd).length+1)&&true then
    gC (fun a=>decL decItem (a.getD 0 AV.nils)) (ItmsOk) (fun l=>[encItems l]) ([AV.tr 4 ((outP y0.fst y0.snd).length+1) (appN (outP y0.fst y0.snd).length (fun i=>encItem ((outP y0.fst y0.snd).getD i default)) (View.list [encItem p.snd.fst]))]) fun y1=>
    LP (eL6 kn7) (N) 0 (F_lru_Put) snK 0 [] (N) ({fr:=[(2,AV.int IntKind.i64 p.snd.snd),(7,AV.sn 4 0 ((outP y0.fst y0.snd).length+1)),(8,AV.int IntKind.i64 (↑(szL y1):Int)),(9,AV.int IntKind.i64 0)],hp:=[BS.seq true 4 ((outP y0.fst y0.snd).length+1) (appN (outP y0.fst y0.snd).length (fun i=>encItem ((outP y0.fst y0.snd).getD i default)) (View.list [encItem p.snd.fst]))]})
   else none
  else none
 else none:=by kernel_rfl
theorem Put_st(N:Nat)(m:Nat)(l:List Itm)(room:Int)(s:Int)(g:Int):LP (eL6 kn7) N 0 F_lru_Put snK 0 [] (m+1) (SPu l room s g) =
 bif decide (g<(↑l.length:Int))then
  bif decide (room<s)then
   bif decide (0<=g)&&decide (g<(↑l.length:Int))then
    bif g.toNat.blt l.length then
     gC (fun a=>decItem (argC a 0)) (ItmOk) (fun x=>[AV.agg (encItem x)]) ([AV.agg (encItem (l.getD g.toNat default))]) fun y2=>
     LP (eL6 kn7) (N) (0) (F_lru_Put) (snK) 0 ([]) (m) (SPu l room (IntKind.i64.wrap (s - (↑(szI y2):Int))) (IntKind.i64.wrap (g+1)))
    else none
   else none
  else
   bif decide ((↑l.length:Int)<=(↑l.length:Int))then
    bif decide ((↑l.length:Int)<=(↑(↑l.length:Int).toNat:Int))then
     bif decide (0<=g)&&decide (g<=(↑(↑l.length:Int).toNat:Int))then
      bif Nat.blt 0 l.length then
       bif(((↑l.length:Int).toNat - g.toNat).beq 0||((↑l.length:Int).toNat - g.toNat+g.toNat).ble l.length)&&true then
        gC (dTr) (pTr) (eTr 4) ([AV.tr 4 ((↑l.length:Int).toNat - g.toNat) fun i=>encItem (l.getD (i+g.toNat) default)]) fun y3=>
        some (AV.tr 4 y3.fst y3.snd)
       else none
      else none
     else none
    else none
   else none
 else
  bif decide ((↑l.length:Int)<=(↑l.length:Int))then
   bif decide ((↑l.length:Int)<=(↑(↑l.length:Int).toNat:Int))then
    bif decide (0<=g)&&decide (g<=(↑(↑l.length:Int).toNat:Int))then
     bif Nat.blt 0 l.length then
      bif(((↑l.length:Int).toNat - g.toNat).beq 0||((↑l.length:Int).toNat - g.toNat+g.toNat).ble l.length)&&true then
       gC (dTr) (pTr) (eTr 4) ([AV.tr 4 ((↑l.length:Int).toNat - g.toNat) fun i=>encItem (l.getD (i+g.toNat) default)]) fun y4=>
       some (AV.tr 4 y4.fst y4.snd)
      else none
     else none
    else none
   else none
  else none:=by kernel_rfl
def cutR(room:Int):List Itm->List Itm
 | []=>[]
 | x::r=>bif decide (room<(szL (x::r):Int))then cutR room r else x::r
def putP(p:LX):List Itm:=cutR p.2.2 (outP p.1 p.2.1.key++[p.2.1])
def pPut(p:LX):Prop:=ItmsOk p.1/\ItmOk p.2.1/\p.1.length<=10000
theorem outP_len(l:List Itm)(k:Txt):(outP l k).length<=l.length:=List.length_filter_le _ _
theorem outP_ok{l:List Itm}{k:Txt}(h:ItmsOk l):ItmsOk (outP l k):=⟨Nat.le_trans (outP_len l k) h.1,fun x hx=>h.2 x ((List.mem_filter.1 hx).1)⟩
theorem cutR_len(room:Int):∀ l,(cutR room l).length<=l.length
 | []=>Nat.le_refl _
 | x::r=>by
  unfold cutR
  cases decide (room<(szL (x::r):Int))with
  | true=>have:=cutR_len room r;simp;omega
  | false=>exact Nat.le_refl _
theorem put_end{l:List Itm}{g:Nat}(hg:g<=l.length)(h0:0<l.length)(hl:l.length<=100000){K:Nat × (Nat->List AV)->Option AV} :
  (bif decide ((l.length:Int)<=(l.length:Int))then bif decide ((l.length:Int)<=(((l.length:Int).toNat:Nat):Int))then bif decide ((0:Int)<=(g:Int))&&decide ((g:Int)<=(((l.length:Int).toNat:Nat):Int))then bif Nat.blt 0 l.length then
   bif(((l.length:Int).toNat - (g:Int).toNat).beq 0||((l.length:Int).toNat - (g:Int).toNat+(g:Int).toNat).ble l.length)&&true then gC dTr pTr (eTr 4) [.tr 4 ((l.length:Int).toNat - (g:Int).toNat) fun i=>encItem (l.getD (i+(g:Int).toNat) default)] K else none else none else none else none else none)
   = K (l.length - g,fun i=>encItem (l.getD (i+g) default)):=by
 simp only[Int.toNat_natCast]
 rw[decide_eq_true (Int.le_refl _),decide_eq_true (by omega),decide_eq_true (by omega),cond_true,cond_true,Bool.and_true,cond_true,blt_true h0,cond_true,ble_true (by omega),Bool.or_true,Bool.and_true,cond_true]
 exact qTr (by omega)
theorem put_con(p:LX)(h:pPut p):Contract PG F_lru_Put (ePut p) [] (encItems (putP p)) []:=by
 obtain⟨h1,h2,h3⟩:=h
 obtain⟨N,hN⟩:∃ N,N=200000:=⟨_,rfl⟩
 have ho:=outP_ok (k:=p.2.1.key) h1
 have hol:=outP_len p.1 p.2.1.key
 obtain⟨l,hl⟩:∃ l,l=outP p.1 p.2.1.key++[p.2.1]:=⟨_,rfl⟩
 have hlen:l.length=(outP p.1 p.2.1.key).length+1:=by rw[hl,List.length_append];rfl
 have hlo:ItmsOk l:=⟨by omega,fun x hx=>by
  rw[hl]at hx
  rcases List.mem_append.1 hx with h | h
  ·exact ho.2 x h
  ·simp at h;exact h ▸ h2⟩
 have run:∀ d g m,g+d=l.length->d<m -> ∃ k,k<=l.length/\cutR p.2.2 (l.drop g)=l.drop k/\LP (eL6 kn7) N 0 F_lru_Put snK 0 [] m (SPu l p.2.2 (szL (l.drop g):Nat) (g:Nat))=some (.tr 4 (l.length - k) fun i=>encItem (l.getD (i+k) default)):=by
  intro d
  induction d with
  | zero=>
   intro g m hg hm
   obtain⟨m,rfl⟩:∃ k,m=k+1:=⟨m - 1,by omega⟩
   refine⟨g,by omega,by rw[List.drop_eq_nil_of_le (by omega)];rfl,?_⟩
   rw[Put_st,decide_eq_false (by omega),cond_false]
   exact put_end (by omega) (by omega) (by omega)
  | succ d ih=>
   intro g m hg hm
   obtain⟨m,rfl⟩:∃ k,m=k+1:=⟨m - 1,by omega⟩
   have hgl:g<l.length:=by omega
   have hd:=drop_cons (z:=(default:Itm)) hgl
   have hs:szL (l.drop g)=szI (l.getD g default)+szL (l.drop (g+1)):=by rw[hd];simp[szL]
   have hb:=szL_le (l:=l.drop g) fun x hx=>hlo.2 x (List.mem_of_mem_drop hx)
   rw[List.length_drop]at hb
   rw[Put_st,decide_eq_true (by omega),cond_true]
   cases hc:decide (p.2.2<((szL (l.drop g):Nat):Int))with
   | true=>
    rw[cond_true,decide_eq_true (by omega),Bool.and_true,cond_true,Int.toNat_natCast,blt_true hgl,cond_true]
    obtain⟨k,k1,k2,k3⟩:=ih (g+1) m (by omega) (by omega)
    refine⟨k,k1,?_,?_⟩
    ·rw[hd,cutR,<- hd,hc,cond_true];exact k2
    ·refine(gSz1_eq (getI_ok hlo hgl)).trans ?_
     rw[show((szL (l.drop g):Nat):Int) - (szI (l.getD g default):Nat)=((szL (l.drop (g+1)):Nat):Int) by omega,w64 (by omega),wrapS (by omega)]
     exact k3
   | false=>
    refine⟨g,by omega,by rw[hd,cutR,<- hd,hc,cond_false],?_⟩
    rw[cond_false]
    exact put_end (by omega) (by omega) (by omega)
 obtain⟨k,k1,k2,k3⟩:=run l.length 0 N (by omega) (by omega)
 rw[List.drop_zero]at k2 k3
 have e:=Put_in N p
 rw[qOut h1.1]at e
 simp only at e
 rw[ble_true (Nat.le_refl _),cond_true,ble_true (by omega),ble_true (by omega),Bool.and_true,cond_true,ble_true (Nat.le_refl _),Bool.and_true,cond_true]at e
 have hq:(.tr 4 ((outP p.1 p.2.1.key).length+1) (appN (outP p.1 p.2.1.key).length (fun i=>encItem ((outP p.1 p.2.1.key).getD i default)) (View.list [encItem p.2.1])):AV)=encItems l:=by
  rw[appN_one,hl]
  unfold encItems encL
  rw[List.length_append];rfl
 rw[hq,qSz hlo]at e
 have hb2:BS.seq true 4 ((outP p.1 p.2.1.key).length+1) (appN (outP p.1 p.2.1.key).length (fun i=>encItem ((outP p.1 p.2.1.key).getD i default)) (View.list [encItem p.2.1]))=sqL 4 encItem default l:=by rw[hl];exact sqL_one _ _ _ _ _
 rw[hb2]at e
 rw[show(outP p.1 p.2.1.key).length+1=l.length from hlen.symm]at e
 have c:=conN kn7_ok (e.trans k3)
 refine c.res ?_
 show SubV _ (encItems (cutR p.2.2 (outP p.1 p.2.1.key++[p.2.1])))
 rw[<- hl,k2]
 unfold encItems encL
 rw[List.length_drop]
 refine .trs fun i hi=>?_
 have:(l.drop k).getD i default=l.getD (i+k) default:=by
  simp only[List.getD,List.getElem?_drop];rw[Nat.add_comm]
 rw[this];exact .refl _
def kPut:Known:=.spec F_lru_Put (fun a=>(decL decItem (a.getD 0 .nils),decItem (argC a 1),getI a 2)) pPut ePut (fun p=>encItems (putP p))
theorem kPut_ok:kPut.Ok PG:=Known.spec_ok put_con
def fG(key:Txt):AV:=.fn (.func F_lru_Get_c1) [] [.tp [.str key] 0]
def eG(l:List Known):Env:=envN [] [(F_slices_Clone_api_Item,0),(F_slices_IndexFunc_api_Item,0),(F_lru_Get_c1,0),(F_lru_Out,1)] [] l
def xG(a:List AV):Itm × Txt:=(decItem (argC a 0),dTp0 a)
def yG(q:Itm × Txt):List AV:=[.agg (encItem q.1),.tp [.str q.2] 0]
theorem cG_eq(q:Itm × Txt):callT (eG []) 9 F_lru_Get_c1 (yG q)=some (.bool (strBeq q.1.key q.2)):=by kernel_rfl
def kCG:Known:=.spec F_lru_Get_c1 xG (fun _=>True) yG (fun q=>.bool (strBeq q.1.key q.2))
theorem kCG_ok:kCG.Ok PG:=Known.spec_ok fun q _=>conN (fun k hk=>by cases hk) (cG_eq q)
def gG{R:Type}(q:Itm × Txt)(k:Itm × Txt->Option R):Option R:=gC xG (fun _=>True) yG (yG q) k
theorem gG_eq{R:Type}(q:Itm × Txt)(k:Itm × Txt->Option R):gG q k=k q:=gC_eq q rfl trivial (.refl _)
def SIG(l:List Itm)(key:Txt)(i:Int):St:={fr:=[(0,encItems l),(1,fG key),(7,.int .i64 l.length),(8,.int .i64 i)],hp:=[]}
def LIG(N m:Nat)(l:List Itm)(key:Txt)(i:Int):Option AV:=LP (eG [kCG]) N 0 F_slices_IndexFunc_api_Item snK 0 [] m (SIG l key i)
theorem iG_in(N:Nat)(p:YO):callT (eG [kCG]) (N+1) F_slices_IndexFunc_api_Item [encItems p.1,fG p.2]=LIG N N p.1 p.2 0:=by kernel_rfl
theorem iG_st(N m:Nat)(l:List Itm)(key:Txt)(i:Int):LIG N (m+1) l key i=bif decide (i<(l.length:Int))then rg i l.length (gG (l.getD i.toNat default,key) fun q=>bif strBeq q.1.key q.2 then some (.int .i64 i)else LIG N m l key (IntKind.i64.wrap (i+1)))else some (.int .i64 (-1)):=by kernel_rfl
def eIG(p:YO):List AV:=[encItems p.1,fG p.2]
def dIG(a:List AV):YO:=(decL decItem (a.getD 0 .nils),match a.getD 1 .nils with
 | .fn _ _ [.tp [.str s] _]=>s
 | _=>[])
theorem iG_con(p:YO)(h:pLO p):Contract PG F_slices_IndexFunc_api_Item (eIG p) [] (.int .i64 (ixFrom (fun x=>strBeq x.key p.2) p.1 0)) []:=by
 obtain⟨N,hN⟩:∃ N,N=200000:=⟨_,rfl⟩
 refine conN (ak kCG_ok ank) ((iG_in N p).trans ?_)
 have:=idx_run (p:=fun x=>strBeq x.key p.2) (l:=p.1) (z:=default) (L:=fun m i=>LIG N m p.1 p.2 i) (A:=fun i=>some (AV.int .i64 i)) h
  (fun m i=>by
   rw[iG_st]
   cases hd:decide (i<(p.1.length:Int))with
   | false=>rfl
   | true=>
    rw[cond_true,cond_true]
    unfold rg
    cases hg:decide (0<=i)with
    | false=>rfl
    | true=>
     have h1:=of_decide_eq_true hd
     have h2:=of_decide_eq_true hg
     rw[blt_true (by omega),gG_eq];rfl) p.1.length 0 N (by omega) (by unfold pLO at h;omega)
 rw[List.drop_zero]at this
 exact this
def kIG:Known:=.spec F_slices_IndexFunc_api_Item dIG pLO eIG (fun p=>.int .i64 (ixFrom (fun x=>strBeq x.key p.2) p.1 0))
theorem kIG_ok:kIG.Ok PG:=Known.spec_ok iG_con
theorem qIG{R:Type}{l:List Itm}{key:Txt}{k:YO->Option R}(h:l.length<=100000):gC dIG pLO eIG [.tr 4 l.length fun i=>encItem (l.getD i default),.fn (.func F_lru_Get_c1) [] [.tp [.str key] 0]] k=k (l,key):=gC_eq (l,key) (Prod.ext (decItems l) rfl) h (.refl _)
def kn8:List Known:=[kIG,kCloT F_slices_Clone_api_Item 4,kOut]
theorem kn8_ok:∀ k ∈ kn8,k.Ok PG:=ak kIG_ok (ak kCloIT_ok (ak kOut_ok ank))
theorem Get_eq(l:List Itm)(key:Txt):callT (eG kn8) 9 F_lru_Get [encItems l,AV.str key] =
 gC (dIG) (pLO) (eIG) ([AV.tr 4 l.length fun i=>encItem (l.getD i default),AV.fn (Fn.func F_lru_Get_c1) [] [AV.tp [AV.str key] 0]]) fun y0=>
 bif decide (ixFrom (fun x=>strBeq x.key y0.snd) y0.fst 0<0)then
  gC (dTr) (pTr) (eTr 4) ([AV.tr 4 l.length fun i=>encItem (l.getD i default)]) fun y1=>
  some (AV.tup [AV.agg [AV.str [],AV.str [],AV.bool false,AV.cplx FloatKind.f64 0 0],AV.tr 4 y1.fst y1.snd,AV.bool false])
 else
  bif decide (0<=ixFrom (fun x=>strBeq x.key y0.snd) y0.fst 0)&&decide (ixFrom (fun x=>strBeq x.key y0.snd) y0.fst 0<(↑l.length:Int))then
   gC (dOut) (pLO) (eOut) ([AV.tr 4 l.length fun i=>encItem (l.getD i default),AV.str key]) fun y2=>
   bif decide (0<=ixFrom (fun x=>strBeq x.key y0.snd) y0.fst 0)&&decide (ixFrom (fun x=>strBeq x.key y0.snd) y0.fst 0<(↑l.length:Int))then
    bif(outP y2.fst y2.snd).length.ble (outP y2.fst y2.snd).length then
     bif(((outP y2.fst y2.snd).length+1)*56).ble 140737488355328&&((outP y2.fst y2.snd).length+1).ble 140737488355328 then
      bif((outP y2.fst y2.snd).length+1).ble ((outP y2.fst y2.snd).length+1)&&true then
       some (AV.tup [AV.agg (encItem (l.getD (ixFrom (fun x=>strBeq x.key y0.snd) y0.fst 0).toNat default)),AV.tr 4 ((outP y2.fst y2.snd).length+1) (appN (outP y2.fst y2.snd).length (fun i=>encItem ((outP y2.fst y2.snd).getD i default)) (View.list [encItem (l.getD (ixFrom (fun x=>strBeq x.key y0.snd) y0.fst 0).toNat default)])),AV.bool true])
      else none
     else none
    else none
   else none
  else none:=by kernel_rfl
def getP(l:List Itm)(key:Txt):Option Itm:=l.find? fun x=>strBeq x.key key
def getO(p:YO):Itm × List Itm × Bool:=match getP p.1 p.2 with
 | some x=>(x,outP p.1 p.2++[x],true)
 | none=>(default,p.1,false)
def encGet(o:Itm × List Itm × Bool):AV:=.tup [.agg (encItem o.1),encItems o.2.1,.bool o.2.2]
theorem find_none{X:Type}{p:X->Bool}{l:List X}(h:∀ x ∈ l,p x=false):l.find? p=none:=List.find?_eq_none.2 fun x hx=>by rw[h x hx];simp
theorem find_at{X:Type}{p:X->Bool}{z:X}:∀ (l:List X) (k:Nat),k<l.length->p (l.getD k z)=true->(∀ x ∈ l.take k,p x=false)->l.find? p=some (l.getD k z)
 | [],k,h,_,_=>absurd h (Nat.not_lt_zero k)
 | x::r,0,_,h,_=>by
  have:p x=true:=by simpa using h
  simp[this]
 | x::r,k+1,h,h1,h2=>by
  have hx:p x=false:=h2 x (by simp)
  rw[List.find?_cons,hx]
  have:=find_at (z:=z) r k (by simpa using h) (by simpa using h1) fun y hy=>h2 y (by simp[hy])
  simpa using this
theorem get_con(p:YO)(h:pLO p):Contract PG F_lru_Get (eOut p) [] (encGet (getO p)) []:=by
 unfold pLO at h
 have e:=Get_eq p.1 p.2
 rw[qIG h]at e
 simp only at e
 by_cases hi:ixFrom (fun x=>strBeq x.key p.2) p.1 0 = -1
 ·have hn:=find_none ((ixFrom_none p.1 0).1 hi)
  rw[decide_eq_true (by omega),cond_true,qTr h]at e
  have:encGet (getO p)=.tup [.agg (encItem default),encItems p.1,.bool false]:=by
   unfold getO getP;rw[hn];rfl
  rw[this]
  exact conN kn8_ok e
 ·obtain⟨k,h1,h2,h3,h4⟩:=ixFrom_some default p.1 0 hi
  rw[Nat.zero_add]at h1
  have hf:=find_at (z:=default) p.1 k h2 h3 h4
  have ho:=outP_len p.1 p.2
  rw[h1]at e
  rw[decide_eq_false (by omega),cond_false,decide_eq_true (by omega),decide_eq_true (by omega),Bool.and_true,cond_true,qOut h]at e
  simp only[Int.toNat_natCast]at e
  rw[ble_true (Nat.le_refl _),cond_true,ble_true (by omega),ble_true (by omega),Bool.and_true,cond_true,ble_true (Nat.le_refl _),Bool.and_true,cond_true]at e
  have:encGet (getO p)=.tup [.agg (encItem (p.1.getD k default)),encItems (outP p.1 p.2++[p.1.getD k default]),.bool true]:=by
   unfold getO getP;rw[hf];rfl
  rw[this]
  have hq:encItems (outP p.1 p.2++[p.1.getD k default])=.tr 4 ((outP p.1 p.2).length+1) (appN (outP p.1 p.2).length (fun i=>encItem ((outP p.1 p.2).getD i default)) (View.list [encItem (p.1.getD k default)])):=by
   rw[appN_one];unfold encItems encL;rw[List.length_append];rfl
  rw[hq]
  exact conN kn8_ok e
def kGet:Known:=.spec F_lru_Get dOut pLO eOut (fun p=>encGet (getO p))
theorem kGet_ok:kGet.Ok PG:=Known.spec_ok get_con
end Go.Hd
end
